/- What the document's functions of expressions answer, and those that make and measure them, over trees. -/
import Derived.Test.YtcdkdmjedkhpiaaDoorZSpDec
import Derived.Test.YtcdkdmjedkhpiaaDoorZSpValB
import Derived.Test.YtcdkdmjedkhpiaaDoorS1
set_option linter.unusedSimpArgs false
set_option linter.unusedVariables false
namespace Go.Proofs.YtcdkdmjedkhpiaaDoor
open Go Go.Abs

@[simp] theorem intV_eq {n : Int} : intV n = .mk 1 n false [] [] := id rfl
@[simp] theorem boolV_eq {b : Bool} : boolV b = .mk 2 0 b [] [] := id rfl
@[simp] theorem strV_eq {s : List UInt8} : strV s = .mk 3 0 false s [] := id rfl
@[simp] theorem tupV_eq {l : List Va} : tupV l = .mk 4 0 false [] l := id rfl
@[simp] theorem zeroV_eq : zeroV = .mk 0 0 false [] [] := id rfl
@[simp] theorem plainT_eq {k : Int} : plainT k = .mk k [] := id rfl

def xE : Ex := .mk oX zeroV 0 []
def litE (v : Va) : Ex := .mk oLit v 0 []
def opE (op : List UInt8) (a : List Ex) : Ex := .mk op zeroV 0 a
@[simp] theorem xE_eq : xE = .mk oX zeroV 0 [] := id rfl
@[simp] theorem litE_eq {v : Va} : litE v = .mk oLit v 0 [] := id rfl
@[simp] theorem opE_eq {op : List UInt8} {a : List Ex} : opE op a = .mk op zeroV 0 a := id rfl

/- How many ops. -/
theorem sizeEs_drop (l : List Ex) (i : Nat) (h : i < l.length) : sizeEs (l.drop i) = sizeE l[i] + sizeEs (l.drop (i + 1)) := by
  rw [List.drop_eq_getElem_cons h]
  simp [sizeEs]

/- How much there is. -/
mutual
def budE : Ex → Int → Int → Int
  | .mk op v _ a, d, l => if l ≤ 0 ∨ d ≤ 0 ∨ 12 < a.length ∨ 20 < op.length ∨ fewV v = false then 0 else budEs a (d - 1) (l - 1)
def budEs : List Ex → Int → Int → Int
  | [], _, l => l
  | e :: r, d, l => if l ≤ 0 then l else budEs r d (budE e d l)
end

mutual
theorem budE_le : ∀ (e : Ex) (d l : Int), 0 ≤ l → 0 ≤ budE e d l ∧ budE e d l ≤ l
  | .mk op v n a, d, l, h => by
    simp only [budE]
    split
    · omega
    · have := budEs_le a (d - 1) (l - 1) (by omega)
      omega
theorem budEs_le : ∀ (r : List Ex) (d l : Int), 0 ≤ l → 0 ≤ budEs r d l ∧ budEs r d l ≤ l
  | [], d, l, h => by simp [budEs]; omega
  | e :: r, d, l, h => by
    simp only [budEs]
    split
    · omega
    · have h1 := budE_le e d l h
      have h2 := budEs_le r d (budE e d l) h1.1
      omega
end

theorem budEs_pos : ∀ (r : List Ex) (d l : Int), 0 < budEs r d l → 0 < l
  | [], d, l, h => by simpa [budEs] using h
  | e :: r, d, l, h => by
    simp only [budEs] at h
    split at h
    · omega
    · omega

theorem budEs_zero : ∀ (r : List Ex) (d l : Int), l ≤ 0 → budEs r d l = l
  | [], d, l, h => by simp [budEs]
  | v :: r, d, l, h => by simp [budEs, h]

mutual
theorem budE_small : ∀ (e : Ex) (d l : Int), 0 < budE e d l → We 300 e ∧ sizeE e + budE e d l ≤ l
  | .mk op v n a, d, l, h => by
    simp only [budE] at h ⊢
    split at h
    · omega
    · rename_i hc
      rw [if_neg hc]
      have := budEs_small a (d - 1) (l - 1) h
      have hv : fewV v = true := by
        cases hf : fewV v with
        | true => rfl
        | false => exact absurd (.inr (.inr (.inr (.inr hf)))) hc
      exact ⟨.mk op v n a (fewV_small hv) (by omega) this.1, by simp only [sizeE]; omega⟩
theorem budEs_small : ∀ (r : List Ex) (d l : Int), 0 < budEs r d l → (∀ e ∈ r, We 300 e) ∧ sizeEs r + budEs r d l ≤ l
  | [], d, l, h => by simp [budEs, sizeEs]
  | e :: r, d, l, h => by
    simp only [budEs] at h ⊢
    split at h
    · omega
    · rename_i hc
      rw [if_neg hc]
      have h1 := budE_small e d l (budEs_pos r d _ h)
      have h2 := budEs_small r d _ h
      refine ⟨fun x hx => ?_, by simp only [sizeEs]; omega⟩
      simp only [List.mem_cons] at hx
      rcases hx with rfl | hx
      · exact h1.1
      · exact h2.1 x hx
end

def fewE (e : Ex) : Bool := decide (0 < budE e 20 400)
theorem fewE_small {e : Ex} (h : fewE e = true) : We 300 e ∧ sizeE e ≤ 400 := by
  have := budE_small e 20 400 (by simpa [fewE] using h)
  simp [fewE] at h
  exact ⟨this.1, by omega⟩

/- The document's check. -/
def nilV (v : Va) : Bool := decide (cmpV v zeroV = 0)
theorem nilV_iff {v : Va} : nilV v = true ↔ v = zeroV := by
  unfold nilV
  rw [decide_eq_true_iff, cmpV_zero]

theorem Plain_spec (k : Int) : Abs.Fn Tryd.prog runnelref6_Plain_i [] [.p (.int .i64 k)] (.p (encT (plainT k))) [] := by
  apply runnelref6_Plain_fn
  simp [runnelref6_Plain]
  exact gives_pure (by simp [AV.pur, plainT])

/-- What an answer with a type is. -/
def tyR (r : R Ty) : AV := .tup [.p (encT (r.get (.mk 0 []))), .p (.int .i64 r.num)]

theorem tyR_gives {r : R Ty} {vs : List AV} {H : List Ob} (h : toTs vs = some [encT (r.get (.mk 0 [])), .int .i64 r.num]) : Gives 0 (.tup vs) H (tyR r) [] := gives_pure (pur_tup h)

/-- Are there as many as an op has? -/
def ArOk (op : List UInt8) (m : Nat) : Prop := if arE op = -1 then 1 ≤ m ∧ m ≤ 8 else (m : Int) = arE op

def opAll (op : List UInt8) : Int × Int := if op = oNeg ∨ op = oAdd ∨ op = oSub ∨ op = oMul ∨ op = oDiv ∨ op = oRem then (1, 1) else if op = oNot ∨ op = oAnd ∨ op = oOr then (2, 2) else if op = oCat then (3, 3) else if op = oLen then (3, 1) else (0, 0)

theorem opT_rest {op : List UInt8} {n : Int} {l : List Ty} (h1 : op ≠ oAt) (h2 : op ≠ oTup) (h3 : op ≠ oEq) (h4 : op ≠ oLt) (h5 : op ≠ oIf) : opT op n l = if l.all (fun t => decide (t.kind = (opAll op).1)) then .ok (plainT (opAll op).2) else .er 5 := by
  simp only [opT, h1, h2, h3, h4, h5, if_false, or_self]
  rfl

theorem all_drop {α : Type} (f : α → Bool) (l : List α) (i : Nat) (h : i < l.length) : (l.drop i).all f = (f l[i] && (l.drop (i + 1)).all f) := by
  rw [List.drop_eq_getElem_cons h]
  rfl

theorem OpType_loop (l : List Ty) (op : List UInt8) (n : Int) (a b : Int) (h1 : op ≠ oAt) (h2 : op ≠ oTup) (h3 : op ≠ oEq) (h4 : op ≠ oLt) (h5 : op ≠ oIf) (hab : opAll op = (a, b)) :
    runnelref6_OpType_J1 (.p (.slice (l.map encT))) (.bptr 0 0) (.p (.int .i64 a)) (.p (.int .i64 b)) [.box [.p (.int .i64 0), .full []]] (fun v H' => Gives 0 v H' (tyR (opT op n l)) []) := by
  simp [runnelref6_OpType_J1]
  refine loop_by (σ := Nat) (n := 1) (fun i => [.p (.int .i64 i)]) (fun _ => [.box [.p (.int .i64 0), .full []]]) (fun i => i ≤ l.length ∧ (l.drop i).all (fun t => decide (t.kind = a)) = l.all (fun t => decide (t.kind = a))) (fun i => l.length - i) [] 0 (fun _ => rfl) ⟨rfl, rfl⟩ (by simp) (fun i B hi hB => ?_)
  obtain ⟨g1, g2⟩ := hi
  simp [runnelref6_OpType_L1]
  intro hl
  refine ⟨fun hlt => ?_, fun hge => ?_⟩
  · have hd := all_drop (fun t => decide (t.kind = a)) l i hlt
    rw [g2] at hd
    simp [hlt]
    refine ⟨fun hz => ?_, fun hz => ?_⟩
    · refine tyR_gives ?_
      rw [opT_rest h1 h2 h3 h4 h5, hab, hd]
      simp [hz, R.get, R.num]
    · rw [IntWalk.i64_in _ (by simp [maxLen] at hl; omega)]
      exact hB (i + 1) _ ⟨by omega, by simp [hd, hz]⟩ (by omega) (by simp) (by simp [Ob.below, AV.under1]) (by simp) (by simp [AV.under, AV.under1])
  · have : i = l.length := by omega
    subst this
    simp at g2
    (first | refine aCall_fold rfl ?_ | refine aCallT_fold rfl ?_)
    (first | refine aCallU_p (Plain_spec _) ?_ | refine aCallTU_p (Plain_spec _) ?_ | refine aCallU_of (Plain_spec _) ?_ | refine aCallTU_of (Plain_spec _) rfl ?_ | refine aCallTU_of (Plain_spec _) (by simp [AV.pur]; rfl) ?_)
    try simp
    refine tyR_gives ?_
    rw [opT_rest h1 h2 h3 h4 h5, hab, if_pos (by simpa using g2)]
    simp [R.get, R.num, plainT]

theorem OpType_spec (op : List UInt8) (n : Int) (l : List Ty) (ha : ArOk op l.length) : Abs.Fn Tryd.prog runnelref6_OpType_i [] [.p (.str op), .p (.int .i64 n), .p (.slice (l.map encT))] (tyR (opT op n l)) [] := by
  apply runnelref6_OpType_fn
  simp [runnelref6_OpType]
  refine ⟨fun hop => ?_, fun h1 => ⟨fun hop => ?_, fun h2 => ⟨fun hop => ?_, fun h3 h4 => ⟨fun hop => ?_, fun h5 => ?_⟩⟩⟩⟩
  · have hop : op = oAt := hop
    subst hop
    simp [ArOk, arE] at ha
    obtain ⟨t, rfl⟩ : ∃ t, l = [t] := by
      match l, ha with
      | [t], _ => exact ⟨t, rfl⟩
    simp
    refine ⟨fun h => tyR_gives (by simp [opT, h, R.get, R.num]), fun h => ⟨fun hn => tyR_gives ?_, fun hn hl => ?_⟩⟩
    · simp only [opT, if_true, h, ne_eq, not_true, if_false]
      rw [if_pos hn]
      simp [R.get, R.num]
    · have hlt : n.toNat < t.of.length := by omega
      simp [hlt]
      refine ⟨by omega, tyR_gives ?_⟩
      simp only [opT, if_true, h, ne_eq, not_true, if_false]
      rw [if_neg (by omega)]
      simp [R.get, R.num, hlt]
  · have hop : op = oTup := hop
    subst hop
    (first | refine aCall_fold rfl ?_ | refine aCallT_fold rfl ?_)
    (first | refine aCallU_p (CheckType_spec _) ?_ | refine aCallTU_p (CheckType_spec _) ?_ | refine aCallU_of (CheckType_spec _) ?_ | refine aCallTU_of (CheckType_spec _) rfl ?_ | refine aCallTU_of (CheckType_spec _) (by simp [AV.pur]; rfl) ?_)
    try simp
    refine ⟨fun h => tyR_gives ?_, fun h => tyR_gives ?_⟩
    · simp [opT, h, R.get, R.num]
    · simp [opT, h, R.get, R.num]
  · have hop' : op = oEq ∨ op = oLt := hop
    have h2l : l.length = 2 := by rcases hop' with rfl | rfl <;> simp [ArOk, arE] at ha <;> omega
    match l, h2l with
    | [a, b], _ =>
      simp
      (first | refine aCall_fold rfl ?_ | refine aCallT_fold rfl ?_)
      (first | refine aCallU_p (sameType_spec _ _) ?_ | refine aCallTU_p (sameType_spec _ _) ?_ | refine aCallU_of (sameType_spec _ _) ?_ | refine aCallTU_of (sameType_spec _ _) rfl ?_ | refine aCallTU_of (sameType_spec _ _) (by simp [AV.pur]; rfl) ?_)
      try simp
      refine ⟨fun h => tyR_gives ?_, fun h => ?_⟩
      · rcases hop' with rfl | rfl <;> simp [opT, h, R.get, R.num]
      · (first | refine aCall_fold rfl ?_ | refine aCallT_fold rfl ?_)
        (first | refine aCallU_p (Plain_spec _) ?_ | refine aCallTU_p (Plain_spec _) ?_ | refine aCallU_of (Plain_spec _) ?_ | refine aCallTU_of (Plain_spec _) rfl ?_ | refine aCallTU_of (Plain_spec _) (by simp [AV.pur]; rfl) ?_)
        try simp
        refine tyR_gives ?_
        rcases hop' with rfl | rfl <;> simp [opT, h, R.get, R.num, plainT]
  · have hop : op = oIf := hop
    subst hop
    simp [ArOk, arE] at ha
    match l, (by omega : l.length = 3) with
    | [a, b, c], _ =>
      simp
      refine ⟨fun h => tyR_gives (by simp [opT, h, R.get, R.num]), fun h => ?_⟩
      (first | refine aCall_fold rfl ?_ | refine aCallT_fold rfl ?_)
      (first | refine aCallU_p (sameType_spec _ _) ?_ | refine aCallTU_p (sameType_spec _ _) ?_ | refine aCallU_of (sameType_spec _ _) ?_ | refine aCallTU_of (sameType_spec _ _) rfl ?_ | refine aCallTU_of (sameType_spec _ _) (by simp [AV.pur]; rfl) ?_)
      try simp
      refine ⟨fun h2 => tyR_gives ?_, fun h2 => tyR_gives ?_⟩
      · simp [opT, h, h2, R.get, R.num]
      · simp [opT, h, h2, R.get, R.num]
  · have g1 : op ≠ oAt := h1
    have g2 : op ≠ oTup := h2
    have g3 : op ≠ oEq := h3
    have g4 : op ≠ oLt := h4
    have g5 : op ≠ oIf := h5
    refine ⟨fun h => OpType_loop l op n 1 1 g1 g2 g3 g4 g5 (by simp only [opAll]; rw [if_pos h]), fun k1 k2 k3 k4 k5 k6 => ⟨fun h => OpType_loop l op n 2 2 g1 g2 g3 g4 g5 ?_, fun k7 k8 k9 => ⟨fun h => OpType_loop l op n 3 3 g1 g2 g3 g4 g5 ?_, fun k10 => ⟨fun h => OpType_loop l op n 3 1 g1 g2 g3 g4 g5 ?_, fun k11 => OpType_loop l op n 0 0 g1 g2 g3 g4 g5 ?_⟩⟩⟩⟩
    · simp only [opAll]; rw [if_neg (by simp [*]), if_pos h]
    · simp only [opAll]; rw [if_neg (by simp [*]), if_neg (by simp [*]), if_pos h]
    · simp only [opAll]; rw [if_neg (by simp [*]), if_neg (by simp [*]), if_neg (by simp [*]), if_pos h]
    · simp only [opAll]; rw [if_neg (by simp [*]), if_neg (by simp [*]), if_neg (by simp [*]), if_neg (by simp [*])]

end Go.Proofs.YtcdkdmjedkhpiaaDoor
