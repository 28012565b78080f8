/- What the document's functions of expressions answer, and those that make and measure them, over trees. -/
import Derived.Test.YtijnpcociedigaaGreatDoorZSpDec
import Derived.Test.YtijnpcociedigaaGreatDoorZSpValBQ
import Derived.Test.YtijnpcociedigaaGreatDoorS1
set_option linter.unusedSimpArgs false
set_option linter.unusedVariables false
namespace Go.Proofs.YtijnpcociedigaaGreatDoor
open Go Go.Abs

@[simp] theorem intV_eq {n : Int} : intV n = .mk 1 n false [] [] := id rfl
@[simp] theorem boolV_eq {b : Bool} : boolV b = .mk 2 0 b [] [] := id rfl
@[simp] theorem strV_eq {s : List UInt8} : strV s = .mk 3 0 false s [] := id rfl
@[simp] theorem tupV_eq {l : List Va} : tupV l = .mk 4 0 false [] l := id rfl
@[simp] theorem zeroV_eq : zeroV = .mk 0 0 false [] [] := id rfl
@[simp] theorem plainT_eq {k : Int} : plainT k = .mk k [] := id rfl

def xE : Ex := .mk oX zeroV 0 []
def litE (v : Va) : Ex := .mk oLit v 0 []
def opE (op : List UInt8) (a : List Ex) : Ex := .mk op zeroV 0 a
@[simp] theorem xE_eq : xE = .mk oX zeroV 0 [] := id rfl
@[simp] theorem litE_eq {v : Va} : litE v = .mk oLit v 0 [] := id rfl
@[simp] theorem opE_eq {op : List UInt8} {a : List Ex} : opE op a = .mk op zeroV 0 a := id rfl

theorem X_spec : Abs.Fn Tryz.prog runnellaw4_X_i [] [] (.p (encE xE)) [] := by
  apply runnellaw4_X_fn
  simp [runnellaw4_X]
  exact gives_pure (by simp [AV.pur])
theorem Lit_spec (v : Va) : Abs.Fn Tryz.prog runnellaw4_Lit_i [] [.p (encV v)] (.p (encE (litE v))) [] := by
  apply runnellaw4_Lit_fn
  simp [runnellaw4_Lit]
  exact gives_pure (by simp [AV.pur])
theorem Op4_spec (op : List UInt8) (a : List Ex) : Abs.Fn Tryz.prog runnellaw4_Op_i [] [.p (.str op), .p (.slice (a.map encE))] (.p (encE (opE op a))) [] := by
  apply runnellaw4_Op_fn
  simp [runnellaw4_Op]
  exact gives_pure (by simp [AV.pur])

theorem of4_spec {e : Ex} (h : We 1000000000 e) : Abs.Fn Tryz.prog runnellaw4_Of_i [] [.p (encE e)] (.p (encE e)) [] := by
  induction h with
  | mk op v n a hv hl ho ih =>
    apply runnellaw4_Of_fn
    simp [runnellaw4_Of]
    (first | refine aCall_fold rfl ?_ | refine aCallT_fold rfl ?_)
    (first | refine aCallU_p (of2_spec hv) ?_ | refine aCallTU_p (of2_spec hv) ?_ | refine aCallU_of (of2_spec hv) ?_ | refine aCallTU_of (of2_spec hv) rfl ?_ | refine aCallTU_of (of2_spec hv) (by simp [AV.pur]; rfl) ?_)
    try simp
    refine loop_by (σ := Nat) (n := 4) (fun j => [.p (.int .i64 j)]) (fun j => [.box [.p (.str op), .p (.int .i64 v.k), .p (.int .i64 v.i), .p (.bool v.b), .p (.str v.s), .p (.slice (v.t.map encV)), .p (.int .i64 n), .p (.slice (a.map encE))],
      .box [.p (.str []), .p (.int .i64 0), .p (.int .i64 0), .p (.bool false), .p (.str []), .full [], .p (.int .i64 0), .full []],
      .box [.p (.str op), .p (.int .i64 v.k), .p (.int .i64 v.i), .p (.bool v.b), .p (.str v.s), .p (.slice (v.t.map encV)), .p (.int .i64 n), .own 3 ((a.map encE).take j)], .row j 8])
      (fun j => j ≤ a.length) (fun j => a.length - j) [.cell 2 7 8] 0 (fun _ => rfl) (by simp [ghosts, ghost]) (by simp) (fun j B hj hB => ?_)
    simp [runnellaw4_Of_L1]
    intro _
    refine ⟨fun hlt => ?_, fun hge => ?_⟩
    · have hi := ih a[j] (by simp)
      simp [hlt]
      (first | refine aCall_fold rfl ?_ | refine aCallT_fold rfl ?_)
      (first | refine aCallU_p (hi) ?_ | refine aCallTU_p (hi) ?_ | refine aCallU_of (hi) ?_ | refine aCallTU_of (hi) rfl ?_ | refine aCallTU_of (hi) (by simp [AV.pur]; rfl) ?_)
      try simp
      refine ⟨by omega, ⟨encE_sizeT a j, by simp, by simp; omega⟩, ?_⟩
      simp (disch := omega) only [IntWalk.i64_in]
      have := take_snoc (l := a.map encE) (i := j) (by simpa using hlt)
      simp at this
      rw [this]
      exact hB (j + 1) _ (by omega) (by omega) (by simp) (by simp [Ob.below, AV.under1]) (by simp) (by simp [AV.under, AV.under1])
    · rw [List.take_of_length_le (by simpa using hge)]
      exact gives_pure (by simp [AV.pur])

/- How many ops. -/
theorem sizeEs_drop (l : List Ex) (i : Nat) (h : i < l.length) : sizeEs (l.drop i) = sizeE l[i] + sizeEs (l.drop (i + 1)) := by
  rw [List.drop_eq_getElem_cons h]
  simp [sizeEs]

theorem sizeR_spec : ∀ (e : Ex) (_ : sizeE e ≤ 1000000000), Abs.Fn Tryz.prog runnelref6_Size_i [] [.p (encE e)] (.p (.int .i64 (sizeE e))) []
  | .mk op v n a, hs => by
    apply runnelref6_Size_fn
    simp [runnelref6_Size]
    simp only [sizeE] at hs
    refine loop_by (σ := Nat × Nat) (n := 1) (fun q => [.p (.int .i64 q.2), .p (.int .i64 q.1)]) (fun q => [.box [.p (.str op), .p (.int .i64 v.k), .p (.int .i64 v.i), .p (.bool v.b), .p (.str v.s), .p (.slice (v.t.map encV)), .p (.int .i64 n), .p (.slice (a.map encE))]])
      (fun q => q.1 ≤ a.length ∧ q.2 + sizeEs (a.drop q.1) = 1 + sizeEs a) (fun q => a.length - q.1) [] (0, 1) (fun _ => rfl) ⟨rfl, rfl⟩ ⟨by simp, by simp⟩ (fun q B hq hB => ?_)
    obtain ⟨j, m⟩ := q
    obtain ⟨g1, g2⟩ := hq
    simp only at g1 g2
    simp [runnelref6_Size_L1]
    intro _
    refine ⟨fun hlt => ?_, fun hge => gives_p ?_⟩
    · have hm : a[j] ∈ a := by simp
      have hd := sizeEs_drop a j hlt
      simp [hlt]
      (first | refine aCall_fold rfl ?_ | refine aCallT_fold rfl ?_)
      (first | refine aCallU_p (sizeR_spec a[j] (by omega)) ?_ | refine aCallTU_p (sizeR_spec a[j] (by omega)) ?_ | refine aCallU_of (sizeR_spec a[j] (by omega)) ?_ | refine aCallTU_of (sizeR_spec a[j] (by omega)) rfl ?_ | refine aCallTU_of (sizeR_spec a[j] (by omega)) (by simp [AV.pur]; rfl) ?_)
      try simp
      rw [IntWalk.i64_in _ (by omega), IntWalk.i64_in _ (by simp [maxLen] at *; omega)]
      exact hB (j + 1, m + sizeE a[j]) _ ⟨by simp; omega, by simp; omega⟩ (by simp; omega) (by simp) (by simp [Ob.below, AV.under1]) (by simp) (by simp [AV.under, AV.under1])
    · rw [List.drop_of_length_le hge] at g2
      simp [sizeEs] at g2
      simp [sizeE, g2]
termination_by e => SizeOf.sizeOf e
decreasing_by
  have := List.sizeOf_lt_of_mem hm
  simp
  omega

/- How much there is. -/
mutual
def budE : Ex → Int → Int → Int
  | .mk op v _ a, d, l => if l ≤ 0 ∨ d ≤ 0 ∨ 12 < a.length ∨ 20 < op.length ∨ fewV v = false then 0 else budEs a (d - 1) (l - 1)
def budEs : List Ex → Int → Int → Int
  | [], _, l => l
  | e :: r, d, l => if l ≤ 0 then l else budEs r d (budE e d l)
end

mutual
theorem budE_le : ∀ (e : Ex) (d l : Int), 0 ≤ l → 0 ≤ budE e d l ∧ budE e d l ≤ l
  | .mk op v n a, d, l, h => by
    simp only [budE]
    split
    · omega
    · have := budEs_le a (d - 1) (l - 1) (by omega)
      omega
theorem budEs_le : ∀ (r : List Ex) (d l : Int), 0 ≤ l → 0 ≤ budEs r d l ∧ budEs r d l ≤ l
  | [], d, l, h => by simp [budEs]; omega
  | e :: r, d, l, h => by
    simp only [budEs]
    split
    · omega
    · have h1 := budE_le e d l h
      have h2 := budEs_le r d (budE e d l) h1.1
      omega
end

theorem budEs_pos : ∀ (r : List Ex) (d l : Int), 0 < budEs r d l → 0 < l
  | [], d, l, h => by simpa [budEs] using h
  | e :: r, d, l, h => by
    simp only [budEs] at h
    split at h
    · omega
    · omega

theorem budEs_zero : ∀ (r : List Ex) (d l : Int), l ≤ 0 → budEs r d l = l
  | [], d, l, h => by simp [budEs]
  | v :: r, d, l, h => by simp [budEs, h]

mutual
theorem budE_small : ∀ (e : Ex) (d l : Int), 0 < budE e d l → We 300 e ∧ sizeE e + budE e d l ≤ l
  | .mk op v n a, d, l, h => by
    simp only [budE] at h ⊢
    split at h
    · omega
    · rename_i hc
      rw [if_neg hc]
      have := budEs_small a (d - 1) (l - 1) h
      have hv : fewV v = true := by
        cases hf : fewV v with
        | true => rfl
        | false => exact absurd (.inr (.inr (.inr (.inr hf)))) hc
      exact ⟨.mk op v n a (fewV_small hv) (by omega) this.1, by simp only [sizeE]; omega⟩
theorem budEs_small : ∀ (r : List Ex) (d l : Int), 0 < budEs r d l → (∀ e ∈ r, We 300 e) ∧ sizeEs r + budEs r d l ≤ l
  | [], d, l, h => by simp [budEs, sizeEs]
  | e :: r, d, l, h => by
    simp only [budEs] at h ⊢
    split at h
    · omega
    · rename_i hc
      rw [if_neg hc]
      have h1 := budE_small e d l (budEs_pos r d _ h)
      have h2 := budEs_small r d _ h
      refine ⟨fun x hx => ?_, by simp only [sizeEs]; omega⟩
      simp only [List.mem_cons] at hx
      rcases hx with rfl | hx
      · exact h1.1
      · exact h2.1 x hx
end

theorem budE_spec : ∀ (e : Ex) (d l : Int) (_ : 0 ≤ d) (_ : d ≤ 100) (_ : 0 ≤ l) (_ : l ≤ 1000), Abs.Fn Tryz.prog runnellaw4_budget_i [] [.p (encE e), .p (.int .i64 d), .p (.int .i64 l)] (.p (.int .i64 (budE e d l))) []
  | .mk op v n a, d, l, hd0, hd1, hl0, hl1 => by
    apply runnellaw4_budget_fn
    simp [runnellaw4_budget]
    refine aMerge_intro (!fewV v) (fun _ => ?_) ?_
    · (first | refine aCall_fold rfl ?_ | refine aCallT_fold rfl ?_)
      (first | refine aCallU_p (few2_spec v) ?_ | refine aCallTU_p (few2_spec v) ?_ | refine aCallU_of (few2_spec v) ?_ | refine aCallTU_of (few2_spec v) rfl ?_ | refine aCallTU_of (few2_spec v) (by simp [AV.pur]; rfl) ?_)
      try simp
    simp
    refine ⟨fun h => gives_p (by simp only [budE]; grind), fun h1 h2 h3 h4 h5 => ?_⟩
    rw [IntWalk.i64_in _ (by omega)]
    have he : budE (.mk op v n a) d l = budEs a (d - 1) (l - 1) := by
      simp only [budE]
      rw [if_neg (by simp [h5]; omega)]
    rw [he]
    refine loop_by (σ := Nat × Int) (n := 1) (fun q => [.p (.int .i64 q.2), .p (.int .i64 q.1)]) (fun q => [.box [.p (.str op), .p (.int .i64 v.k), .p (.int .i64 v.i), .p (.bool v.b), .p (.str v.s), .p (.slice (v.t.map encV)), .p (.int .i64 n), .p (.slice (a.map encE))]])
      (fun q => q.1 ≤ a.length ∧ 0 ≤ q.2 ∧ q.2 ≤ 1000 ∧ budEs (a.drop q.1) (d - 1) q.2 = budEs a (d - 1) (l - 1)) (fun q => a.length - q.1) [] (0, l - 1) (fun _ => rfl) ⟨rfl, rfl⟩ ⟨by simp, by simp; omega, by simp; omega, by simp⟩ (fun q B hq hB => ?_)
    obtain ⟨j, m⟩ := q
    obtain ⟨g1, g2, g3, g4⟩ := hq
    simp only at g1 g2 g3 g4
    simp [runnellaw4_budget_L1]
    intro _
    refine ⟨fun hlt hm0 => ?_, fun hx => gives_p ?_⟩
    · have hm : a[j] ∈ a := by simp
      have hle := budE_le a[j] (d - 1) m g2
      rw [List.drop_eq_getElem_cons hlt, budEs, if_neg (by omega)] at g4
      simp [hlt]
      rw [IntWalk.i64_in _ (by omega)]
      (first | refine aCall_fold rfl ?_ | refine aCallT_fold rfl ?_)
      (first | refine aCallU_p (budE_spec a[j] (d - 1) m (by omega) (by omega) g2 g3) ?_ | refine aCallTU_p (budE_spec a[j] (d - 1) m (by omega) (by omega) g2 g3) ?_ | refine aCallU_of (budE_spec a[j] (d - 1) m (by omega) (by omega) g2 g3) ?_ | refine aCallTU_of (budE_spec a[j] (d - 1) m (by omega) (by omega) g2 g3) rfl ?_ | refine aCallTU_of (budE_spec a[j] (d - 1) m (by omega) (by omega) g2 g3) (by simp [AV.pur]; rfl) ?_)
      try simp
      rw [IntWalk.i64_in _ (by omega)]
      exact hB (j + 1, budE a[j] (d - 1) m) _ ⟨by simp; omega, by simp; omega, by simp; omega, g4⟩ (by simp; omega) (by simp) (by simp [Ob.below, AV.under1]) (by simp) (by simp [AV.under, AV.under1])
    · rcases Nat.lt_or_ge j a.length with hlt | hge
      · have := hx hlt
        rw [← g4, budEs_zero _ _ _ (by omega)]
      · rw [← g4, List.drop_of_length_le hge]
        simp [budEs]
termination_by e => SizeOf.sizeOf e
decreasing_by
  have := List.sizeOf_lt_of_mem hm
  simp
  omega

def fewE (e : Ex) : Bool := decide (0 < budE e 20 400)
theorem fewE_small {e : Ex} (h : fewE e = true) : We 300 e ∧ sizeE e ≤ 400 := by
  have := budE_small e 20 400 (by simpa [fewE] using h)
  simp [fewE] at h
  exact ⟨this.1, by omega⟩

theorem few4_spec (e : Ex) : Abs.Fn Tryz.prog runnellaw4_Few_i [] [.p (encE e)] (.p (.bool (fewE e))) [] := by
  apply runnellaw4_Few_fn
  simp [runnellaw4_Few]
  (first | refine aCall_fold rfl ?_ | refine aCallT_fold rfl ?_)
  (first | refine aCallU_p (budE_spec _ 20 400 (by omega) (by omega) (by omega) (by omega)) ?_ | refine aCallTU_p (budE_spec _ 20 400 (by omega) (by omega) (by omega) (by omega)) ?_ | refine aCallU_of (budE_spec _ 20 400 (by omega) (by omega) (by omega) (by omega)) ?_ | refine aCallTU_of (budE_spec _ 20 400 (by omega) (by omega) (by omega) (by omega)) rfl ?_ | refine aCallTU_of (budE_spec _ 20 400 (by omega) (by omega) (by omega) (by omega)) (by simp [AV.pur]; rfl) ?_)
  try simp
  exact gives_p (by simp [fewE])

/- The document's check. -/
def nilV (v : Va) : Bool := decide (cmpV v zeroV = 0)
theorem nilV_iff {v : Va} : nilV v = true ↔ v = zeroV := by
  unfold nilV
  rw [decide_eq_true_iff, cmpV_zero]

theorem nought_spec (v : Va) : Abs.Fn Tryz.prog runnelref6_nought_i [] [.p (encV v)] (.p (.bool (nilV v))) [] := by
  apply runnelref6_nought_fn
  simp [runnelref6_nought]
  refine gives_p ?_
  obtain ⟨k, i, b, s, t⟩ := v
  simp only [T.bool.injEq]
  rw [Bool.eq_iff_iff, nilV_iff]
  simp [and_assoc]

theorem Plain_spec (k : Int) : Abs.Fn Tryz.prog runnelref6_Plain_i [] [.p (.int .i64 k)] (.p (encT (plainT k))) [] := by
  apply runnelref6_Plain_fn
  simp [runnelref6_Plain]
  exact gives_pure (by simp [AV.pur, plainT])

theorem Arity_spec (op : List UInt8) : Abs.Fn Tryz.prog runnelref6_Arity_i [] [.p (.str op)] (.p (.int .i64 (arE op))) [] := by
  apply runnelref6_Arity_fn
  simp [runnelref6_Arity]
  refine ⟨fun h => gives_p ?_, fun h1 h2 => ⟨fun h => gives_p ?_, fun h3 h4 h5 h6 => ⟨fun h => gives_p ?_, fun h7 h8 h9 h10 h11 h12 h13 h14 h15 h16 => ⟨fun h => gives_p ?_, fun h17 => ⟨fun h => gives_p ?_, fun h18 => gives_p ?_⟩⟩⟩⟩⟩
  · simp [arE, h]
  · simp only [arE]; rw [if_neg (by simp [h1, h2]), if_pos h]
  · simp only [arE]; rw [if_neg (by simp [h1, h2]), if_neg (by simp [*]), if_pos h]
  · subst h; rfl
  · subst h; rfl
  · simp only [arE]; rw [if_neg (by simp [h1, h2]), if_neg (by simp [*]), if_neg (by simp [*]), if_neg (by simp [*]), if_neg (by simp [*])]

/-- What an answer with a type is. -/
def tyR (r : R Ty) : AV := .tup [.p (encT (r.get (.mk 0 []))), .p (.int .i64 r.num)]

theorem tyR_gives {r : R Ty} {vs : List AV} {H : List Ob} (h : toTs vs = some [encT (r.get (.mk 0 [])), .int .i64 r.num]) : Gives 0 (.tup vs) H (tyR r) [] := gives_pure (pur_tup h)

/-- Are there as many as an op has? -/
def ArOk (op : List UInt8) (m : Nat) : Prop := if arE op = -1 then 1 ≤ m ∧ m ≤ 8 else (m : Int) = arE op

def opAll (op : List UInt8) : Int × Int := if op = oNeg ∨ op = oAdd ∨ op = oSub ∨ op = oMul ∨ op = oDiv ∨ op = oRem then (1, 1) else if op = oNot ∨ op = oAnd ∨ op = oOr then (2, 2) else if op = oCat then (3, 3) else if op = oLen then (3, 1) else (0, 0)

theorem opT_rest {op : List UInt8} {n : Int} {l : List Ty} (h1 : op ≠ oAt) (h2 : op ≠ oTup) (h3 : op ≠ oEq) (h4 : op ≠ oLt) (h5 : op ≠ oIf) : opT op n l = if l.all (fun t => decide (t.kind = (opAll op).1)) then .ok (plainT (opAll op).2) else .er 5 := by
  simp only [opT, h1, h2, h3, h4, h5, if_false, or_self]
  rfl

theorem all_drop {α : Type} (f : α → Bool) (l : List α) (i : Nat) (h : i < l.length) : (l.drop i).all f = (f l[i] && (l.drop (i + 1)).all f) := by
  rw [List.drop_eq_getElem_cons h]
  rfl

theorem OpType_loop (l : List Ty) (op : List UInt8) (n : Int) (a b : Int) (h1 : op ≠ oAt) (h2 : op ≠ oTup) (h3 : op ≠ oEq) (h4 : op ≠ oLt) (h5 : op ≠ oIf) (hab : opAll op = (a, b)) :
    runnelref6_OpType_J1 (.p (.slice (l.map encT))) (.bptr 0 0) (.p (.int .i64 a)) (.p (.int .i64 b)) [.box [.p (.int .i64 0), .full []]] (fun v H' => Gives 0 v H' (tyR (opT op n l)) []) := by
  simp [runnelref6_OpType_J1]
  refine loop_by (σ := Nat) (n := 1) (fun i => [.p (.int .i64 i)]) (fun _ => [.box [.p (.int .i64 0), .full []]]) (fun i => i ≤ l.length ∧ (l.drop i).all (fun t => decide (t.kind = a)) = l.all (fun t => decide (t.kind = a))) (fun i => l.length - i) [] 0 (fun _ => rfl) ⟨rfl, rfl⟩ (by simp) (fun i B hi hB => ?_)
  obtain ⟨g1, g2⟩ := hi
  simp [runnelref6_OpType_L1]
  intro hl
  refine ⟨fun hlt => ?_, fun hge => ?_⟩
  · have hd := all_drop (fun t => decide (t.kind = a)) l i hlt
    rw [g2] at hd
    simp [hlt]
    refine ⟨fun hz => ?_, fun hz => ?_⟩
    · refine tyR_gives ?_
      rw [opT_rest h1 h2 h3 h4 h5, hab, hd]
      simp [hz, R.get, R.num]
    · rw [IntWalk.i64_in _ (by simp [maxLen] at hl; omega)]
      exact hB (i + 1) _ ⟨by omega, by simp [hd, hz]⟩ (by omega) (by simp) (by simp [Ob.below, AV.under1]) (by simp) (by simp [AV.under, AV.under1])
  · have : i = l.length := by omega
    subst this
    simp at g2
    (first | refine aCall_fold rfl ?_ | refine aCallT_fold rfl ?_)
    (first | refine aCallU_p (Plain_spec _) ?_ | refine aCallTU_p (Plain_spec _) ?_ | refine aCallU_of (Plain_spec _) ?_ | refine aCallTU_of (Plain_spec _) rfl ?_ | refine aCallTU_of (Plain_spec _) (by simp [AV.pur]; rfl) ?_)
    try simp
    refine tyR_gives ?_
    rw [opT_rest h1 h2 h3 h4 h5, hab, if_pos (by simpa using g2)]
    simp [R.get, R.num, plainT]

theorem OpType_spec (op : List UInt8) (n : Int) (l : List Ty) (ha : ArOk op l.length) : Abs.Fn Tryz.prog runnelref6_OpType_i [] [.p (.str op), .p (.int .i64 n), .p (.slice (l.map encT))] (tyR (opT op n l)) [] := by
  apply runnelref6_OpType_fn
  simp [runnelref6_OpType]
  refine ⟨fun hop => ?_, fun h1 => ⟨fun hop => ?_, fun h2 => ⟨fun hop => ?_, fun h3 h4 => ⟨fun hop => ?_, fun h5 => ?_⟩⟩⟩⟩
  · have hop : op = oAt := hop
    subst hop
    simp [ArOk, arE] at ha
    obtain ⟨t, rfl⟩ : ∃ t, l = [t] := by
      match l, ha with
      | [t], _ => exact ⟨t, rfl⟩
    simp
    refine ⟨fun h => tyR_gives (by simp [opT, h, R.get, R.num]), fun h => ⟨fun hn => tyR_gives ?_, fun hn hl => ?_⟩⟩
    · simp only [opT, if_true, h, ne_eq, not_true, if_false]
      rw [if_pos hn]
      simp [R.get, R.num]
    · have hlt : n.toNat < t.of.length := by omega
      simp [hlt]
      refine ⟨by omega, tyR_gives ?_⟩
      simp only [opT, if_true, h, ne_eq, not_true, if_false]
      rw [if_neg (by omega)]
      simp [R.get, R.num, hlt]
  · have hop : op = oTup := hop
    subst hop
    (first | refine aCall_fold rfl ?_ | refine aCallT_fold rfl ?_)
    (first | refine aCallU_p (CheckType_spec _) ?_ | refine aCallTU_p (CheckType_spec _) ?_ | refine aCallU_of (CheckType_spec _) ?_ | refine aCallTU_of (CheckType_spec _) rfl ?_ | refine aCallTU_of (CheckType_spec _) (by simp [AV.pur]; rfl) ?_)
    try simp
    refine ⟨fun h => tyR_gives ?_, fun h => tyR_gives ?_⟩
    · simp [opT, h, R.get, R.num]
    · simp [opT, h, R.get, R.num]
  · have hop' : op = oEq ∨ op = oLt := hop
    have h2l : l.length = 2 := by rcases hop' with rfl | rfl <;> simp [ArOk, arE] at ha <;> omega
    match l, h2l with
    | [a, b], _ =>
      simp
      (first | refine aCall_fold rfl ?_ | refine aCallT_fold rfl ?_)
      (first | refine aCallU_p (sameType_spec _ _) ?_ | refine aCallTU_p (sameType_spec _ _) ?_ | refine aCallU_of (sameType_spec _ _) ?_ | refine aCallTU_of (sameType_spec _ _) rfl ?_ | refine aCallTU_of (sameType_spec _ _) (by simp [AV.pur]; rfl) ?_)
      try simp
      refine ⟨fun h => tyR_gives ?_, fun h => ?_⟩
      · rcases hop' with rfl | rfl <;> simp [opT, h, R.get, R.num]
      · (first | refine aCall_fold rfl ?_ | refine aCallT_fold rfl ?_)
        (first | refine aCallU_p (Plain_spec _) ?_ | refine aCallTU_p (Plain_spec _) ?_ | refine aCallU_of (Plain_spec _) ?_ | refine aCallTU_of (Plain_spec _) rfl ?_ | refine aCallTU_of (Plain_spec _) (by simp [AV.pur]; rfl) ?_)
        try simp
        refine tyR_gives ?_
        rcases hop' with rfl | rfl <;> simp [opT, h, R.get, R.num, plainT]
  · have hop : op = oIf := hop
    subst hop
    simp [ArOk, arE] at ha
    match l, (by omega : l.length = 3) with
    | [a, b, c], _ =>
      simp
      refine ⟨fun h => tyR_gives (by simp [opT, h, R.get, R.num]), fun h => ?_⟩
      (first | refine aCall_fold rfl ?_ | refine aCallT_fold rfl ?_)
      (first | refine aCallU_p (sameType_spec _ _) ?_ | refine aCallTU_p (sameType_spec _ _) ?_ | refine aCallU_of (sameType_spec _ _) ?_ | refine aCallTU_of (sameType_spec _ _) rfl ?_ | refine aCallTU_of (sameType_spec _ _) (by simp [AV.pur]; rfl) ?_)
      try simp
      refine ⟨fun h2 => tyR_gives ?_, fun h2 => tyR_gives ?_⟩
      · simp [opT, h, h2, R.get, R.num]
      · simp [opT, h, h2, R.get, R.num]
  · have g1 : op ≠ oAt := h1
    have g2 : op ≠ oTup := h2
    have g3 : op ≠ oEq := h3
    have g4 : op ≠ oLt := h4
    have g5 : op ≠ oIf := h5
    refine ⟨fun h => OpType_loop l op n 1 1 g1 g2 g3 g4 g5 (by simp only [opAll]; rw [if_pos h]), fun k1 k2 k3 k4 k5 k6 => ⟨fun h => OpType_loop l op n 2 2 g1 g2 g3 g4 g5 ?_, fun k7 k8 k9 => ⟨fun h => OpType_loop l op n 3 3 g1 g2 g3 g4 g5 ?_, fun k10 => ⟨fun h => OpType_loop l op n 3 1 g1 g2 g3 g4 g5 ?_, fun k11 => OpType_loop l op n 0 0 g1 g2 g3 g4 g5 ?_⟩⟩⟩⟩
    · simp only [opAll]; rw [if_neg (by simp [*]), if_pos h]
    · simp only [opAll]; rw [if_neg (by simp [*]), if_neg (by simp [*]), if_pos h]
    · simp only [opAll]; rw [if_neg (by simp [*]), if_neg (by simp [*]), if_neg (by simp [*]), if_pos h]
    · simp only [opAll]; rw [if_neg (by simp [*]), if_neg (by simp [*]), if_neg (by simp [*]), if_neg (by simp [*])]

end Go.Proofs.YtijnpcociedigaaGreatDoor

