/- The law ExprTwo: an Op of two over any two types. -/
import Derived.Test.YtiejfphchpcldaaSpLaw4
set_option linter.unusedSimpArgs false
set_option linter.unusedVariables false
namespace Go.Proofs.Ytiejfphchpcldaa
open Go Go.Abs

attribute [local irreducible] Abs.Fn

theorem SameT_spec {a b : Ty} (ha : Wd 1000000000 a) (hb : Wd 1000000000 b) : Abs.Fn Try.prog runnellaw4_SameT_i [] [.p (encT a), .p (encT b)] (.p (.bool (sameT a b))) [] := by
  apply runnellaw4_SameT_fn
  simp [runnellaw4_SameT]
  (first | refine aCall_fold rfl ?_ | refine aCallT_fold rfl ?_)
  (first | refine aCallU_p (of1_spec ha) ?_ | refine aCallTU_p (of1_spec ha) ?_ | refine aCallU_of (of1_spec ha) ?_ | refine aCallTU_of (of1_spec ha) rfl ?_ | refine aCallTU_of (of1_spec ha) (by simp [AV.pur]; rfl) ?_)
  try simp
  (first | refine aCall_fold rfl ?_ | refine aCallT_fold rfl ?_)
  (first | refine aCallU_p (of1_spec hb) ?_ | refine aCallTU_p (of1_spec hb) ?_ | refine aCallU_of (of1_spec hb) ?_ | refine aCallTU_of (of1_spec hb) rfl ?_ | refine aCallTU_of (of1_spec hb) (by simp [AV.pur]; rfl) ?_)
  try simp
  (first | refine aCall_fold rfl ?_ | refine aCallT_fold rfl ?_)
  (first | refine aCallU_p (sameType_spec a b) ?_ | refine aCallTU_p (sameType_spec a b) ?_ | refine aCallU_of (sameType_spec a b) ?_ | refine aCallTU_of (sameType_spec a b) rfl ?_ | refine aCallTU_of (sameType_spec a b) (by simp [AV.pur]; rfl) ?_)
  try simp
  exact gives_p rfl

def atE (n : Int) : Ex := .mk oAt zeroV n [.mk oX zeroV 0 []]
def twoE (w : List UInt8) : Ex := .mk w zeroV 0 [atE 0, atE 1]

theorem ckE_at0 (a b : Ty) : ckE (atE 0) (.mk 4 [a, b]) 1 = .ok a := by
  unfold atE
  rw [ckE_unfold]
  simp only [ckL]
  rw [if_neg (by decide), if_neg (by omega), if_neg (by decide), if_neg (by decide), if_neg (by decide), ckE_x _ _ (by omega)]
  simp [opT, Ty.kind, Ty.of]
theorem ckE_at1 (a b : Ty) : ckE (atE 1) (.mk 4 [a, b]) 1 = .ok b := by
  unfold atE
  rw [ckE_unfold]
  simp only [ckL]
  rw [if_neg (by decide), if_neg (by omega), if_neg (by decide), if_neg (by decide), if_neg (by decide), ckE_x _ _ (by omega)]
  simp [opT, Ty.kind, Ty.of]

theorem ckE_two {w : List UInt8} (hw : arE w = 2) (h1 : w ≠ oLit) (h2 : w ≠ oX) (a b : Ty) (h : checkT (.mk 4 [a, b]) 0 = 0) : checkE (twoE w) (.mk 4 [a, b]) = opT w 0 [a, b] := by
  unfold checkE
  rw [if_neg (by simpa using h), if_neg (by simp [twoE, atE, sizeE, sizeEs])]
  unfold twoE
  rw [ckE_unfold]
  rw [if_neg (by rw [hw]; decide), if_neg (by omega), if_neg (by simp [fieldsE_eq, hw]; exact fun _ => by decide), if_neg h1, if_neg h2]
  simp only [ckL, Int.zero_add, ckE_at0, ckE_at1]

theorem plain_of {a : Ty} (h : checkT a 0 = 0) (hk : a.kind = 1 ∨ a.kind = 2 ∨ a.kind = 3) : a = .mk a.kind [] := by
  obtain ⟨k, of⟩ := a
  simp only [Ty.kind] at hk ⊢
  simp only [checkT] at h
  rw [if_pos hk] at h
  by_cases ho : of = []
  · rw [ho]
  · rw [if_neg ho] at h; simp at h

theorem two_same {a b : Ty} {k : Int} (ha : checkT a 0 = 0) (hb : checkT b 0 = 0) (hk : k = 1 ∨ k = 2 ∨ k = 3) : (a.kind = k ∧ b.kind = k) ↔ (sameT a b = true ∧ a.kind = k) := by
  constructor
  · rintro ⟨h1, h2⟩
    refine ⟨(sameT_iff a b).2 ?_, h1⟩
    rw [plain_of ha (by omega), plain_of hb (by omega), h1, h2]
  · rintro ⟨h1, h2⟩
    have := (sameT_iff a b).1 h1
    subst this
    exact ⟨h2, h2⟩

def kindTwo (w : List UInt8) (a b : Ty) : Int :=
  if w = oEq ∨ w = oLt then (if sameT a b = true then 2 else 0)
  else if w = oAnd ∨ w = oOr then (if sameT a b = true ∧ a.kind = 2 then 2 else 0)
  else if w = oCat then (if sameT a b = true ∧ a.kind = 3 then 3 else 0)
  else (if sameT a b = true ∧ a.kind = 1 then 1 else 0)

def twoOps : List (List UInt8) := [oAdd, oSub, oMul, oDiv, oRem, oEq, oLt, oAnd, oOr, oCat]

theorem opT_two {a b : Ty} (ha : checkT a 0 = 0) (hb : checkT b 0 = 0) {w : List UInt8} (hw : w ∈ twoOps) : opT w 0 [a, b] = if kindTwo w a b = 0 then .er 5 else .ok (plainT (kindTwo w a b)) := by
  have h1 := two_same ha hb (k := 1) (by omega)
  have h2 := two_same ha hb (k := 2) (by omega)
  have h3 := two_same ha hb (k := 3) (by omega)
  simp only [twoOps, List.mem_cons, List.not_mem_nil, or_false] at hw
  rcases hw with rfl | rfl | rfl | rfl | rfl | rfl | rfl | rfl | rfl | rfl
  all_goals
    simp [opT, kindTwo, oAdd, oSub, oMul, oDiv, oRem, oEq, oLt, oAnd, oOr, oCat, oAt, oTup, oIf, oNeg, oNot, oLen, h1, h2, h3]
    try (by_cases hh : sameT a b = true ∧ a.kind = 1 <;> simp [hh])
    try (by_cases hh : sameT a b = true ∧ a.kind = 2 <;> simp [hh])
    try (by_cases hh : sameT a b = true ∧ a.kind = 3 <;> simp [hh])
    try (by_cases hh : sameT a b = true <;> simp [hh])



theorem twoE_we {w : List UInt8} (hw : w.length ≤ 1000000000) : We 1000000000 (twoE w) := by
  simp [twoE, atE, hw]

theorem gives_tt {H : List Ob} : Gives 0 (.p (.bool true)) H (.p (.bool true)) [] ↔ True := ⟨fun _ => trivial, fun _ => gives_p rfl⟩

theorem gives_bb {x : Bool} {H : List Ob} (h : x = true) : Gives 0 (.p (.bool x)) H (.p (.bool true)) [] := gives_p (by rw [h])

set_option maxRecDepth 100000 in
set_option maxHeartbeats 2000000 in
theorem ExprTwo_spec (op : Int) (ho : 0 ≤ op ∧ op ≤ 255) (a b : Ty) : Abs.Fn Try.prog runnellaw4_ExprTwo_i [] [.p (.int .u8 op), .p (encT a), .p (encT b)] (.p (.bool true)) [] := by
  obtain ⟨j, hj, ej⟩ : ∃ j : Nat, j < 10 ∧ op.tmod 10 = j := by
    refine ⟨(op.tmod 10).toNat, ?_, ?_⟩ <;> rw [Int.tmod_eq_emod_of_nonneg ho.1] <;> omega
  have e0 : IntKind.i64.wrap op = op := IntWalk.i64_in _ (by omega)
  obtain ⟨ka, la⟩ := a
  obtain ⟨kb, lb⟩ := b
  apply runnellaw4_ExprTwo_fn
  simp [runnellaw4_ExprTwo]
  (first | refine aCall_fold rfl ?_ | refine aCallT_fold rfl ?_)
  (first | refine aCallU_p (known4_spec) ?_ | refine aCallTU_p (known4_spec) ?_ | refine aCallU_of (known4_spec) ?_ | refine aCallTU_of (known4_spec) rfl ?_ | refine aCallTU_of (known4_spec) (by simp [AV.pur]; rfl) ?_)
  try simp
  (first | refine aCall_fold rfl ?_ | refine aCallT_fold rfl ?_)
  (first | refine aCallU_p (few1_spec (.mk ka la)) ?_ | refine aCallTU_p (few1_spec (.mk ka la)) ?_ | refine aCallU_of (few1_spec (.mk ka la)) ?_ | refine aCallTU_of (few1_spec (.mk ka la)) rfl ?_ | refine aCallTU_of (few1_spec (.mk ka la)) (by simp [AV.pur]; rfl) ?_)
  try simp
  refine aMerge_intro (!fewT (.mk kb lb)) (fun _ => ?_) ?_
  · (first | refine aCall_fold rfl ?_ | refine aCallT_fold rfl ?_)
    (first | refine aCallU_p (few1_spec (.mk kb lb)) ?_ | refine aCallTU_p (few1_spec (.mk kb lb)) ?_ | refine aCallU_of (few1_spec (.mk kb lb)) ?_ | refine aCallTU_of (few1_spec (.mk kb lb)) rfl ?_ | refine aCallTU_of (few1_spec (.mk kb lb)) (by simp [AV.pur]; rfl) ?_)
    try simp
  simp
  refine aMerge_intro (decide (checkT (.mk ka la) 0 ≠ 0)) (fun hx => ?_) ?_
  · (first | refine aCall_fold rfl ?_ | refine aCallT_fold rfl ?_)
    (first | refine aCallU_p (of1_spec (fewT_small (by grind))) ?_ | refine aCallTU_p (of1_spec (fewT_small (by grind))) ?_ | refine aCallU_of (of1_spec (fewT_small (by grind))) ?_ | refine aCallTU_of (of1_spec (fewT_small (by grind))) rfl ?_ | refine aCallTU_of (of1_spec (fewT_small (by grind))) (by simp [AV.pur]; rfl) ?_)
    try simp
    (first | refine aCall_fold rfl ?_ | refine aCallT_fold rfl ?_)
    (first | refine aCallU_p (CheckType_spec (.mk ka la)) ?_ | refine aCallTU_p (CheckType_spec (.mk ka la)) ?_ | refine aCallU_of (CheckType_spec (.mk ka la)) ?_ | refine aCallTU_of (CheckType_spec (.mk ka la)) rfl ?_ | refine aCallTU_of (CheckType_spec (.mk ka la)) (by simp [AV.pur]; rfl) ?_)
    try simp
  simp
  refine aMerge_intro (decide (checkT (.mk kb lb) 0 ≠ 0)) (fun hx => ?_) ?_
  · (first | refine aCall_fold rfl ?_ | refine aCallT_fold rfl ?_)
    (first | refine aCallU_p (of1_spec (fewT_small (by grind))) ?_ | refine aCallTU_p (of1_spec (fewT_small (by grind))) ?_ | refine aCallU_of (of1_spec (fewT_small (by grind))) ?_ | refine aCallTU_of (of1_spec (fewT_small (by grind))) rfl ?_ | refine aCallTU_of (of1_spec (fewT_small (by grind))) (by simp [AV.pur]; rfl) ?_)
    try simp
    (first | refine aCall_fold rfl ?_ | refine aCallT_fold rfl ?_)
    (first | refine aCallU_p (CheckType_spec (.mk kb lb)) ?_ | refine aCallTU_p (CheckType_spec (.mk kb lb)) ?_ | refine aCallU_of (CheckType_spec (.mk kb lb)) ?_ | refine aCallTU_of (CheckType_spec (.mk kb lb)) rfl ?_ | refine aCallTU_of (CheckType_spec (.mk kb lb)) (by simp [AV.pur]; rfl) ?_)
    try simp
  simp
  refine ⟨fun _ => gives_p rfl, fun h1 h2 h3 h4 => ?_⟩
  have ha := fewT_small h1
  have hb := fewT_small h2
  have hab : Wd 1000000000 (.mk 4 [.mk ka la, .mk kb lb]) := .mk _ _ (by simp) (by simp; exact ⟨ha, hb⟩)
  (first | refine aCall_fold rfl ?_ | refine aCallT_fold rfl ?_)
  (first | refine aCallU_p (of1_spec hab) ?_ | refine aCallTU_p (of1_spec hab) ?_ | refine aCallU_of (of1_spec hab) ?_ | refine aCallTU_of (of1_spec hab) rfl ?_ | refine aCallTU_of (of1_spec hab) (by simp [AV.pur]; rfl) ?_)
  try simp
  (first | refine aCall_fold rfl ?_ | refine aCallT_fold rfl ?_)
  (first | refine aCallU_p (CheckType_spec _) ?_ | refine aCallTU_p (CheckType_spec _) ?_ | refine aCallU_of (CheckType_spec _) ?_ | refine aCallTU_of (CheckType_spec _) rfl ?_ | refine aCallTU_of (CheckType_spec _) (by simp [AV.pur]; rfl) ?_)
  try simp
  refine ⟨fun _ => gives_p rfl, fun h5 _ => ?_⟩
  obtain ⟨W, hW⟩ : ∃ W, W = twoOps.getD j [] := ⟨_, rfl⟩
  obtain ⟨w1, w2, w3, w4, w5⟩ : arE W = 2 ∧ W ≠ oLit ∧ W ≠ oX ∧ W ∈ twoOps ∧ W.length ≤ 1000000000 := by
    subst hW
    rcases (by omega : j = 0 ∨ j = 1 ∨ j = 2 ∨ j = 3 ∨ j = 4 ∨ j = 5 ∨ j = 6 ∨ j = 7 ∨ j = 8 ∨ j = 9) with rfl | rfl | rfl | rfl | rfl | rfl | rfl | rfl | rfl | rfl <;> decide
  have hl : ([T.str [97, 100, 100], T.str [115, 117, 98], T.str [109, 117, 108], T.str [100, 105, 118], T.str [114, 101, 109], T.str [101, 113], T.str [108, 116], T.str [97, 110, 100], T.str [111, 114], T.str [99, 97, 116]])[j]?.getD default = T.str W := by
    subst hW
    rcases (by omega : j = 0 ∨ j = 1 ∨ j = 2 ∨ j = 3 ∨ j = 4 ∨ j = 5 ∨ j = 6 ∨ j = 7 ∨ j = 8 ∨ j = 9) with rfl | rfl | rfl | rfl | rfl | rfl | rfl | rfl | rfl | rfl <;> rfl
  have c1 := CheckE_of ((ckE_two w1 w2 w3 _ _ h5).trans (opT_two h3 h4 w4)) (twoE_we w5) (by simp [twoE, atE, sizeE, sizeEs])
  have hkk : kindTwo W (.mk ka la) (.mk kb lb) = if W = [101, 113] ∨ W = [108, 116] then (if sameT (.mk ka la) (.mk kb lb) = true then 2 else 0) else if W = [97, 110, 100] ∨ W = [111, 114] then (if sameT (.mk ka la) (.mk kb lb) = true ∧ ka = 2 then 2 else 0)
      else if W = [99, 97, 116] then (if sameT (.mk ka la) (.mk kb lb) = true ∧ ka = 3 then 3 else 0) else (if sameT (.mk ka la) (.mk kb lb) = true ∧ ka = 1 then 1 else 0) := rfl
  generalize kindTwo W (.mk ka la) (.mk kb lb) = kk at c1 hkk
  have sm1 := SameT_spec ha hb
  generalize hs : sameT (.mk ka la) (.mk kb lb) = sm at hkk sm1
  simp [e0, ej, hl]
  refine ⟨by omega, ?_⟩
  (first | refine aCall_fold rfl ?_ | refine aCallT_fold rfl ?_)
  (first | refine aCallU_p (X_spec) ?_ | refine aCallTU_p (X_spec) ?_ | refine aCallU_of (X_spec) ?_ | refine aCallTU_of (X_spec) rfl ?_ | refine aCallTU_of (X_spec) (by simp [AV.pur]; rfl) ?_)
  try simp [e0, ej, hl]
  (first | refine aCall_fold rfl ?_ | refine aCallT_fold rfl ?_)
  (first | refine aCallU_p (X_spec) ?_ | refine aCallTU_p (X_spec) ?_ | refine aCallU_of (X_spec) ?_ | refine aCallTU_of (X_spec) rfl ?_ | refine aCallTU_of (X_spec) (by simp [AV.pur]; rfl) ?_)
  try simp [e0, ej, hl]
  by_cases hk : kk = 0
  · rw [if_pos hk] at c1
    simp only [tyR, twoE, atE] at c1
    (first | refine aCall_fold rfl ?_ | refine aCallT_fold rfl ?_)
    (first | refine aCallU_p (c1) ?_ | refine aCallTU_p (c1) ?_ | refine aCallU_of (c1) ?_ | refine aCallTU_of (c1) rfl ?_ | refine aCallTU_of (c1) (by simp [AV.pur]; rfl) ?_)
    try simp [R.num, R.get, e0, ej, hl]
    (first | refine aCall_fold rfl ?_ | refine aCallT_fold rfl ?_)
    (first | refine aCallU_p (sm1) ?_ | refine aCallTU_p (sm1) ?_ | refine aCallU_of (sm1) ?_ | refine aCallTU_of (sm1) rfl ?_ | refine aCallTU_of (sm1) (by simp [AV.pur]; rfl) ?_)
    try simp [runnellaw4_ExprTwo_J1, e0, ej, hl, gives_tt]
    clear c1 sm1
    cases sm <;> simp [hk] at hkk ⊢
    all_goals grind
  · rw [if_neg hk] at c1
    simp only [tyR, twoE, atE] at c1
    (first | refine aCall_fold rfl ?_ | refine aCallT_fold rfl ?_)
    (first | refine aCallU_p (c1) ?_ | refine aCallTU_p (c1) ?_ | refine aCallU_of (c1) ?_ | refine aCallTU_of (c1) rfl ?_ | refine aCallTU_of (c1) (by simp [AV.pur]; rfl) ?_)
    try simp [R.num, R.get, e0, ej, hl, plainT]
    (first | refine aCall_fold rfl ?_ | refine aCallT_fold rfl ?_)
    (first | refine aCallU_p (sm1) ?_ | refine aCallTU_p (sm1) ?_ | refine aCallU_of (sm1) ?_ | refine aCallTU_of (sm1) rfl ?_ | refine aCallTU_of (sm1) (by simp [AV.pur]; rfl) ?_)
    try simp [runnellaw4_ExprTwo_J1, e0, ej, hl, gives_tt]
    clear c1 sm1
    clear hl hW w1 w2 w3 w4 w5 h1 h2 h3 h4 h5 ej
    cases sm <;> simp at hkk ⊢
    all_goals grind [gives_bb]

end Go.Proofs.Ytiejfphchpcldaa
