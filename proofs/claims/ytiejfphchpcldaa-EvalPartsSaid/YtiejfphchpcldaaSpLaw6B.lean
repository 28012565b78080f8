/- The laws of the package runnellaw6: EvalTexts, EvalParts, EvalAny. -/
import Derived.Test.YtiejfphchpcldaaSpLaw6
set_option linter.unusedSimpArgs false
set_option linter.unusedVariables false
namespace Go.Proofs.Ytiejfphchpcldaa
open Go Go.Abs

attribute [local irreducible] Abs.Fn

theorem cmpV_str (a b : List UInt8) : cmpV (.mk 3 0 false a []) (.mk 3 0 false b []) = cmpS a b := by
  have h1 : cmpI 3 3 = 0 := by rfl
  have h2 : cmpI (truthI false) (truthI false) = 0 := by rfl
  have h3 : cmpI 0 0 = 0 := by rfl
  simp only [cmpV, orI, cmpVs, h1, h2, h3, ne_eq, not_true, if_false]
  by_cases h : cmpS a b = 0 <;> simp [h]
theorem cmpS_lt (a b : List UInt8) : cmpS a b < 0 ↔ Op.bytesLess a b = true := by
  unfold cmpS
  split
  · simp [*]
  · rename_i h
    split <;> simp [h]
theorem cmp_str (a b : List UInt8) : cmpV (.mk 3 0 false a []) (.mk 3 0 false b []) < 0 ↔ Op.bytesLess a b = true := by rw [cmpV_str, cmpS_lt]
theorem cmp_str0 (a b : List UInt8) : cmpV (.mk 3 0 false a []) (.mk 3 0 false b []) = 0 ↔ a = b := by rw [cmpV_str, cmpS_zero]

set_option maxRecDepth 100000 in
set_option maxHeartbeats 2000000 in
theorem EvalTexts_spec (a b : List UInt8) : Abs.Fn Try.prog runnellaw6_EvalTexts_i [] [.p (.str a), .p (.str b)] (.p (.bool true)) [] := by
  apply runnellaw6_EvalTexts_fn
  simp [runnellaw6_EvalTexts]
  (first | refine aCall_fold rfl ?_ | refine aCallT_fold rfl ?_)
  (first | refine aCallU_p (known6_spec) ?_ | refine aCallTU_p (known6_spec) ?_ | refine aCallU_of (known6_spec) ?_ | refine aCallTU_of (known6_spec) rfl ?_ | refine aCallTU_of (known6_spec) (by simp [AV.pur]; rfl) ?_)
  try simp
  intro _
  refine ⟨fun _ => gives_p rfl, fun h1 h2 => ?_⟩
  have h1 : a.length ≤ 1000000000 := by omega
  have h2 : b.length ≤ 1000000000 := by omega
  by_cases hz : 255 < a.length + b.length
  · repeat ((first | refine aCall_fold rfl ?_ | refine aCallT_fold rfl ?_); (first | refine aCallU_p (Int_spec _) ?_ | refine aCallTU_p (Int_spec _) ?_ | refine aCallU_of (Int_spec _) ?_ | refine aCallTU_of (Int_spec _) rfl ?_ | refine aCallTU_of (Int_spec _) (by simp [AV.pur]; rfl) ?_ | refine aCallU_p (Bool_spec _) ?_ | refine aCallTU_p (Bool_spec _) ?_ | refine aCallU_of (Bool_spec _) ?_ | refine aCallTU_of (Bool_spec _) rfl ?_ | refine aCallTU_of (Bool_spec _) (by simp [AV.pur]; rfl) ?_ | refine aCallU_p (Str_spec _) ?_ | refine aCallTU_p (Str_spec _) ?_ | refine aCallU_of (Str_spec _) ?_ | refine aCallTU_of (Str_spec _) rfl ?_ | refine aCallTU_of (Str_spec _) (by simp [AV.pur]; rfl) ?_ | refine aCallU_p (V_spec _) ?_ | refine aCallTU_p (V_spec _) ?_ | refine aCallU_of (V_spec _) ?_ | refine aCallTU_of (V_spec _) rfl ?_ | refine aCallTU_of (V_spec _) (by simp [AV.pur]; rfl) ?_ | refine aCallU_p (Yes_spec _) ?_ | refine aCallTU_p (Yes_spec _) ?_ | refine aCallU_of (Yes_spec _) ?_ | refine aCallTU_of (Yes_spec _) rfl ?_ | refine aCallTU_of (Yes_spec _) (by simp [AV.pur]; rfl) ?_ | refine aCallU_p (Checkv_spec _) ?_ | refine aCallTU_p (Checkv_spec _) ?_ | refine aCallU_of (Checkv_spec _) ?_ | refine aCallTU_of (Checkv_spec _) rfl ?_ | refine aCallTU_of (Checkv_spec _) (by simp [AV.pur]; rfl) ?_ | refine aCallU_p (CheckValue_spec _) ?_ | refine aCallTU_p (CheckValue_spec _) ?_ | refine aCallU_of (CheckValue_spec _) ?_ | refine aCallTU_of (CheckValue_spec _) rfl ?_ | refine aCallTU_of (CheckValue_spec _) (by simp [AV.pur]; rfl) ?_ | refine aCallU_p (Same_spec _ _) ?_ | refine aCallTU_p (Same_spec _ _) ?_ | refine aCallU_of (Same_spec _ _) ?_ | refine aCallTU_of (Same_spec _ _) rfl ?_ | refine aCallTU_of (Same_spec _ _) (by simp [AV.pur]; rfl) ?_ | refine aCallU_p (SameR_spec _ _) ?_ | refine aCallTU_p (SameR_spec _ _) ?_ | refine aCallU_of (SameR_spec _ _) ?_ | refine aCallTU_of (SameR_spec _ _) rfl ?_ | refine aCallTU_of (SameR_spec _ _) (by simp [AV.pur]; rfl) ?_ | refine aCallU_p (Compare_spec _ _) ?_ | refine aCallTU_p (Compare_spec _ _) ?_ | refine aCallU_of (Compare_spec _ _) ?_ | refine aCallTU_of (Compare_spec _ _) rfl ?_ | refine aCallTU_of (Compare_spec _ _) (by simp [AV.pur]; rfl) ?_ | refine aCallU_p (CompareR_spec _ _) ?_ | refine aCallTU_p (CompareR_spec _ _) ?_ | refine aCallU_of (CompareR_spec _ _) ?_ | refine aCallTU_of (CompareR_spec _ _) rfl ?_ | refine aCallTU_of (CompareR_spec _ _) (by simp [AV.pur]; rfl) ?_ | refine aCallU_p (Tup_spec _ (by simp)) ?_ | refine aCallTU_p (Tup_spec _ (by simp)) ?_ | refine aCallU_of (Tup_spec _ (by simp)) ?_ | refine aCallTU_of (Tup_spec _ (by simp)) rfl ?_ | refine aCallTU_of (Tup_spec _ (by simp)) (by simp [AV.pur]; rfl) ?_ | refine aCallU_p (few2_spec _) ?_ | refine aCallTU_p (few2_spec _) ?_ | refine aCallU_of (few2_spec _) ?_ | refine aCallTU_of (few2_spec _) rfl ?_ | refine aCallTU_of (few2_spec _) (by simp [AV.pur]; rfl) ?_ | refine aCallU_p (good2_spec _) ?_ | refine aCallTU_p (good2_spec _) ?_ | refine aCallU_of (good2_spec _) ?_ | refine aCallTU_of (good2_spec _) rfl ?_ | refine aCallTU_of (good2_spec _) (by simp [AV.pur]; rfl) ?_ | refine aCallU_p (of2_spec (by simp [*])) ?_ | refine aCallTU_p (of2_spec (by simp [*])) ?_ | refine aCallU_of (of2_spec (by simp [*])) ?_ | refine aCallTU_of (of2_spec (by simp [*])) rfl ?_ | refine aCallTU_of (of2_spec (by simp [*])) (by simp [AV.pur]; rfl) ?_ | refine aCallU_p (typeOfR_spec (by simp [*])) ?_ | refine aCallTU_p (typeOfR_spec (by simp [*])) ?_ | refine aCallU_of (typeOfR_spec (by simp [*])) ?_ | refine aCallTU_of (typeOfR_spec (by simp [*])) rfl ?_ | refine aCallTU_of (typeOfR_spec (by simp [*])) (by simp [AV.pur]; rfl) ?_ | refine aCallU_p (X_spec) ?_ | refine aCallTU_p (X_spec) ?_ | refine aCallU_of (X_spec) ?_ | refine aCallTU_of (X_spec) rfl ?_ | refine aCallTU_of (X_spec) (by simp [AV.pur]; rfl) ?_ | refine aCallU_p (Lit_spec _) ?_ | refine aCallTU_p (Lit_spec _) ?_ | refine aCallU_of (Lit_spec _) ?_ | refine aCallTU_of (Lit_spec _) rfl ?_ | refine aCallTU_of (Lit_spec _) (by simp [AV.pur]; rfl) ?_ | refine aCallU_p (Op4_spec _ _) ?_ | refine aCallTU_p (Op4_spec _ _) ?_ | refine aCallU_of (Op4_spec _ _) ?_ | refine aCallTU_of (Op4_spec _ _) rfl ?_ | refine aCallTU_of (Op4_spec _ _) (by simp [AV.pur]; rfl) ?_ | refine aCallU_p (EvalF_spec _ _ (by simp [*]) (by simp [*]) (by simp [evE, ev2, ev3, evL, mkE, Va.truth, *])) ?_ | refine aCallTU_p (EvalF_spec _ _ (by simp [*]) (by simp [*]) (by simp [evE, ev2, ev3, evL, mkE, Va.truth, *])) ?_ | refine aCallU_of (EvalF_spec _ _ (by simp [*]) (by simp [*]) (by simp [evE, ev2, ev3, evL, mkE, Va.truth, *])) ?_ | refine aCallTU_of (EvalF_spec _ _ (by simp [*]) (by simp [*]) (by simp [evE, ev2, ev3, evL, mkE, Va.truth, *])) rfl ?_ | refine aCallTU_of (EvalF_spec _ _ (by simp [*]) (by simp [*]) (by simp [evE, ev2, ev3, evL, mkE, Va.truth, *])) (by simp [AV.pur]; rfl) ?_); (try simp [twoR, evR, evE, ev2, ev3, evL, mkE, R.get, R.num, Va.truth, wrap_zero, hz]))
    simp [cmp_str, cmp_str0]
    intro _ _
    rw [IntWalk.i64_in _ (by omega)]
    exact ⟨fun _ => gives_p rfl, fun h => by omega⟩
  · repeat ((first | refine aCall_fold rfl ?_ | refine aCallT_fold rfl ?_); (first | refine aCallU_p (Int_spec _) ?_ | refine aCallTU_p (Int_spec _) ?_ | refine aCallU_of (Int_spec _) ?_ | refine aCallTU_of (Int_spec _) rfl ?_ | refine aCallTU_of (Int_spec _) (by simp [AV.pur]; rfl) ?_ | refine aCallU_p (Bool_spec _) ?_ | refine aCallTU_p (Bool_spec _) ?_ | refine aCallU_of (Bool_spec _) ?_ | refine aCallTU_of (Bool_spec _) rfl ?_ | refine aCallTU_of (Bool_spec _) (by simp [AV.pur]; rfl) ?_ | refine aCallU_p (Str_spec _) ?_ | refine aCallTU_p (Str_spec _) ?_ | refine aCallU_of (Str_spec _) ?_ | refine aCallTU_of (Str_spec _) rfl ?_ | refine aCallTU_of (Str_spec _) (by simp [AV.pur]; rfl) ?_ | refine aCallU_p (V_spec _) ?_ | refine aCallTU_p (V_spec _) ?_ | refine aCallU_of (V_spec _) ?_ | refine aCallTU_of (V_spec _) rfl ?_ | refine aCallTU_of (V_spec _) (by simp [AV.pur]; rfl) ?_ | refine aCallU_p (Yes_spec _) ?_ | refine aCallTU_p (Yes_spec _) ?_ | refine aCallU_of (Yes_spec _) ?_ | refine aCallTU_of (Yes_spec _) rfl ?_ | refine aCallTU_of (Yes_spec _) (by simp [AV.pur]; rfl) ?_ | refine aCallU_p (Checkv_spec _) ?_ | refine aCallTU_p (Checkv_spec _) ?_ | refine aCallU_of (Checkv_spec _) ?_ | refine aCallTU_of (Checkv_spec _) rfl ?_ | refine aCallTU_of (Checkv_spec _) (by simp [AV.pur]; rfl) ?_ | refine aCallU_p (CheckValue_spec _) ?_ | refine aCallTU_p (CheckValue_spec _) ?_ | refine aCallU_of (CheckValue_spec _) ?_ | refine aCallTU_of (CheckValue_spec _) rfl ?_ | refine aCallTU_of (CheckValue_spec _) (by simp [AV.pur]; rfl) ?_ | refine aCallU_p (Same_spec _ _) ?_ | refine aCallTU_p (Same_spec _ _) ?_ | refine aCallU_of (Same_spec _ _) ?_ | refine aCallTU_of (Same_spec _ _) rfl ?_ | refine aCallTU_of (Same_spec _ _) (by simp [AV.pur]; rfl) ?_ | refine aCallU_p (SameR_spec _ _) ?_ | refine aCallTU_p (SameR_spec _ _) ?_ | refine aCallU_of (SameR_spec _ _) ?_ | refine aCallTU_of (SameR_spec _ _) rfl ?_ | refine aCallTU_of (SameR_spec _ _) (by simp [AV.pur]; rfl) ?_ | refine aCallU_p (Compare_spec _ _) ?_ | refine aCallTU_p (Compare_spec _ _) ?_ | refine aCallU_of (Compare_spec _ _) ?_ | refine aCallTU_of (Compare_spec _ _) rfl ?_ | refine aCallTU_of (Compare_spec _ _) (by simp [AV.pur]; rfl) ?_ | refine aCallU_p (CompareR_spec _ _) ?_ | refine aCallTU_p (CompareR_spec _ _) ?_ | refine aCallU_of (CompareR_spec _ _) ?_ | refine aCallTU_of (CompareR_spec _ _) rfl ?_ | refine aCallTU_of (CompareR_spec _ _) (by simp [AV.pur]; rfl) ?_ | refine aCallU_p (Tup_spec _ (by simp)) ?_ | refine aCallTU_p (Tup_spec _ (by simp)) ?_ | refine aCallU_of (Tup_spec _ (by simp)) ?_ | refine aCallTU_of (Tup_spec _ (by simp)) rfl ?_ | refine aCallTU_of (Tup_spec _ (by simp)) (by simp [AV.pur]; rfl) ?_ | refine aCallU_p (few2_spec _) ?_ | refine aCallTU_p (few2_spec _) ?_ | refine aCallU_of (few2_spec _) ?_ | refine aCallTU_of (few2_spec _) rfl ?_ | refine aCallTU_of (few2_spec _) (by simp [AV.pur]; rfl) ?_ | refine aCallU_p (good2_spec _) ?_ | refine aCallTU_p (good2_spec _) ?_ | refine aCallU_of (good2_spec _) ?_ | refine aCallTU_of (good2_spec _) rfl ?_ | refine aCallTU_of (good2_spec _) (by simp [AV.pur]; rfl) ?_ | refine aCallU_p (of2_spec (by simp [*])) ?_ | refine aCallTU_p (of2_spec (by simp [*])) ?_ | refine aCallU_of (of2_spec (by simp [*])) ?_ | refine aCallTU_of (of2_spec (by simp [*])) rfl ?_ | refine aCallTU_of (of2_spec (by simp [*])) (by simp [AV.pur]; rfl) ?_ | refine aCallU_p (typeOfR_spec (by simp [*])) ?_ | refine aCallTU_p (typeOfR_spec (by simp [*])) ?_ | refine aCallU_of (typeOfR_spec (by simp [*])) ?_ | refine aCallTU_of (typeOfR_spec (by simp [*])) rfl ?_ | refine aCallTU_of (typeOfR_spec (by simp [*])) (by simp [AV.pur]; rfl) ?_ | refine aCallU_p (X_spec) ?_ | refine aCallTU_p (X_spec) ?_ | refine aCallU_of (X_spec) ?_ | refine aCallTU_of (X_spec) rfl ?_ | refine aCallTU_of (X_spec) (by simp [AV.pur]; rfl) ?_ | refine aCallU_p (Lit_spec _) ?_ | refine aCallTU_p (Lit_spec _) ?_ | refine aCallU_of (Lit_spec _) ?_ | refine aCallTU_of (Lit_spec _) rfl ?_ | refine aCallTU_of (Lit_spec _) (by simp [AV.pur]; rfl) ?_ | refine aCallU_p (Op4_spec _ _) ?_ | refine aCallTU_p (Op4_spec _ _) ?_ | refine aCallU_of (Op4_spec _ _) ?_ | refine aCallTU_of (Op4_spec _ _) rfl ?_ | refine aCallTU_of (Op4_spec _ _) (by simp [AV.pur]; rfl) ?_ | refine aCallU_p (EvalF_spec _ _ (by simp [*]) (by simp [*]) (by simp [evE, ev2, ev3, evL, mkE, Va.truth, *])) ?_ | refine aCallTU_p (EvalF_spec _ _ (by simp [*]) (by simp [*]) (by simp [evE, ev2, ev3, evL, mkE, Va.truth, *])) ?_ | refine aCallU_of (EvalF_spec _ _ (by simp [*]) (by simp [*]) (by simp [evE, ev2, ev3, evL, mkE, Va.truth, *])) ?_ | refine aCallTU_of (EvalF_spec _ _ (by simp [*]) (by simp [*]) (by simp [evE, ev2, ev3, evL, mkE, Va.truth, *])) rfl ?_ | refine aCallTU_of (EvalF_spec _ _ (by simp [*]) (by simp [*]) (by simp [evE, ev2, ev3, evL, mkE, Va.truth, *])) (by simp [AV.pur]; rfl) ?_); (try simp [twoR, evR, evE, ev2, ev3, evL, mkE, R.get, R.num, Va.truth, wrap_zero, hz]))
    simp [cmp_str, cmp_str0]
    intro _ _
    rw [IntWalk.i64_in _ (by omega)]
    exact ⟨fun h => by omega, fun h => ⟨by simp [maxLen]; omega, gives_p rfl⟩⟩

/- Parts of a tuple. -/
def atE (i : Nat) : Ex := .mk oAt zeroV i [xE]
theorem evE_at (i : Nat) (l : List Va) (h : i < l.length) : evE (atE i) (.mk 4 0 false [] l) = some (.ok l[i]) := by
  simp [atE, evE, evL, mkE, h]
theorem evL_at (l : List Va) (L : List Nat) (h : ∀ i ∈ L, i < l.length) : evL (L.map atE) (.mk 4 0 false [] l) = some (.ok (L.map fun i => l.getD i zeroV)) := by
  induction L with
  | nil => rfl
  | cons i r ih =>
    simp only [List.map_cons, evL, evE_at i l (h i (by simp)), ih (fun j hj => h j (by simp [hj]))]
    simp [List.getD_eq_getElem?_getD, h i (by simp)]
theorem getD_range (l : List Va) : (List.range l.length).map (fun i => l.getD i zeroV) = l := by
  apply List.ext_getElem?
  intro i
  by_cases h : i < l.length
  · simp [h]
  · simp [List.getElem?_eq_none (Nat.le_of_not_lt h), h]
theorem evE_parts (l : List Va) : evE (.mk oTup zeroV 0 ((List.range l.length).map atE)) (.mk 4 0 false [] l) = some (.ok (.mk 4 0 false [] l)) := by
  have h := evL_at l (List.range l.length) (fun i hi => List.mem_range.1 hi)
  rw [getD_range] at h
  simp only [evE]
  simp only [show oTup ≠ oLit by decide, show oTup ≠ oX by decide, show oTup ≠ oAnd by decide, show oTup ≠ oOr by decide, show oTup ≠ oIf by decide, if_false, h]
  simp [mkE]

theorem evE_eq2 (e : Ex) (x v : Va) (h : evE e x = some (.ok v)) : evE (.mk oEq zeroV 0 [e, .mk oX zeroV 0 []]) x = some (.ok (boolV (decide (cmpV v x = 0)))) := by
  obtain ⟨k, i, b, s, t⟩ := v
  obtain ⟨k', i', b', s', t'⟩ := x
  simp [evE, evL, h, mkE]

theorem goodV_wv {v : Va} (h : goodV v = true) : Wv 1000000000 v := by
  simp [goodV] at h
  exact (fewV_small h.1).mono (by omega)

set_option maxRecDepth 100000 in
set_option maxHeartbeats 2000000 in
theorem EvalParts_spec (l : List Va) : Abs.Fn Try.prog runnellaw6_EvalParts_i [] [.p (.slice (l.map encV))] (.p (.bool true)) [] := by
  apply runnellaw6_EvalParts_fn
  simp [runnellaw6_EvalParts]
  (first | refine aCall_fold rfl ?_ | refine aCallT_fold rfl ?_)
  (first | refine aCallU_p (known6_spec) ?_ | refine aCallTU_p (known6_spec) ?_ | refine aCallU_of (known6_spec) ?_ | refine aCallTU_of (known6_spec) rfl ?_ | refine aCallTU_of (known6_spec) (by simp [AV.pur]; rfl) ?_)
  try simp
  intro _
  refine ⟨fun _ => gives_p rfl, fun h1 h2 => ?_⟩
  refine loop_by (σ := Nat) (n := 0) (fun i => [.p (.int .i64 i)]) (fun _ => []) (fun i => i ≤ l.length ∧ ∀ v ∈ l.take i, goodV v = true) (fun i => l.length - i) [] 0 (fun _ => rfl) ⟨rfl, rfl⟩ (by simp) (fun i B hi hB => ?_)
  obtain ⟨g1, g2⟩ := hi
  simp [runnellaw6_EvalParts_L1]
  intro hlm
  refine ⟨fun hlt => ?_, fun hge => ?_⟩
  · simp [hlt]
    (first | refine aCall_fold rfl ?_ | refine aCallT_fold rfl ?_)
    (first | refine aCallU_p (good2_spec _) ?_ | refine aCallTU_p (good2_spec _) ?_ | refine aCallU_of (good2_spec _) ?_ | refine aCallTU_of (good2_spec _) rfl ?_ | refine aCallTU_of (good2_spec _) (by simp [AV.pur]; rfl) ?_)
    try simp
    refine ⟨fun _ => gives_p rfl, fun hg => ?_⟩
    rw [IntWalk.i64_in _ (by omega)]
    refine hB (i + 1) _ ⟨by omega, fun v hv => ?_⟩ (by omega) (by simp) (by simp) (by simp) (by simp [AV.under, AV.under1])
    rw [← take_snoc hlt, List.mem_append, List.mem_singleton] at hv
    rcases hv with h | rfl
    · exact g2 v h
    · exact hg
  · rw [List.take_of_length_le (by omega)] at g2
    have hw : ∀ v ∈ l, Wv 1000000000 v := fun v hv => goodV_wv (g2 v hv)
    have hwt : Wv 1000000000 (tupV l) := by simp; exact ⟨by omega, hw⟩
    have hxt : encV (tupV l) = .agg [.int .i64 4, .int .i64 0, .bool false, .str [], .slice (l.map encV)] := by simp
    (first | refine aCall_fold rfl ?_ | refine aCallT_fold rfl ?_)
    (first | refine aCallU_p (Tup_spec l (by omega)) ?_ | refine aCallTU_p (Tup_spec l (by omega)) ?_ | refine aCallU_of (Tup_spec l (by omega)) ?_ | refine aCallTU_of (Tup_spec l (by omega)) rfl ?_ | refine aCallTU_of (Tup_spec l (by omega)) (by simp [AV.pur]; rfl) ?_)
    try simp
    (first | refine aCall_fold rfl ?_ | refine aCallT_fold rfl ?_)
    (first | refine aCallU_p (of2_spec (by simpa using hwt)) ?_ | refine aCallTU_p (of2_spec (by simpa using hwt)) ?_ | refine aCallU_of (of2_spec (by simpa using hwt)) ?_ | refine aCallTU_of (of2_spec (by simpa using hwt)) rfl ?_ | refine aCallTU_of (of2_spec (by simpa using hwt)) (by simp [AV.pur]; rfl) ?_)
    try simp
    (first | refine aCall_fold rfl ?_ | refine aCallT_fold rfl ?_)
    (first | refine aCallU_p (CheckValue_spec _) ?_ | refine aCallTU_p (CheckValue_spec _) ?_ | refine aCallU_of (CheckValue_spec _) ?_ | refine aCallTU_of (CheckValue_spec _) rfl ?_ | refine aCallTU_of (CheckValue_spec _) (by simp [AV.pur]; rfl) ?_)
    try simp
    refine ⟨fun _ => gives_p rfl, fun hck => ?_⟩
    refine loop_by (σ := Nat) (n := 3) (fun i => [.p (.int .i64 i)]) (fun i => [.box [.p (.int .i64 4), .p (.int .i64 0), .p (.bool false), .p (.str []), .p (.slice (l.map encV))],
      .box [.p (.str [116, 117, 112]), .p (.int .i64 0), .p (.int .i64 0), .p (.bool false), .p (.str []), .full [], .p (.int .i64 0), .own 2 (((List.range i).map atE).map encE)], .row i 8])
      (fun i => i ≤ l.length) (fun i => l.length - i) [.cell 1 7 8] 0 (fun _ => rfl) (by simp [ghosts, ghost]) (by simp) (fun i B hi hB => ?_)
    simp [runnellaw6_EvalParts_L2]
    intro _
    refine ⟨fun hlt => ?_, fun hge => ?_⟩
    · (first | refine aCall_fold rfl ?_ | refine aCallT_fold rfl ?_)
      (first | refine aCallU_p (X_spec) ?_ | refine aCallTU_p (X_spec) ?_ | refine aCallU_of (X_spec) ?_ | refine aCallTU_of (X_spec) rfl ?_ | refine aCallTU_of (X_spec) (by simp [AV.pur]; rfl) ?_)
      try simp
      (first | refine aCall_fold rfl ?_ | refine aCallT_fold rfl ?_)
      (first | refine aCallU_p (EvalF_spec (atE i) (.mk 4 0 false [] l) (by simp [atE]) (by simpa using hwt) (by rw [evE_at i l hlt]; rfl)) ?_ | refine aCallTU_p (EvalF_spec (atE i) (.mk 4 0 false [] l) (by simp [atE]) (by simpa using hwt) (by rw [evE_at i l hlt]; rfl)) ?_ | refine aCallU_of (EvalF_spec (atE i) (.mk 4 0 false [] l) (by simp [atE]) (by simpa using hwt) (by rw [evE_at i l hlt]; rfl)) ?_ | refine aCallTU_of (EvalF_spec (atE i) (.mk 4 0 false [] l) (by simp [atE]) (by simpa using hwt) (by rw [evE_at i l hlt]; rfl)) rfl ?_ | refine aCallTU_of (EvalF_spec (atE i) (.mk 4 0 false [] l) (by simp [atE]) (by simpa using hwt) (by rw [evE_at i l hlt]; rfl)) (by simp [AV.pur]; rfl) ?_)
      try simp [twoR, evR, evE_at i l hlt, hlt, R.num, R.get]
      (first | refine aCall_fold rfl ?_ | refine aCallT_fold rfl ?_)
      (first | refine aCallU_p (Same_spec _ _) ?_ | refine aCallTU_p (Same_spec _ _) ?_ | refine aCallU_of (Same_spec _ _) ?_ | refine aCallTU_of (Same_spec _ _) rfl ?_ | refine aCallTU_of (Same_spec _ _) (by simp [AV.pur]; rfl) ?_)
      try simp [cmpV_self]
      refine ⟨⟨?_, ?_, by simp; omega⟩, ?_⟩
      · intro e he
        simp at he
        obtain ⟨j, _, rfl⟩ := he
        simp [atE]
      · simp
      rw [IntWalk.i64_in _ (by omega)]
      exact hB (i + 1) _ (by omega) (by omega) (by simp [List.range_succ, atE]) (by simp [Ob.below, AV.under1]) (by simp) (by simp [AV.under, AV.under1])
    · have hi : i = l.length := by omega
      subst hi
      have hwp : We 1000000000 (.mk oTup zeroV 0 ((List.range l.length).map atE)) := by
        simp [atE]
        omega
      have hev := evE_parts l
      simp only [zeroV_eq] at hev hwp
      (first | refine aCall_fold rfl ?_ | refine aCallT_fold rfl ?_)
      (first | refine aCallU_p (EvalF_spec (.mk oTup (.mk 0 0 false [] []) 0 ((List.range l.length).map atE)) (.mk 4 0 false [] l) hwp (by simpa using hwt) (by rw [hev]; rfl)) ?_ | refine aCallTU_p (EvalF_spec (.mk oTup (.mk 0 0 false [] []) 0 ((List.range l.length).map atE)) (.mk 4 0 false [] l) hwp (by simpa using hwt) (by rw [hev]; rfl)) ?_ | refine aCallU_of (EvalF_spec (.mk oTup (.mk 0 0 false [] []) 0 ((List.range l.length).map atE)) (.mk 4 0 false [] l) hwp (by simpa using hwt) (by rw [hev]; rfl)) ?_ | refine aCallTU_of (EvalF_spec (.mk oTup (.mk 0 0 false [] []) 0 ((List.range l.length).map atE)) (.mk 4 0 false [] l) hwp (by simpa using hwt) (by rw [hev]; rfl)) rfl ?_ | refine aCallTU_of (EvalF_spec (.mk oTup (.mk 0 0 false [] []) 0 ((List.range l.length).map atE)) (.mk 4 0 false [] l) hwp (by simpa using hwt) (by rw [hev]; rfl)) (by simp [AV.pur]; rfl) ?_)
      try simp [twoR, evR, hev, R.num, R.get]
      (first | refine aCall_fold rfl ?_ | refine aCallT_fold rfl ?_)
      (first | refine aCallU_p (X_spec) ?_ | refine aCallTU_p (X_spec) ?_ | refine aCallU_of (X_spec) ?_ | refine aCallTU_of (X_spec) rfl ?_ | refine aCallTU_of (X_spec) (by simp [AV.pur]; rfl) ?_)
      try simp
      (first | refine aCall_fold rfl ?_ | refine aCallT_fold rfl ?_)
      (first | refine aCallU_p (Op4_spec _ _) ?_ | refine aCallTU_p (Op4_spec _ _) ?_ | refine aCallU_of (Op4_spec _ _) ?_ | refine aCallTU_of (Op4_spec _ _) rfl ?_ | refine aCallTU_of (Op4_spec _ _) (by simp [AV.pur]; rfl) ?_)
      try simp
      have hev2 := evE_eq2 _ _ _ hev
      rw [decide_eq_true (cmpV_self _)] at hev2
      simp at hev2
      (first | refine aCall_fold rfl ?_ | refine aCallT_fold rfl ?_)
      (first | refine aCallU_p (EvalF_spec _ _ (by simp [atE]; omega) (by simpa using hwt) (by rw [hev2]; rfl)) ?_ | refine aCallTU_p (EvalF_spec _ _ (by simp [atE]; omega) (by simpa using hwt) (by rw [hev2]; rfl)) ?_ | refine aCallU_of (EvalF_spec _ _ (by simp [atE]; omega) (by simpa using hwt) (by rw [hev2]; rfl)) ?_ | refine aCallTU_of (EvalF_spec _ _ (by simp [atE]; omega) (by simpa using hwt) (by rw [hev2]; rfl)) rfl ?_ | refine aCallTU_of (EvalF_spec _ _ (by simp [atE]; omega) (by simpa using hwt) (by rw [hev2]; rfl)) (by simp [AV.pur]; rfl) ?_)
      try simp [twoR, evR, hev2, R.num, R.get, wrap_zero]
      refine aMerge_intro true (fun _ => ?_) ?_
      · (first | refine aCall_fold rfl ?_ | refine aCallT_fold rfl ?_)
        (first | refine aCallU_p (Same_spec _ _) ?_ | refine aCallTU_p (Same_spec _ _) ?_ | refine aCallU_of (Same_spec _ _) ?_ | refine aCallTU_of (Same_spec _ _) rfl ?_ | refine aCallTU_of (Same_spec _ _) (by simp [AV.pur]; rfl) ?_)
        try simp [cmpV_self, twoR, evR, hev, hev2, R.num, R.get, wrap_zero]
      simp
      exact gives_p rfl

set_option maxRecDepth 100000 in
set_option maxHeartbeats 2000000 in
theorem EvalAny_spec (e : Ex) (x : Va) : Abs.Fn Try.prog runnellaw6_EvalAny_i [] [.p (encE e), .p (encV x)] (.p (.bool true)) [] := by
  apply runnellaw6_EvalAny_fn
  simp [runnellaw6_EvalAny]
  (first | refine aCall_fold rfl ?_ | refine aCallT_fold rfl ?_)
  (first | refine aCallU_p (known6_spec) ?_ | refine aCallTU_p (known6_spec) ?_ | refine aCallU_of (known6_spec) ?_ | refine aCallTU_of (known6_spec) rfl ?_ | refine aCallTU_of (known6_spec) (by simp [AV.pur]; rfl) ?_)
  try simp
  (first | refine aCall_fold rfl ?_ | refine aCallT_fold rfl ?_)
  (first | refine aCallU_p (few4_spec e) ?_ | refine aCallTU_p (few4_spec e) ?_ | refine aCallU_of (few4_spec e) ?_ | refine aCallTU_of (few4_spec e) rfl ?_ | refine aCallTU_of (few4_spec e) (by simp [AV.pur]; rfl) ?_)
  try simp
  refine aMerge_intro (!goodV x) (fun _ => ?_) ?_
  · (first | refine aCall_fold rfl ?_ | refine aCallT_fold rfl ?_)
    (first | refine aCallU_p (good2_spec x) ?_ | refine aCallTU_p (good2_spec x) ?_ | refine aCallU_of (good2_spec x) ?_ | refine aCallTU_of (good2_spec x) rfl ?_ | refine aCallTU_of (good2_spec x) (by simp [AV.pur]; rfl) ?_)
    try simp
  simp
  refine ⟨fun _ => gives_p rfl, fun hf hg => ?_⟩
  obtain ⟨he, hsz⟩ := fewE_small hf
  have he : We 1000000000 e := he.mono (by omega)
  have hx := goodV_wv hg
  (first | refine aCall_fold rfl ?_ | refine aCallT_fold rfl ?_)
  (first | refine aCallU_p (of4_spec he) ?_ | refine aCallTU_p (of4_spec he) ?_ | refine aCallU_of (of4_spec he) ?_ | refine aCallTU_of (of4_spec he) rfl ?_ | refine aCallTU_of (of4_spec he) (by simp [AV.pur]; rfl) ?_)
  try simp
  (first | refine aCall_fold rfl ?_ | refine aCallT_fold rfl ?_)
  (first | refine aCallU_p (of2_spec hx) ?_ | refine aCallTU_p (of2_spec hx) ?_ | refine aCallU_of (of2_spec hx) ?_ | refine aCallTU_of (of2_spec hx) rfl ?_ | refine aCallTU_of (of2_spec hx) (by simp [AV.pur]; rfl) ?_)
  try simp
  (first | refine aCall_fold rfl ?_ | refine aCallT_fold rfl ?_)
  (first | refine aCallU_p (typeOfR_spec hx) ?_ | refine aCallTU_p (typeOfR_spec hx) ?_ | refine aCallU_of (typeOfR_spec hx) ?_ | refine aCallTU_of (typeOfR_spec hx) rfl ?_ | refine aCallTU_of (typeOfR_spec hx) (by simp [AV.pur]; rfl) ?_)
  try simp
  (first | refine aCall_fold rfl ?_ | refine aCallT_fold rfl ?_)
  (first | refine aCallU_p (CheckExprR_spec _ _ he (by omega)) ?_ | refine aCallTU_p (CheckExprR_spec _ _ he (by omega)) ?_ | refine aCallU_of (CheckExprR_spec _ _ he (by omega)) ?_ | refine aCallTU_of (CheckExprR_spec _ _ he (by omega)) rfl ?_ | refine aCallTU_of (CheckExprR_spec _ _ he (by omega)) (by simp [AV.pur]; rfl) ?_)
  try simp [tyR]
  cases hck : checkE e (kindV x) with
  | er f =>
    have hne : f ≠ 0 := by
      unfold checkE at hck
      split at hck
      · simp at hck; omega
      split at hck
      · simp at hck; omega
      · exact ckE_er _ _ _ _ hck
    simp [R.num, hne]
    exact gives_p rfl
  | ok u =>
    simp [R.num, R.get]
    have hck' : ckE e (kindV x) 0 = .ok u := by
      unfold checkE at hck
      split at hck
      · simp at hck
      split at hck
      · simp at hck
      · exact hck
    have hof : Of x (kindV x) := by
      simp [goodV] at hg
      exact ⟨hg.2, rfl⟩
    obtain ⟨r, hr, hor⟩ := evE_sound e (kindV x) 0 x u hck' hof
    (first | refine aCall_fold rfl ?_ | refine aCallT_fold rfl ?_)
    (first | refine aCallU_p (Eval_spec e x he hx r hr) ?_ | refine aCallTU_p (Eval_spec e x he hx r hr) ?_ | refine aCallU_of (Eval_spec e x he hx r hr) ?_ | refine aCallTU_of (Eval_spec e x he hx r hr) rfl ?_ | refine aCallTU_of (Eval_spec e x he hx r hr) (by simp [AV.pur]; rfl) ?_)
    try simp [twoR]
    (first | refine aCall_fold rfl ?_ | refine aCallT_fold rfl ?_)
    (first | refine aCallU_p (of2_spec hx) ?_ | refine aCallTU_p (of2_spec hx) ?_ | refine aCallU_of (of2_spec hx) ?_ | refine aCallTU_of (of2_spec hx) rfl ?_ | refine aCallTU_of (of2_spec hx) (by simp [AV.pur]; rfl) ?_)
    try simp
    (first | refine aCall_fold rfl ?_ | refine aCallT_fold rfl ?_)
    (first | refine aCallU_p (EvalR_spec e x (ckE_ne _ _ _ _ hck') he hx r hr) ?_ | refine aCallTU_p (EvalR_spec e x (ckE_ne _ _ _ _ hck') he hx r hr) ?_ | refine aCallU_of (EvalR_spec e x (ckE_ne _ _ _ _ hck') he hx r hr) ?_ | refine aCallTU_of (EvalR_spec e x (ckE_ne _ _ _ _ hck') he hx r hr) rfl ?_ | refine aCallTU_of (EvalR_spec e x (ckE_ne _ _ _ _ hck') he hx r hr) (by simp [AV.pur]; rfl) ?_)
    try simp [twoR]
    have hwr : Wv 1000000000 (r.get zeroV) := by
      cases r with
      | er f => simp [R.get]
      | ok v => exact evE_wv (by omega) e x v he hx hr
    (first | refine aCall_fold rfl ?_ | refine aCallT_fold rfl ?_)
    (first | refine aCallU_p (of2_spec hwr) ?_ | refine aCallTU_p (of2_spec hwr) ?_ | refine aCallU_of (of2_spec hwr) ?_ | refine aCallTU_of (of2_spec hwr) rfl ?_ | refine aCallTU_of (of2_spec hwr) (by simp [AV.pur]; rfl) ?_)
    try simp
    (first | refine aCall_fold rfl ?_ | refine aCallT_fold rfl ?_)
    (first | refine aCallU_p (SameR_spec _ _) ?_ | refine aCallTU_p (SameR_spec _ _) ?_ | refine aCallU_of (SameR_spec _ _) ?_ | refine aCallTU_of (SameR_spec _ _) rfl ?_ | refine aCallTU_of (SameR_spec _ _) (by simp [AV.pur]; rfl) ?_)
    try simp [cmpV_self]
    refine ⟨fun _ => gives_p rfl, fun hz => ?_⟩
    (first | refine aCall_fold rfl ?_ | refine aCallT_fold rfl ?_)
    (first | refine aCallU_p (of2_spec hwr) ?_ | refine aCallTU_p (of2_spec hwr) ?_ | refine aCallU_of (of2_spec hwr) ?_ | refine aCallTU_of (of2_spec hwr) rfl ?_ | refine aCallTU_of (of2_spec hwr) (by simp [AV.pur]; rfl) ?_)
    try simp
    cases r with
    | er f => exact absurd hz hor
    | ok v =>
      simp only [R.get]
      (first | refine aCall_fold rfl ?_ | refine aCallT_fold rfl ?_)
      (first | refine aCallU_p (IsR_spec v u (by simpa [R.get] using hwr)) ?_ | refine aCallTU_p (IsR_spec v u (by simpa [R.get] using hwr)) ?_ | refine aCallU_of (IsR_spec v u (by simpa [R.get] using hwr)) ?_ | refine aCallTU_of (IsR_spec v u (by simpa [R.get] using hwr)) rfl ?_ | refine aCallTU_of (IsR_spec v u (by simpa [R.get] using hwr)) (by simp [AV.pur]; rfl) ?_)
      try simp
      exact gives_p (by simp [isV, hor.1, hor.2, (sameT_iff u u).2 rfl])

end Go.Proofs.Ytiejfphchpcldaa
