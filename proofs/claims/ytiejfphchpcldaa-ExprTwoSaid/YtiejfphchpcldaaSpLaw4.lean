/- The laws of the package runnellaw4: known, ExprTwo, ExprNest. -/
import Derived.Test.YtiejfphchpcldaaSpBudT
import Derived.Test.YtiejfphchpcldaaShLaw4
set_option linter.unusedSimpArgs false
set_option linter.unusedVariables false
namespace Go.Proofs.Ytiejfphchpcldaa
open Go Go.Abs

attribute [local irreducible] Abs.Fn

def t4 : Ty := .mk 4 [.mk 1 [], .mk 3 []]

theorem CheckE_of {e : Ex} {t : Ty} {r : R Ty} (h : checkE e t = r) (he : We 1000000000 e) (hs : sizeE e ≤ 1000000000) : Abs.Fn Try.prog expr_Check_i [] [.p (encE e), .p (encT t)] (tyR r) [] := h ▸ CheckE_spec e t he hs

/-- e within so many 'neg'. -/
def negE : Nat → Ex
  | 0 => .mk oX zeroV 0 []
  | n + 1 => .mk oNeg zeroV 0 [negE n]
def addE : Nat → Ex
  | 0 => .mk oAdd zeroV 0 [.mk oX zeroV 0 [], .mk oLit (.mk 1 1 false [] []) 0 []]
  | n + 1 => .mk oAdd zeroV 0 [addE n, addE n]

theorem negE_size (n : Nat) : sizeE (negE n) = n + 1 := by
  induction n with
  | zero => rfl
  | succ n ih => simp only [negE, sizeE, sizeEs, ih]; omega
theorem addE_size (n : Nat) : sizeE (addE n) + 1 = 2 ^ (n + 2) := by
  induction n with
  | zero => rfl
  | succ n ih => simp only [addE, sizeE, sizeEs]; rw [Nat.pow_succ]; omega
theorem negE_we (n : Nat) : We 1000000000 (negE n) := by
  induction n with
  | zero => simp [negE]
  | succ n ih => simp [negE, ih]
theorem addE_we (n : Nat) : We 1000000000 (addE n) := by
  induction n with
  | zero => simp [addE]
  | succ n ih => simp [addE, ih]

theorem ckE_x (t : Ty) (d : Int) (h : ¬ 12 < d) : ckE (.mk oX zeroV 0 []) t d = .ok t := by
  rw [ckE_unfold, if_neg (by decide), if_neg h, if_neg (by decide), if_neg (by decide), if_pos rfl]
theorem ckE_lit (v : Va) (t : Ty) (d : Int) (h : ¬ 12 < d) (hc : checkV v 0 = 0) : ckE (.mk oLit v 0 []) t d = .ok (kindV v) := by
  rw [ckE_unfold, if_neg (by decide), if_neg h, if_neg (by simp [fieldsE, arE]), if_pos rfl, if_neg (by simpa using hc)]

theorem ckE_neg (n : Nat) : ∀ d : Int, ckE (negE n) (.mk 1 []) d = if 12 < d + n then .er 9 else .ok (.mk 1 []) := by
  induction n with
  | zero =>
    intro d
    simp only [negE]
    by_cases h : 12 < d
    · rw [ckE_unfold, if_neg (by decide), if_pos h, if_pos (by simpa using h)]
    · rw [ckE_x _ _ h, if_neg (by simpa using h)]
  | succ n ih =>
    intro d
    simp only [negE]
    rw [ckE_unfold]
    simp only [ckL, ih]
    by_cases h : 12 < d
    · rw [if_neg (by decide), if_pos h, if_pos (by omega)]
    · rw [if_neg (by decide), if_neg h, if_neg (by simp only [List.length_cons, List.length_nil]; decide), if_neg (by decide), if_neg (by decide)]
      by_cases h2 : 12 < d + 1 + n
      · rw [if_pos h2, if_pos (by omega)]
      · rw [if_neg h2, if_neg (by omega)]
        rfl

theorem ckE_add (n : Nat) : ∀ d : Int, d + n + 1 ≤ 12 → ckE (addE n) (.mk 1 []) d = .ok (.mk 1 []) := by
  induction n with
  | zero =>
    intro d hd
    simp only [addE]
    rw [ckE_unfold]
    simp only [ckL]
    rw [if_neg (by decide), if_neg (by omega), if_neg (by decide), if_neg (by decide), if_neg (by decide), ckE_x _ _ (by omega), ckE_lit _ _ _ (by omega) (by decide)]
    rfl
  | succ n ih =>
    intro d hd
    simp only [addE]
    rw [ckE_unfold]
    simp only [ckL]
    rw [if_neg (by decide), if_neg (by omega), if_neg (by simp only [List.length_cons, List.length_nil]; decide), if_neg (by decide), if_neg (by decide), ih (d + 1) (by omega)]
    rfl

set_option maxRecDepth 100000 in
set_option maxHeartbeats 1000000 in
theorem known4_spec : Abs.Fn Try.prog runnellaw4_known_i [] [] (.p (.bool true)) [] := by
  apply runnellaw4_known_fn
  simp [runnellaw4_known]
  repeat ((first | refine aCall_fold rfl ?_ | refine aCallT_fold rfl ?_); (first | refine aCallU_p (X_spec) ?_ | refine aCallTU_p (X_spec) ?_ | refine aCallU_of (X_spec) ?_ | refine aCallTU_of (X_spec) rfl ?_ | refine aCallTU_of (X_spec) (by simp [AV.pur]; rfl) ?_ | refine aCallU_p (Lit_spec _) ?_ | refine aCallTU_p (Lit_spec _) ?_ | refine aCallU_of (Lit_spec _) ?_ | refine aCallTU_of (Lit_spec _) rfl ?_ | refine aCallTU_of (Lit_spec _) (by simp [AV.pur]; rfl) ?_ | refine aCallU_p (Op4_spec _ _) ?_ | refine aCallTU_p (Op4_spec _ _) ?_ | refine aCallU_of (Op4_spec _ _) ?_ | refine aCallTU_of (Op4_spec _ _) rfl ?_ | refine aCallTU_of (Op4_spec _ _) (by simp [AV.pur]; rfl) ?_ | refine aCallU_p (Int_spec _) ?_ | refine aCallTU_p (Int_spec _) ?_ | refine aCallU_of (Int_spec _) ?_ | refine aCallTU_of (Int_spec _) rfl ?_ | refine aCallTU_of (Int_spec _) (by simp [AV.pur]; rfl) ?_ | refine aCallU_p (Bool_spec _) ?_ | refine aCallTU_p (Bool_spec _) ?_ | refine aCallU_of (Bool_spec _) ?_ | refine aCallTU_of (Bool_spec _) rfl ?_ | refine aCallTU_of (Bool_spec _) (by simp [AV.pur]; rfl) ?_ | refine aCallU_p (Str_spec _) ?_ | refine aCallTU_p (Str_spec _) ?_ | refine aCallU_of (Str_spec _) ?_ | refine aCallTU_of (Str_spec _) rfl ?_ | refine aCallTU_of (Str_spec _) (by simp [AV.pur]; rfl) ?_ | refine aCallU_p (V_spec _) ?_ | refine aCallTU_p (V_spec _) ?_ | refine aCallU_of (V_spec _) ?_ | refine aCallTU_of (V_spec _) rfl ?_ | refine aCallTU_of (V_spec _) (by simp [AV.pur]; rfl) ?_ | refine aCallU_p (Yes_spec _) ?_ | refine aCallTU_p (Yes_spec _) ?_ | refine aCallU_of (Yes_spec _) ?_ | refine aCallTU_of (Yes_spec _) rfl ?_ | refine aCallTU_of (Yes_spec _) (by simp [AV.pur]; rfl) ?_ | refine aCallU_p (Checkv_spec _) ?_ | refine aCallTU_p (Checkv_spec _) ?_ | refine aCallU_of (Checkv_spec _) ?_ | refine aCallTU_of (Checkv_spec _) rfl ?_ | refine aCallTU_of (Checkv_spec _) (by simp [AV.pur]; rfl) ?_ | refine aCallU_p (CheckValue_spec _) ?_ | refine aCallTU_p (CheckValue_spec _) ?_ | refine aCallU_of (CheckValue_spec _) ?_ | refine aCallTU_of (CheckValue_spec _) rfl ?_ | refine aCallTU_of (CheckValue_spec _) (by simp [AV.pur]; rfl) ?_ | refine aCallU_p (Same_spec _ _) ?_ | refine aCallTU_p (Same_spec _ _) ?_ | refine aCallU_of (Same_spec _ _) ?_ | refine aCallTU_of (Same_spec _ _) rfl ?_ | refine aCallTU_of (Same_spec _ _) (by simp [AV.pur]; rfl) ?_ | refine aCallU_p (SameR_spec _ _) ?_ | refine aCallTU_p (SameR_spec _ _) ?_ | refine aCallU_of (SameR_spec _ _) ?_ | refine aCallTU_of (SameR_spec _ _) rfl ?_ | refine aCallTU_of (SameR_spec _ _) (by simp [AV.pur]; rfl) ?_ | refine aCallU_p (Compare_spec _ _) ?_ | refine aCallTU_p (Compare_spec _ _) ?_ | refine aCallU_of (Compare_spec _ _) ?_ | refine aCallTU_of (Compare_spec _ _) rfl ?_ | refine aCallTU_of (Compare_spec _ _) (by simp [AV.pur]; rfl) ?_ | refine aCallU_p (CompareR_spec _ _) ?_ | refine aCallTU_p (CompareR_spec _ _) ?_ | refine aCallU_of (CompareR_spec _ _) ?_ | refine aCallTU_of (CompareR_spec _ _) rfl ?_ | refine aCallTU_of (CompareR_spec _ _) (by simp [AV.pur]; rfl) ?_ | refine aCallU_p (Tup_spec _ (by simp)) ?_ | refine aCallTU_p (Tup_spec _ (by simp)) ?_ | refine aCallU_of (Tup_spec _ (by simp)) ?_ | refine aCallTU_of (Tup_spec _ (by simp)) rfl ?_ | refine aCallTU_of (Tup_spec _ (by simp)) (by simp [AV.pur]; rfl) ?_ | refine aCallU_p (few2_spec _) ?_ | refine aCallTU_p (few2_spec _) ?_ | refine aCallU_of (few2_spec _) ?_ | refine aCallTU_of (few2_spec _) rfl ?_ | refine aCallTU_of (few2_spec _) (by simp [AV.pur]; rfl) ?_ | refine aCallU_p (good2_spec _) ?_ | refine aCallTU_p (good2_spec _) ?_ | refine aCallU_of (good2_spec _) ?_ | refine aCallTU_of (good2_spec _) rfl ?_ | refine aCallTU_of (good2_spec _) (by simp [AV.pur]; rfl) ?_ | refine aCallU_p (of2_spec (by simp [*])) ?_ | refine aCallTU_p (of2_spec (by simp [*])) ?_ | refine aCallU_of (of2_spec (by simp [*])) ?_ | refine aCallTU_of (of2_spec (by simp [*])) rfl ?_ | refine aCallTU_of (of2_spec (by simp [*])) (by simp [AV.pur]; rfl) ?_ | refine aCallU_p (typeOfR_spec (by simp [*])) ?_ | refine aCallTU_p (typeOfR_spec (by simp [*])) ?_ | refine aCallU_of (typeOfR_spec (by simp [*])) ?_ | refine aCallTU_of (typeOfR_spec (by simp [*])) rfl ?_ | refine aCallTU_of (typeOfR_spec (by simp [*])) (by simp [AV.pur]; rfl) ?_); (try simp))
  have h1 : checkE (.mk oAdd (.mk 0 0 false [] []) 0 [.mk oAt (.mk 0 0 false [] []) 0 [.mk oX (.mk 0 0 false [] []) 0 []], .mk oLit (.mk 1 1 false [] []) 0 []]) t4 = .ok (plainT 1) := by rfl
  have h2 : checkE (.mk oAdd (.mk 0 0 false [] []) 0 [.mk oX (.mk 0 0 false [] []) 0 [], .mk oX (.mk 0 0 false [] []) 0 []]) t4 = .er 5 := by rfl
  have h3 : checkE (.mk oAt (.mk 0 0 false [] []) 2 [.mk oX (.mk 0 0 false [] []) 0 []]) t4 = .er 1 := by rfl
  have h4 : checkE (.mk [113] (.mk 0 0 false [] []) 0 []) t4 = .er 6 := by rfl
  (first | refine aCall_fold rfl ?_ | refine aCallT_fold rfl ?_)
  (first | refine aCallU_p (CheckE_of h1 (by simp) (by decide)) ?_ | refine aCallTU_p (CheckE_of h1 (by simp) (by decide)) ?_ | refine aCallU_of (CheckE_of h1 (by simp) (by decide)) ?_ | refine aCallTU_of (CheckE_of h1 (by simp) (by decide)) rfl ?_ | refine aCallTU_of (CheckE_of h1 (by simp) (by decide)) (by simp [AV.pur]; rfl) ?_)
  try simp [tyR, R.num, R.get]
  repeat ((first | refine aCall_fold rfl ?_ | refine aCallT_fold rfl ?_); (first | refine aCallU_p (X_spec) ?_ | refine aCallTU_p (X_spec) ?_ | refine aCallU_of (X_spec) ?_ | refine aCallTU_of (X_spec) rfl ?_ | refine aCallTU_of (X_spec) (by simp [AV.pur]; rfl) ?_ | refine aCallU_p (Lit_spec _) ?_ | refine aCallTU_p (Lit_spec _) ?_ | refine aCallU_of (Lit_spec _) ?_ | refine aCallTU_of (Lit_spec _) rfl ?_ | refine aCallTU_of (Lit_spec _) (by simp [AV.pur]; rfl) ?_ | refine aCallU_p (Op4_spec _ _) ?_ | refine aCallTU_p (Op4_spec _ _) ?_ | refine aCallU_of (Op4_spec _ _) ?_ | refine aCallTU_of (Op4_spec _ _) rfl ?_ | refine aCallTU_of (Op4_spec _ _) (by simp [AV.pur]; rfl) ?_ | refine aCallU_p (Int_spec _) ?_ | refine aCallTU_p (Int_spec _) ?_ | refine aCallU_of (Int_spec _) ?_ | refine aCallTU_of (Int_spec _) rfl ?_ | refine aCallTU_of (Int_spec _) (by simp [AV.pur]; rfl) ?_ | refine aCallU_p (Bool_spec _) ?_ | refine aCallTU_p (Bool_spec _) ?_ | refine aCallU_of (Bool_spec _) ?_ | refine aCallTU_of (Bool_spec _) rfl ?_ | refine aCallTU_of (Bool_spec _) (by simp [AV.pur]; rfl) ?_ | refine aCallU_p (Str_spec _) ?_ | refine aCallTU_p (Str_spec _) ?_ | refine aCallU_of (Str_spec _) ?_ | refine aCallTU_of (Str_spec _) rfl ?_ | refine aCallTU_of (Str_spec _) (by simp [AV.pur]; rfl) ?_ | refine aCallU_p (V_spec _) ?_ | refine aCallTU_p (V_spec _) ?_ | refine aCallU_of (V_spec _) ?_ | refine aCallTU_of (V_spec _) rfl ?_ | refine aCallTU_of (V_spec _) (by simp [AV.pur]; rfl) ?_ | refine aCallU_p (Yes_spec _) ?_ | refine aCallTU_p (Yes_spec _) ?_ | refine aCallU_of (Yes_spec _) ?_ | refine aCallTU_of (Yes_spec _) rfl ?_ | refine aCallTU_of (Yes_spec _) (by simp [AV.pur]; rfl) ?_ | refine aCallU_p (Checkv_spec _) ?_ | refine aCallTU_p (Checkv_spec _) ?_ | refine aCallU_of (Checkv_spec _) ?_ | refine aCallTU_of (Checkv_spec _) rfl ?_ | refine aCallTU_of (Checkv_spec _) (by simp [AV.pur]; rfl) ?_ | refine aCallU_p (CheckValue_spec _) ?_ | refine aCallTU_p (CheckValue_spec _) ?_ | refine aCallU_of (CheckValue_spec _) ?_ | refine aCallTU_of (CheckValue_spec _) rfl ?_ | refine aCallTU_of (CheckValue_spec _) (by simp [AV.pur]; rfl) ?_ | refine aCallU_p (Same_spec _ _) ?_ | refine aCallTU_p (Same_spec _ _) ?_ | refine aCallU_of (Same_spec _ _) ?_ | refine aCallTU_of (Same_spec _ _) rfl ?_ | refine aCallTU_of (Same_spec _ _) (by simp [AV.pur]; rfl) ?_ | refine aCallU_p (SameR_spec _ _) ?_ | refine aCallTU_p (SameR_spec _ _) ?_ | refine aCallU_of (SameR_spec _ _) ?_ | refine aCallTU_of (SameR_spec _ _) rfl ?_ | refine aCallTU_of (SameR_spec _ _) (by simp [AV.pur]; rfl) ?_ | refine aCallU_p (Compare_spec _ _) ?_ | refine aCallTU_p (Compare_spec _ _) ?_ | refine aCallU_of (Compare_spec _ _) ?_ | refine aCallTU_of (Compare_spec _ _) rfl ?_ | refine aCallTU_of (Compare_spec _ _) (by simp [AV.pur]; rfl) ?_ | refine aCallU_p (CompareR_spec _ _) ?_ | refine aCallTU_p (CompareR_spec _ _) ?_ | refine aCallU_of (CompareR_spec _ _) ?_ | refine aCallTU_of (CompareR_spec _ _) rfl ?_ | refine aCallTU_of (CompareR_spec _ _) (by simp [AV.pur]; rfl) ?_ | refine aCallU_p (Tup_spec _ (by simp)) ?_ | refine aCallTU_p (Tup_spec _ (by simp)) ?_ | refine aCallU_of (Tup_spec _ (by simp)) ?_ | refine aCallTU_of (Tup_spec _ (by simp)) rfl ?_ | refine aCallTU_of (Tup_spec _ (by simp)) (by simp [AV.pur]; rfl) ?_ | refine aCallU_p (few2_spec _) ?_ | refine aCallTU_p (few2_spec _) ?_ | refine aCallU_of (few2_spec _) ?_ | refine aCallTU_of (few2_spec _) rfl ?_ | refine aCallTU_of (few2_spec _) (by simp [AV.pur]; rfl) ?_ | refine aCallU_p (good2_spec _) ?_ | refine aCallTU_p (good2_spec _) ?_ | refine aCallU_of (good2_spec _) ?_ | refine aCallTU_of (good2_spec _) rfl ?_ | refine aCallTU_of (good2_spec _) (by simp [AV.pur]; rfl) ?_ | refine aCallU_p (of2_spec (by simp [*])) ?_ | refine aCallTU_p (of2_spec (by simp [*])) ?_ | refine aCallU_of (of2_spec (by simp [*])) ?_ | refine aCallTU_of (of2_spec (by simp [*])) rfl ?_ | refine aCallTU_of (of2_spec (by simp [*])) (by simp [AV.pur]; rfl) ?_ | refine aCallU_p (typeOfR_spec (by simp [*])) ?_ | refine aCallTU_p (typeOfR_spec (by simp [*])) ?_ | refine aCallU_of (typeOfR_spec (by simp [*])) ?_ | refine aCallTU_of (typeOfR_spec (by simp [*])) rfl ?_ | refine aCallTU_of (typeOfR_spec (by simp [*])) (by simp [AV.pur]; rfl) ?_); (try simp))
  (first | refine aCall_fold rfl ?_ | refine aCallT_fold rfl ?_)
  (first | refine aCallU_p (CheckE_of h2 (by simp) (by decide)) ?_ | refine aCallTU_p (CheckE_of h2 (by simp) (by decide)) ?_ | refine aCallU_of (CheckE_of h2 (by simp) (by decide)) ?_ | refine aCallTU_of (CheckE_of h2 (by simp) (by decide)) rfl ?_ | refine aCallTU_of (CheckE_of h2 (by simp) (by decide)) (by simp [AV.pur]; rfl) ?_)
  try simp [tyR, R.num, R.get]
  repeat ((first | refine aCall_fold rfl ?_ | refine aCallT_fold rfl ?_); (first | refine aCallU_p (X_spec) ?_ | refine aCallTU_p (X_spec) ?_ | refine aCallU_of (X_spec) ?_ | refine aCallTU_of (X_spec) rfl ?_ | refine aCallTU_of (X_spec) (by simp [AV.pur]; rfl) ?_ | refine aCallU_p (Lit_spec _) ?_ | refine aCallTU_p (Lit_spec _) ?_ | refine aCallU_of (Lit_spec _) ?_ | refine aCallTU_of (Lit_spec _) rfl ?_ | refine aCallTU_of (Lit_spec _) (by simp [AV.pur]; rfl) ?_ | refine aCallU_p (Op4_spec _ _) ?_ | refine aCallTU_p (Op4_spec _ _) ?_ | refine aCallU_of (Op4_spec _ _) ?_ | refine aCallTU_of (Op4_spec _ _) rfl ?_ | refine aCallTU_of (Op4_spec _ _) (by simp [AV.pur]; rfl) ?_ | refine aCallU_p (Int_spec _) ?_ | refine aCallTU_p (Int_spec _) ?_ | refine aCallU_of (Int_spec _) ?_ | refine aCallTU_of (Int_spec _) rfl ?_ | refine aCallTU_of (Int_spec _) (by simp [AV.pur]; rfl) ?_ | refine aCallU_p (Bool_spec _) ?_ | refine aCallTU_p (Bool_spec _) ?_ | refine aCallU_of (Bool_spec _) ?_ | refine aCallTU_of (Bool_spec _) rfl ?_ | refine aCallTU_of (Bool_spec _) (by simp [AV.pur]; rfl) ?_ | refine aCallU_p (Str_spec _) ?_ | refine aCallTU_p (Str_spec _) ?_ | refine aCallU_of (Str_spec _) ?_ | refine aCallTU_of (Str_spec _) rfl ?_ | refine aCallTU_of (Str_spec _) (by simp [AV.pur]; rfl) ?_ | refine aCallU_p (V_spec _) ?_ | refine aCallTU_p (V_spec _) ?_ | refine aCallU_of (V_spec _) ?_ | refine aCallTU_of (V_spec _) rfl ?_ | refine aCallTU_of (V_spec _) (by simp [AV.pur]; rfl) ?_ | refine aCallU_p (Yes_spec _) ?_ | refine aCallTU_p (Yes_spec _) ?_ | refine aCallU_of (Yes_spec _) ?_ | refine aCallTU_of (Yes_spec _) rfl ?_ | refine aCallTU_of (Yes_spec _) (by simp [AV.pur]; rfl) ?_ | refine aCallU_p (Checkv_spec _) ?_ | refine aCallTU_p (Checkv_spec _) ?_ | refine aCallU_of (Checkv_spec _) ?_ | refine aCallTU_of (Checkv_spec _) rfl ?_ | refine aCallTU_of (Checkv_spec _) (by simp [AV.pur]; rfl) ?_ | refine aCallU_p (CheckValue_spec _) ?_ | refine aCallTU_p (CheckValue_spec _) ?_ | refine aCallU_of (CheckValue_spec _) ?_ | refine aCallTU_of (CheckValue_spec _) rfl ?_ | refine aCallTU_of (CheckValue_spec _) (by simp [AV.pur]; rfl) ?_ | refine aCallU_p (Same_spec _ _) ?_ | refine aCallTU_p (Same_spec _ _) ?_ | refine aCallU_of (Same_spec _ _) ?_ | refine aCallTU_of (Same_spec _ _) rfl ?_ | refine aCallTU_of (Same_spec _ _) (by simp [AV.pur]; rfl) ?_ | refine aCallU_p (SameR_spec _ _) ?_ | refine aCallTU_p (SameR_spec _ _) ?_ | refine aCallU_of (SameR_spec _ _) ?_ | refine aCallTU_of (SameR_spec _ _) rfl ?_ | refine aCallTU_of (SameR_spec _ _) (by simp [AV.pur]; rfl) ?_ | refine aCallU_p (Compare_spec _ _) ?_ | refine aCallTU_p (Compare_spec _ _) ?_ | refine aCallU_of (Compare_spec _ _) ?_ | refine aCallTU_of (Compare_spec _ _) rfl ?_ | refine aCallTU_of (Compare_spec _ _) (by simp [AV.pur]; rfl) ?_ | refine aCallU_p (CompareR_spec _ _) ?_ | refine aCallTU_p (CompareR_spec _ _) ?_ | refine aCallU_of (CompareR_spec _ _) ?_ | refine aCallTU_of (CompareR_spec _ _) rfl ?_ | refine aCallTU_of (CompareR_spec _ _) (by simp [AV.pur]; rfl) ?_ | refine aCallU_p (Tup_spec _ (by simp)) ?_ | refine aCallTU_p (Tup_spec _ (by simp)) ?_ | refine aCallU_of (Tup_spec _ (by simp)) ?_ | refine aCallTU_of (Tup_spec _ (by simp)) rfl ?_ | refine aCallTU_of (Tup_spec _ (by simp)) (by simp [AV.pur]; rfl) ?_ | refine aCallU_p (few2_spec _) ?_ | refine aCallTU_p (few2_spec _) ?_ | refine aCallU_of (few2_spec _) ?_ | refine aCallTU_of (few2_spec _) rfl ?_ | refine aCallTU_of (few2_spec _) (by simp [AV.pur]; rfl) ?_ | refine aCallU_p (good2_spec _) ?_ | refine aCallTU_p (good2_spec _) ?_ | refine aCallU_of (good2_spec _) ?_ | refine aCallTU_of (good2_spec _) rfl ?_ | refine aCallTU_of (good2_spec _) (by simp [AV.pur]; rfl) ?_ | refine aCallU_p (of2_spec (by simp [*])) ?_ | refine aCallTU_p (of2_spec (by simp [*])) ?_ | refine aCallU_of (of2_spec (by simp [*])) ?_ | refine aCallTU_of (of2_spec (by simp [*])) rfl ?_ | refine aCallTU_of (of2_spec (by simp [*])) (by simp [AV.pur]; rfl) ?_ | refine aCallU_p (typeOfR_spec (by simp [*])) ?_ | refine aCallTU_p (typeOfR_spec (by simp [*])) ?_ | refine aCallU_of (typeOfR_spec (by simp [*])) ?_ | refine aCallTU_of (typeOfR_spec (by simp [*])) rfl ?_ | refine aCallTU_of (typeOfR_spec (by simp [*])) (by simp [AV.pur]; rfl) ?_); (try simp))
  (first | refine aCall_fold rfl ?_ | refine aCallT_fold rfl ?_)
  (first | refine aCallU_p (CheckE_of h3 (by simp) (by decide)) ?_ | refine aCallTU_p (CheckE_of h3 (by simp) (by decide)) ?_ | refine aCallU_of (CheckE_of h3 (by simp) (by decide)) ?_ | refine aCallTU_of (CheckE_of h3 (by simp) (by decide)) rfl ?_ | refine aCallTU_of (CheckE_of h3 (by simp) (by decide)) (by simp [AV.pur]; rfl) ?_)
  try simp [tyR, R.num, R.get]
  repeat ((first | refine aCall_fold rfl ?_ | refine aCallT_fold rfl ?_); (first | refine aCallU_p (Op4_spec _ []) ?_ | refine aCallTU_p (Op4_spec _ []) ?_ | refine aCallU_of (Op4_spec _ []) ?_ | refine aCallTU_of (Op4_spec _ []) rfl ?_ | refine aCallTU_of (Op4_spec _ []) (by simp [AV.pur]; rfl) ?_); (try simp))
  (first | refine aCall_fold rfl ?_ | refine aCallT_fold rfl ?_)
  (first | refine aCallU_p (CheckE_of h4 (by simp) (by decide)) ?_ | refine aCallTU_p (CheckE_of h4 (by simp) (by decide)) ?_ | refine aCallU_of (CheckE_of h4 (by simp) (by decide)) ?_ | refine aCallTU_of (CheckE_of h4 (by simp) (by decide)) rfl ?_ | refine aCallTU_of (CheckE_of h4 (by simp) (by decide)) (by simp [AV.pur]; rfl) ?_)
  try simp [tyR, R.num, R.get]
  refine aMerge_intro true (fun _ => ?_) ?_
  · (first | refine aCall_fold rfl ?_ | refine aCallT_fold rfl ?_)
    (first | refine aCallU_p (size_spec _ (by decide)) ?_ | refine aCallTU_p (size_spec _ (by decide)) ?_ | refine aCallU_of (size_spec _ (by decide)) ?_ | refine aCallTU_of (size_spec _ (by decide)) rfl ?_ | refine aCallTU_of (size_spec _ (by decide)) (by simp [AV.pur]; rfl) ?_)
    try simp [tyR, R.num, R.get, sizeE, sizeEs]
  simp
  exact gives_p rfl

def boxE (e : Ex) : List AV := [.p (.str e.op), .p (.int .i64 e.v.k), .p (.int .i64 e.v.i), .p (.bool e.v.b), .p (.str e.v.s), .p (.slice (e.v.t.map encV)), .p (.int .i64 e.n), .p (.slice (e.a.map encE))]

/-- The second half. -/
theorem nest_two (wide : Int) (j : Nat) (hj : j < 8) (ej : wide.tmod 8 = j) (e0 : Ex) (x1 x2 : T) (cs : List AV) (h0 : Ob.le (.box cs) (.box (boxE (addE 0)))) :
    aLoopN 1 [.p (.int .i64 0)] [.box (boxE e0), .box [.p x1, .p x2], .box cs] fun xs H B2 => runnellaw4_ExprNest_L2 (.p (.int .u8 wide)) (.bptr 2 0) (xs.getD 0 .top) H B2 (fun u H' => Gives 0 u H' (.p (.bool true)) []) := by
  refine loop_le (σ := Nat) (n := 3) (fun i => [.p (.int .i64 i)]) (fun i => [.box (boxE e0), .box [.p x1, .p x2], .box (boxE (addE i))]) (fun i => i ≤ j) (fun i => j - i) [] 0 (fun _ => rfl) ⟨⟨rfl, trivial⟩, leO_refl _, leO_refl _, h0, trivial⟩ (by simp) (fun i B hi hB => ?_)
  have e1 : IntKind.i64.wrap j = j := IntWalk.i64_in _ (by omega)
  have e2 : IntKind.u64.wrap j = j := IntWalk.u64_in _ (by omega)
  have e3 : IntKind.u64.wrap ((j : Int) + 2) = (j : Int) + 2 := IntWalk.u64_in _ (by omega)
  have hsz := addE_size i
  have hpow : 2 ^ (i + 2) ≤ 2 ^ 9 := Nat.pow_le_pow_right (by omega) (by omega)
  have c2 := size_spec (addE i) (by omega)
  simp only [encE_eta] at c2
  simp [runnellaw4_ExprNest_L2, boxE, ej, e1, e2, e3]
  refine ⟨fun hlt => ?_, fun hge => ?_⟩
  · rw [IntWalk.i64_in _ (by omega)]
    exact hB (i + 1) _ _ (by omega) (by omega) (by simp) (by simp [boxE, addE, Ex.op, Ex.v, Ex.n, Ex.a, zeroV, Va.k, Va.i, Va.b, Va.s, Va.t]) (by simp) (by simp [AV.under, AV.under1]) (by simp [Ob.below, AV.under1, boxE])
  · have hij : i = j := by omega
    subst hij
    have hck : checkE (addE i) (.mk 1 []) = if 6 < i then .er 10 else .ok (.mk 1 []) := by
      simp only [checkE]
      rw [if_neg (by decide)]
      by_cases h : 6 < i
      · have : i = 7 := by omega
        subst this
        rfl
      · have : sizeE (addE i) ≤ 256 := by
          have : 2 ^ (i + 2) ≤ 2 ^ 8 := Nat.pow_le_pow_right (by omega) (by omega)
          omega
        rw [if_neg (by omega), if_neg h]
        exact ckE_add i 0 (by omega)
    have c1 := CheckE_of hck (addE_we i) (by omega)
    simp only [encE_eta, encT_eta, Ty.kind, Ty.of, List.map_nil] at c1
    have e4 : min ((i : Int) + 2).toNat 64 = i + 2 := by omega
    obtain ⟨p, hp⟩ : ∃ p : Nat, p = 2 ^ (i + 2) := ⟨_, rfl⟩
    have hz : (2 : Int) ^ (i + 2) = (p : Int) := by rw [hp]; exact (Int.natCast_pow 2 (i + 2)).symm
    rw [← hp] at hsz hpow
    have hpow : p ≤ 512 := hpow
    have e5 : IntKind.i64.wrap (p : Int) = p := IntWalk.i64_in _ (by omega)
    have e6 : IntKind.i64.wrap ((p : Int) - 1) = p - 1 := IntWalk.i64_in _ (by omega)
    have e7 : ((sizeE (addE i) : Nat) : Int) = p - 1 := by omega
    rw [e7] at c2
    by_cases h : 6 < i
    · have h9 : p = 512 := by
        have : i = 7 := by omega
        subst this
        exact hp
      simp only [if_pos h, tyR] at c1
      refine aCallW_of rfl rfl c1 ?_
      simp [R.num, R.get, ej, e1, e2, e3, e4, hz, e5, e6, IntKind.bits]
      refine ⟨by omega, fun _ => ?_, fun h10 => by omega⟩
      refine aMerge_intro true (fun _ => ?_) (gives_p rfl)
      refine aCallW_of rfl rfl c2 ?_
      simp [ej, e1, e2, e3, e4, hz, e5, e6, IntKind.bits]
    · have h9 : p ≤ 256 := by
        have : 2 ^ (i + 2) ≤ 2 ^ 8 := Nat.pow_le_pow_right (by omega) (by omega)
        omega
      simp only [if_neg h, tyR] at c1
      refine aCallW_of rfl rfl c1 ?_
      simp [R.num, R.get, ej, e1, e2, e3, e4, hz, e5, e6, IntKind.bits]
      refine ⟨by omega, fun h10 => by omega, fun _ => ?_⟩
      refine aMerge_intro true (fun _ => ?_) (gives_p rfl)
      refine aCallW_of rfl rfl c2 ?_
      simp [ej, e1, e2, e3, e4, hz, e5, e6, IntKind.bits]

theorem u8mod16 (n : Int) (h0 : 0 ≤ n) (h1 : n < 256) : ∃ k : Nat, k < 16 ∧ n.tmod 16 = k := by
  refine ⟨(n.tmod 16).toNat, ?_, ?_⟩ <;> rw [Int.tmod_eq_emod_of_nonneg h0] <;> omega
theorem u8mod8 (n : Int) (h0 : 0 ≤ n) (h1 : n < 256) : ∃ k : Nat, k < 8 ∧ n.tmod 8 = k := by
  refine ⟨(n.tmod 8).toNat, ?_, ?_⟩ <;> rw [Int.tmod_eq_emod_of_nonneg h0] <;> omega

theorem ExprNest_spec (n wide : Int) (hn0 : 0 ≤ n) (hn1 : n < 256) (hw0 : 0 ≤ wide) (hw1 : wide < 256) : Abs.Fn Try.prog runnellaw4_ExprNest_i [] [.p (.int .u8 n), .p (.int .u8 wide)] (.p (.bool true)) [] := by
  obtain ⟨k, hk, ek⟩ := u8mod16 n hn0 hn1
  obtain ⟨j, hj, ej⟩ := u8mod8 wide hw0 hw1
  apply runnellaw4_ExprNest_fn
  simp [runnellaw4_ExprNest]
  (first | refine aCall_fold rfl ?_ | refine aCallT_fold rfl ?_)
  (first | refine aCallU_p (known4_spec) ?_ | refine aCallTU_p (known4_spec) ?_ | refine aCallU_of (known4_spec) ?_ | refine aCallTU_of (known4_spec) rfl ?_ | refine aCallTU_of (known4_spec) (by simp [AV.pur]; rfl) ?_)
  try simp
  have e1 : IntKind.i64.wrap k = k := IntWalk.i64_in _ (by omega)
  have e1' : IntKind.i64.wrap ((k : Int) + 1) = k + 1 := IntWalk.i64_in _ (by omega)
  refine aCallW_of rfl rfl X_spec ?_
  simp [xE, ek, e1]
  refine loop_le (σ := Nat) (n := 1) (fun i => [.p (.int .i64 i)]) (fun i => [.box (boxE (negE i))]) (fun i => i ≤ k) (fun i => k - i) [] 0 (fun _ => rfl) ⟨⟨rfl, trivial⟩, by simp [boxE, negE, Ex.op, Ex.v, Ex.n, Ex.a, zeroV, Va.k, Va.i, Va.b, Va.s, Va.t], trivial⟩ (by simp) (fun i B hi hB => ?_)
  have c2 := size_spec (negE i) (by rw [negE_size]; omega)
  rw [negE_size] at c2
  simp only [encE_eta] at c2
  simp [runnellaw4_ExprNest_L1, boxE, e1, e1']
  refine ⟨fun hlt => ?_, fun hge => ?_⟩
  · rw [IntWalk.i64_in _ (by omega)]
    exact hB (i + 1) _ _ (by omega) (by omega) (by simp) (by simp [boxE, negE, Ex.op, Ex.v, Ex.n, Ex.a, zeroV, Va.k, Va.i, Va.b, Va.s, Va.t]) (by simp) (by simp [AV.under, AV.under1]) (by simp [Ob.below, AV.under1, boxE])
  · have hik : i = k := by omega
    subst hik
    have hck : checkE (negE i) (.mk 1 []) = if 12 < i then .er 9 else .ok (.mk 1 []) := by
      simp only [checkE]
      rw [if_neg (by decide), if_neg (by rw [negE_size]; omega), ckE_neg]
      by_cases h : 12 < i
      · rw [if_pos h, if_pos (by omega)]
      · rw [if_neg h, if_neg (by omega)]
    have c1 := CheckE_of hck (negE_we i) (by rw [negE_size]; omega)
    simp only [encE_eta, encT_eta, Ty.kind, Ty.of, List.map_nil] at c1
    have e8 : IntKind.i64.wrap ((i : Int) + 1) = ((i + 1 : Nat) : Int) := by rw [e1']; push_cast; rfl
    by_cases h : 12 < i
    · have h12 : ¬ ((i : Int) ≤ 12) := by omega
      simp only [if_pos h, tyR] at c1
      refine aCallW_of rfl rfl c1 ?_
      simp [R.num, R.get, h12, ek, e1]
      refine aMerge_intro false (fun _ => ?_) ?_
      · refine aCallW_of rfl rfl c2 ?_
        simp [ek, e1, e8]
      simp [h12]
      (first | refine aCall_fold rfl ?_ | refine aCallT_fold rfl ?_)
      (first | refine aCallU_p (X_spec) ?_ | refine aCallTU_p (X_spec) ?_ | refine aCallU_of (X_spec) ?_ | refine aCallTU_of (X_spec) rfl ?_ | refine aCallTU_of (X_spec) (by simp [AV.pur]; rfl) ?_)
      try simp
      (first | refine aCall_fold rfl ?_ | refine aCallT_fold rfl ?_)
      (first | refine aCallU_p (Int_spec 1) ?_ | refine aCallTU_p (Int_spec 1) ?_ | refine aCallU_of (Int_spec 1) ?_ | refine aCallTU_of (Int_spec 1) rfl ?_ | refine aCallTU_of (Int_spec 1) (by simp [AV.pur]; rfl) ?_)
      try simp
      (first | refine aCall_fold rfl ?_ | refine aCallT_fold rfl ?_)
      (first | refine aCallU_p (Lit_spec _) ?_ | refine aCallTU_p (Lit_spec _) ?_ | refine aCallU_of (Lit_spec _) ?_ | refine aCallTU_of (Lit_spec _) rfl ?_ | refine aCallTU_of (Lit_spec _) (by simp [AV.pur]; rfl) ?_)
      try simp
      exact nest_two wide j hj ej (negE i) _ _ _ (by simp [boxE, addE, Ex.op, Ex.v, Ex.n, Ex.a, zeroV, Va.k, Va.i, Va.b, Va.s, Va.t, oAdd])
    · have h12 : (i : Int) ≤ 12 := by omega
      simp only [if_neg h, tyR] at c1
      refine aCallW_of rfl rfl c1 ?_
      simp [R.num, R.get, h12, ek, e1]
      refine aMerge_intro false (fun _ => ?_) ?_
      · refine aCallW_of rfl rfl c2 ?_
        simp [ek, e1, e8]
      simp [h12]
      refine ⟨fun h13 => absurd h13 (by omega), ?_⟩
      (first | refine aCall_fold rfl ?_ | refine aCallT_fold rfl ?_)
      (first | refine aCallU_p (X_spec) ?_ | refine aCallTU_p (X_spec) ?_ | refine aCallU_of (X_spec) ?_ | refine aCallTU_of (X_spec) rfl ?_ | refine aCallTU_of (X_spec) (by simp [AV.pur]; rfl) ?_)
      try simp
      (first | refine aCall_fold rfl ?_ | refine aCallT_fold rfl ?_)
      (first | refine aCallU_p (Int_spec 1) ?_ | refine aCallTU_p (Int_spec 1) ?_ | refine aCallU_of (Int_spec 1) ?_ | refine aCallTU_of (Int_spec 1) rfl ?_ | refine aCallTU_of (Int_spec 1) (by simp [AV.pur]; rfl) ?_)
      try simp
      (first | refine aCall_fold rfl ?_ | refine aCallT_fold rfl ?_)
      (first | refine aCallU_p (Lit_spec _) ?_ | refine aCallTU_p (Lit_spec _) ?_ | refine aCallU_of (Lit_spec _) ?_ | refine aCallTU_of (Lit_spec _) rfl ?_ | refine aCallTU_of (Lit_spec _) (by simp [AV.pur]; rfl) ?_)
      try simp
      exact nest_two wide j hj ej (negE i) _ _ _ (by simp [boxE, addE, Ex.op, Ex.v, Ex.n, Ex.a, zeroV, Va.k, Va.i, Va.b, Va.s, Va.t, oAdd])

theorem ExprNest_row (n wide : Int) (hn : 0 ≤ n ∧ n ≤ 255) (hw : 0 ≤ wide ∧ wide ≤ 255) : Abs.Fn Try.prog runnellaw4_ExprNest_i [] [.p (.int .u8 n), .p (.int .u8 wide)] (.p (.bool true)) [] :=
  ExprNest_spec n wide hn.1 (by omega) hw.1 (by omega)

end Go.Proofs.Ytiejfphchpcldaa
