/- A map behind a filter behind a flat one. No program in sight. -/
import Derived.Test.YtjendohiohhciaaZPuComp
import Derived.Test.YtjendohiohhciaaZSpChain
import Derived.Test.YtjendohiohhciaaZSpLaw6
set_option linter.unusedSimpArgs false
set_option linter.unusedVariables false
namespace Go.Proofs.Ytjendohiohhciaa
open Go Go.Abs

abbrev eX : Ex := .mk oX zeroV 0 []
abbrev eL (v : Va) : Ex := .mk oLit v 0 []
abbrev e2 (op : List UInt8) (a b : Ex) : Ex := .mk op zeroV 0 [a, b]

abbrev fE (a : Int) : List Ex := [eX, e2 oAdd eX (eL (intV a))]
abbrev gE (b : Int) : List Ex := [e2 oLt eX (eL (intV b))]
abbrev hE : List Ex := [e2 oDiv (eL (intV 1000)) eX]
def fP (a : Int) : List In := genOf 4 (fE a)
def gP (b : Int) : List In := genOf 3 (gE b)
def hP : List In := genOf 2 hE

theorem we_x {n : Nat} : We n eX := .mk _ _ _ _ (by simp) (by simp) (by simp)
theorem we_l {n : Nat} {v : Va} (h : Wv n v) : We n (eL v) := .mk _ _ _ _ h (by simp) (by simp)
theorem we_2 {op : List UInt8} {a b : Ex} (ha : We 1000000000 a) (hb : We 1000000000 b) : We 1000000000 (e2 op a b) := .mk _ _ _ _ (by simp) (by simp) (by simp [ha, hb])

theorem of_intV (n : Int) : Of (intV n) (plainT 1) := of_int n

theorem f_run (a x : Int) : RunI (fP a) (intV x) 0 [] [] (.ok [intV x, intV (w64 (x + a))]) := by
  refine genOf_run_map (t := plainT 1) (us := [plainT 1, plainT 1]) (.inr (.inl rfl)) ?_ (of_intV x) ?_ (wv_int x) ?_ ?_
  · rfl
  · intro e he
    simp only [List.mem_cons, List.not_mem_nil, or_false] at he
    rcases he with rfl | rfl
    · exact we_x
    · exact we_2 we_x (we_l (wv_int _))
  · simp [sizeEs, sizeE]
  · rfl

theorem g_run (b x : Int) : RunI (gP b) (intV x) 0 [] [] (.ok (if x < b then [intV x] else [])) := by
  have h := genOf_run_filter (e := e2 oLt eX (eL (intV b))) (t := plainT 1) (u := plainT 2) (x := intV x) (r := .ok [boolV (decide (x < b))]) (by rfl) (of_intV x) (we_2 we_x (we_l (wv_int _))) (wv_int x) (by simp [sizeE, sizeEs]) ?_
  · have e : keepR (intV x) (.ok [boolV (decide (x < b))]) = .ok (if x < b then [intV x] else []) := by simp [keepR, boolV, Va.truth]
    rw [e] at h
    exact h
  · have : cmpV (intV x) (intV b) < 0 ↔ x < b := cmp_int x b
    have e1 : evL [e2 oLt eX (eL (intV b))] (intV x) = some (.ok [boolV (decide (cmpV (intV x) (intV b) < 0))]) := by rfl
    rw [e1, decide_eq_decide.2 this]

theorem h_run (x : Int) : RunI hP (intV x) 0 [] [] (if x = 0 then .er 8 else .ok [intV (w64 ((1000 : Int).tdiv x))]) := by
  refine genOf_run_map (t := plainT 1) (us := [plainT 1]) (.inl rfl) ?_ (of_intV x) ?_ (wv_int x) ?_ ?_
  · rfl
  · intro e he
    simp only [List.mem_cons, List.not_mem_nil, or_false] at he
    subst he
    exact we_2 (we_l (wv_int _)) we_x
  · decide
  · by_cases h : x = 0
    · subst h
      rfl
    · have e1 : evL hE (intV x) = (match mkE oDiv 0 [intV 1000, intV x] with
        | none => none
        | some (.er f) => some (.er f)
        | some (.ok v) => some (.ok [v])) := rfl
      have e2 : mkE oDiv 0 [intV 1000, intV x] = some (if x = 0 then .er 8 else .ok (intV (w64 ((1000 : Int).tdiv x)))) := rfl
      rw [e1, e2, if_neg h, if_neg h]

/-- What comes of a row of the middle; what misses. -/
def fOut (b y : Int) : List Int := if y < b then (if y = 0 then [] else [w64 ((1000 : Int).tdiv y)]) else []
def fMiss (b y : Int) : List (Nat × Va) := if y < b then (if y = 0 then [(2, intV 0)] else []) else []

theorem p_len : (∀ a, (fP a).length ≤ 1000000) ∧ (∀ b, (gP b).length ≤ 1000000) ∧ hP.length ≤ 1000000 := by
  refine ⟨fun a => ?_, fun b => ?_, ?_⟩
  · simp [fP, genOf, genEs, genE, joinI_length, emitsI, oLit, oX, oAdd, oAt, oTup, oAnd, oOr, oIf]
  · simp [gP, genOf, genEs, genE, joinI_length, emitsI, oLit, oX, oLt, oAt, oTup, oAnd, oOr, oIf]
  · simp [hP, genOf, genEs, genE, joinI_length, emitsI, oLit, oX, oDiv, oAt, oTup, oAnd, oOr, oIf]

theorem fused_mid (a b y : Int) : ChainR [fP a, gP b, hP] 2 1 (intV y) ((fOut b y).map intV) (fMiss b y) := by
  refine ⟨gP b, _, rfl, p_len.2.1 b, g_run b y, ?_⟩
  by_cases h : y < b
  · simp only [if_pos h, fOut, fMiss]
    refine ⟨_, _, [], [], ⟨hP, _, rfl, p_len.2.2, h_run y, ?_⟩, ⟨rfl, rfl⟩, (List.append_nil _).symm, (List.append_nil _).symm⟩
    by_cases h0 : y = 0
    · subst h0
      exact ⟨rfl, rfl⟩
    · simp only [if_neg h0]
      exact ⟨_, _, [], [], ⟨rfl, rfl, rfl⟩, ⟨rfl, rfl⟩, rfl, rfl⟩
  · simp only [if_neg h, fOut, fMiss]
    exact ⟨rfl, rfl⟩

theorem fused_run (a b x : Int) : ChainR [fP a, gP b, hP] 3 0 (intV x) ((fOut b x ++ fOut b (w64 (x + a))).map intV) (fMiss b x ++ fMiss b (w64 (x + a))) := by
  refine ⟨fP a, _, rfl, p_len.1 a, f_run a x, ?_⟩
  refine ⟨_, _, _, _, fused_mid a b x, ⟨_, _, [], [], fused_mid a b (w64 (x + a)), ⟨rfl, rfl⟩, (List.append_nil _).symm, (List.append_nil _).symm⟩, by simp, rfl⟩

end Go.Proofs.Ytjendohiohhciaa
