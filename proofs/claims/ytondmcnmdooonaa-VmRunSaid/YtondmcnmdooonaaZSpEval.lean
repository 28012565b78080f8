/- What the functions of the package eval answer, over trees. -/
import Derived.Test.YtondmcnmdooonaaZSpValB
import Derived.Test.YtondmcnmdooonaaZPuEvalB
import Derived.Test.YtondmcnmdooonaaS1
set_option linter.unusedSimpArgs false
set_option linter.unusedVariables false
namespace Go.Proofs.Ytondmcnmdooonaa
open Go Go.Abs

/- Tables. -/
def lookT (name : List UInt8) : List (List UInt8 × T) → Option T
  | [] => none
  | p :: r => if p.1 = name then some p.2 else lookT name r

def encP (p : List UInt8 × T) : T := .agg [.str p.1, p.2]
def findR (o : Option T) : AV :=
  match o with
  | some f => .tup [.p f, .p (.bool true)]
  | none => .tup [.p (.raw .nilFunc), .p (.bool false)]

theorem lookT_drop (name : List UInt8) (l : List (List UInt8 × T)) (i : Nat) (h : i < l.length) : lookT name (l.drop i) = if l[i].1 = name then some l[i].2 else lookT name (l.drop (i + 1)) := by
  rw [List.drop_eq_getElem_cons h]
  simp [lookT]

theorem find2_spec (l : List (List UInt8 × T)) (name : List UInt8) : Abs.Fn Try.prog eval_table_eval_Two_find_i [] [.p (.slice (l.map encP)), .p (.str name)] (findR (lookT name l)) [] := by
  apply eval_table_eval_Two_find_fn
  simp [eval_table_eval_Two_find]
  intro hl
  refine loop_by (σ := Nat) (n := 0) (fun i => [.p (.int .i64 i)]) (fun _ => []) (fun i => i ≤ l.length ∧ lookT name (l.drop i) = lookT name l) (fun i => l.length - i) [] 0 (fun _ => rfl) ⟨rfl, rfl⟩ (by simp) (fun i B hi hB => ?_)
  obtain ⟨h1, h2⟩ := hi
  simp [eval_table_eval_Two_find_L1]
  refine ⟨fun hlt => ?_, fun hge => ?_⟩
  · have hd := lookT_drop name l i hlt
    rw [h2] at hd
    simp [hlt, encP]
    refine ⟨fun hz => ?_, fun hz => ?_⟩
    · rw [hd, if_pos hz]
      exact gives_pure (by simp [AV.pur, findR])
    · rw [IntWalk.i64_in _ (by simp [maxLen] at hl; omega)]
      exact hB (i + 1) _ ⟨by omega, by simp [hd, hz]⟩ (by omega) (by simp) (by simp) (by simp) (by simp [AV.under, AV.under1])
  · have : i = l.length := by omega
    subst this
    rw [← h2]
    simp [lookT, findR]
    exact gives_pure (by simp [AV.pur])

theorem find1_spec (l : List (List UInt8 × T)) (name : List UInt8) : Abs.Fn Try.prog eval_table_func_a_val_Value_val_Value_find_i [] [.p (.slice (l.map encP)), .p (.str name)] (findR (lookT name l)) [] := by
  apply eval_table_func_a_val_Value_val_Value_find_fn
  simp [eval_table_func_a_val_Value_val_Value_find]
  intro hl
  refine loop_by (σ := Nat) (n := 0) (fun i => [.p (.int .i64 i)]) (fun _ => []) (fun i => i ≤ l.length ∧ lookT name (l.drop i) = lookT name l) (fun i => l.length - i) [] 0 (fun _ => rfl) ⟨rfl, rfl⟩ (by simp) (fun i B hi hB => ?_)
  obtain ⟨h1, h2⟩ := hi
  simp [eval_table_func_a_val_Value_val_Value_find_L1]
  refine ⟨fun hlt => ?_, fun hge => ?_⟩
  · have hd := lookT_drop name l i hlt
    rw [h2] at hd
    simp [hlt, encP]
    refine ⟨fun hz => ?_, fun hz => ?_⟩
    · rw [hd, if_pos hz]
      exact gives_pure (by simp [AV.pur, findR])
    · rw [IntWalk.i64_in _ (by simp [maxLen] at hl; omega)]
      exact hB (i + 1) _ ⟨by omega, by simp [hd, hz]⟩ (by omega) (by simp) (by simp) (by simp) (by simp [AV.under, AV.under1])
  · have : i = l.length := by omega
    subst this
    rw [← h2]
    simp [lookT, findR]
    exact gives_pure (by simp [AV.pur])

/- The ops of one. -/
def onesT : List (List UInt8 × T) := [(oNeg, .func eval_ones_1_i []), (oNot, .func eval_ones_2_i []), (oLen, .func eval_ones_3_i [])]

theorem ones_spec : Abs.Fn Try.prog eval_ones_i [] [] (.p (.slice (onesT.map encP))) [] := by
  apply eval_ones_fn
  simp [eval_ones]
  exact gives_pure (by simp [AV.pur, onesT, encP])

theorem One_spec (op : List UInt8) (v : Va) (r : Va) (h : mkE op 0 [v] = some (.ok r)) (hop : op ≠ oAt ∧ op ≠ oTup) : Abs.Fn Try.prog eval_One_i [] [.p (.str op), .p (encV v)] (.tup [.p (encV r), .p (.bool true)]) [] := by
  apply eval_One_fn
  obtain ⟨k, i, b, s, t⟩ := v
  simp [eval_One]
  refine aCall_p rfl ones_spec ?_
  simp
  refine aCallW_of rfl rfl (find1_spec onesT op) ?_
  simp only [mkE, hop.1, hop.2, if_false] at h
  split at h
  · rename_i ho
    subst ho
    simp at h
    simp [onesT, lookT, findR]
    have h1 : Abs.Fn Try.prog eval_ones_1_i [] [.p (encV (.mk k i b s t))] (.p (encV r)) [] := by
      apply eval_ones_1_fn
      simp [eval_ones_1]
      refine aCall_p rfl (Int_spec _) ?_
      simp [intV]
      exact gives_pure (by simp [AV.pur, ← h, intV])
    obtain ⟨a1, a2, a3, a4, a5, hab⟩ := encV_agg r
    rw [hab] at h1 ⊢
    refine aCall_p rfl (by simpa using h1) ?_
    simp
    exact gives_pure (by simp [AV.pur])
  split at h
  · rename_i ho
    subst ho
    simp at h
    simp [onesT, lookT, findR]
    have h1 : Abs.Fn Try.prog eval_ones_2_i [] [.p (encV (.mk k i b s t))] (.p (encV r)) [] := by
      apply eval_ones_2_fn
      simp [eval_ones_2]
      refine aCall_p rfl (Bool_spec _) ?_
      simp [boolV]
      exact gives_pure (by simp [AV.pur, ← h, boolV])
    obtain ⟨a1, a2, a3, a4, a5, hab⟩ := encV_agg r
    rw [hab] at h1 ⊢
    refine aCall_p rfl (by simpa using h1) ?_
    simp
    exact gives_pure (by simp [AV.pur])
  split at h
  · rename_i ho
    subst ho
    simp at h
    simp [onesT, lookT, findR]
    have h1 : Abs.Fn Try.prog eval_ones_3_i [] [.p (encV (.mk k i b s t))] (.p (encV r)) [] := by
      apply eval_ones_3_fn
      simp [eval_ones_3]
      intro hl
      refine aCall_p rfl (Int_spec _) ?_
      simp [intV]
      exact gives_pure (by simp [AV.pur, ← h, intV])
    obtain ⟨a1, a2, a3, a4, a5, hab⟩ := encV_agg r
    rw [hab] at h1 ⊢
    refine aCall_p rfl (by simpa using h1) ?_
    simp
    exact gives_pure (by simp [AV.pur])
  · simp at h

/- The ops of two. -/
def numT (f : Nat) : T := .func eval_number_1_i [.imm [.func f []] 0]
def divT (f : Nat) : T := .func eval_divided_1_i [.imm [.func f []] 0]
def twosT : List (List UInt8 × T) := [(oAdd, numT eval_twos_1_i), (oSub, numT eval_twos_2_i), (oMul, numT eval_twos_3_i), (oDiv, divT eval_twos_4_i), (oRem, divT eval_twos_5_i), (oEq, .func eval_twos_6_i []), (oLt, .func eval_twos_7_i []), (oCat, .func eval_cat_i [])]

theorem number_spec (f : Nat) : Abs.Fn Try.prog eval_number_i [] [.p (.func f [])] (.p (numT f)) [] := by
  apply eval_number_fn
  simp [eval_number]
  exact gives_pure (by simp [AV.pur, numT])
theorem divided_spec (f : Nat) : Abs.Fn Try.prog eval_divided_i [] [.p (.func f [])] (.p (divT f)) [] := by
  apply eval_divided_fn
  simp [eval_divided]
  exact gives_pure (by simp [AV.pur, divT])

theorem twos_spec : Abs.Fn Try.prog eval_twos_i [] [] (.p (.slice (twosT.map encP))) [] := by
  apply eval_twos_fn
  simp [eval_twos]
  refine aCall_p rfl (number_spec _) ?_
  simp [numT]
  refine aCall_p rfl (number_spec _) ?_
  simp [numT]
  refine aCall_p rfl (number_spec _) ?_
  simp [numT]
  refine aCall_p rfl (divided_spec _) ?_
  simp [divT]
  refine aCall_p rfl (divided_spec _) ?_
  simp [numT, divT]
  exact gives_pure (by simp [AV.pur, twosT, encP, numT, divT])

/-- What an op of two answers. -/
def twoR (r : R Va) : AV := .tup [.p (encV (r.get zeroV)), .p (.int .i64 r.num)]

theorem twoR_gives {r : R Va} {vs : List AV} {H : List Ob} (h : toTs vs = some [encV (r.get zeroV), .int .i64 r.num]) : Gives 0 (.tup vs) H (twoR r) [] := gives_pure (pur_tup h)

theorem num1_spec (f : Nat) (g : Int → Int → Int) (hf : ∀ x y, Abs.Fn Try.prog f [] [.p (.int .i64 x), .p (.int .i64 y)] (.p (.int .i64 (g x y))) []) (k i : Int) (b : Bool) (s : List UInt8) (t : List Va) (k' i' : Int) (b' : Bool) (s' : List UInt8) (t' : List Va) :
    Abs.Fn Try.prog eval_number_1_i [] [.p (encV (.mk k i b s t)), .p (encV (.mk k' i' b' s' t')), .p (.imm [.func f []] 0)] (twoR (.ok (intV (g i i')))) [] := by
  apply eval_number_1_fn
  simp [eval_number_1]
  refine aCall_p rfl (by simpa using hf i i') ?_
  simp
  refine aCall_p rfl (Int_spec _) ?_
  simp [intV]
  exact twoR_gives (by simp [R.get, R.num, intV])

theorem div1_spec (f : Nat) (g : Int → Int → Int) (hf : ∀ x y, y ≠ 0 → Abs.Fn Try.prog f [] [.p (.int .i64 x), .p (.int .i64 y)] (.p (.int .i64 (g x y))) []) (k i : Int) (b : Bool) (s : List UInt8) (t : List Va) (k' i' : Int) (b' : Bool) (s' : List UInt8) (t' : List Va) :
    Abs.Fn Try.prog eval_divided_1_i [] [.p (encV (.mk k i b s t)), .p (encV (.mk k' i' b' s' t')), .p (.imm [.func f []] 0)] (twoR (if i' = 0 then .er 8 else .ok (intV (g i i')))) [] := by
  apply eval_divided_1_fn
  simp [eval_divided_1]
  refine ⟨fun hz => ?_, fun hz => ?_⟩
  · rw [if_pos hz]
    exact twoR_gives (by simp [R.get, R.num, zeroV])
  · rw [if_neg hz]
    refine aCall_p rfl (by simpa using hf i i' hz) ?_
    simp
    refine aCall_p rfl (Int_spec _) ?_
    simp [intV]
    exact twoR_gives (by simp [R.get, R.num, intV])

theorem eq2_spec (a b : Va) : Abs.Fn Try.prog eval_twos_6_i [] [.p (encV a), .p (encV b)] (twoR (.ok (boolV (decide (cmpV a b = 0))))) [] := by
  apply eval_twos_6_fn
  have := Same_spec a b
  obtain ⟨a1, a2, a3, a4, a5, hab⟩ := encV_agg a
  obtain ⟨b1, b2, b3, b4, b5, hbb⟩ := encV_agg b
  rw [hab, hbb] at this ⊢
  simp [eval_twos_6]
  refine aCall_p rfl this ?_
  simp
  refine aCall_p rfl (Bool_spec _) ?_
  simp [boolV]
  exact twoR_gives (by simp [R.get, R.num, boolV])

theorem lt2_spec (a b : Va) : Abs.Fn Try.prog eval_twos_7_i [] [.p (encV a), .p (encV b)] (twoR (.ok (boolV (decide (cmpV a b < 0))))) [] := by
  apply eval_twos_7_fn
  have := Compare_spec a b
  obtain ⟨a1, a2, a3, a4, a5, hab⟩ := encV_agg a
  obtain ⟨b1, b2, b3, b4, b5, hbb⟩ := encV_agg b
  rw [hab, hbb] at this ⊢
  simp [eval_twos_7]
  refine aCall_p rfl this ?_
  simp
  refine aCall_p rfl (Bool_spec _) ?_
  simp [boolV]
  exact twoR_gives (by simp [R.get, R.num, boolV])

theorem cat_spec (k i : Int) (b : Bool) (s : List UInt8) (t : List Va) (k' i' : Int) (b' : Bool) (s' : List UInt8) (t' : List Va) (h1 : s.length ≤ 1000000000) (h2 : s'.length ≤ 1000000000) :
    Abs.Fn Try.prog eval_cat_i [] [.p (encV (.mk k i b s t)), .p (encV (.mk k' i' b' s' t'))] (twoR (if 255 < s.length + s'.length then .er 4 else .ok (strV (s ++ s')))) [] := by
  apply eval_cat_fn
  simp [eval_cat]
  intro _ _
  rw [IntWalk.i64_in _ (by omega)]
  refine ⟨fun hz => ?_, fun hz => ?_⟩
  · rw [if_pos (by omega)]
    exact twoR_gives (by simp [R.get, R.num, zeroV])
  · rw [if_neg (by omega)]
    refine ⟨by simp [maxLen]; omega, ?_⟩
    refine aCall_p rfl (Str_spec _) ?_
    simp [strV]
    exact twoR_gives (by simp [R.get, R.num, strV])

def bothR (r : R Va) : AV := .tup [.p (encV (r.get zeroV)), .p (.int .i64 r.num), .p (.bool true)]

theorem both_of {op : List UInt8} {v v' : Va} {r : R Va} {f : Nat} {caps : List T} (hl : lookT op twosT = some (.func f caps)) (hf : Abs.Fn Try.prog f [] (.p (encV v) :: .p (encV v') :: caps.map .p) (twoR r) []) :
    Abs.Fn Try.prog eval_Both_i [] [.p (.str op), .p (encV v), .p (encV v')] (bothR r) [] := by
  apply eval_Both_fn
  obtain ⟨a1, a2, a3, a4, a5, hab⟩ := encV_agg v
  obtain ⟨b1, b2, b3, b4, b5, hbb⟩ := encV_agg v'
  obtain ⟨c1, c2, c3, c4, c5, hcb⟩ := encV_agg (r.get zeroV)
  rw [hab, hbb] at hf ⊢
  simp [eval_Both]
  refine aCall_p rfl twos_spec ?_
  simp
  refine aCallW_of rfl rfl (find2_spec twosT op) ?_
  simp [hl, findR]
  refine aCallW_of rfl rfl (by simpa using hf) ?_
  simp [twoR, hcb]
  exact gives_pure (by simp [AV.pur, bothR, hcb])

theorem Both_spec (op : List UInt8) (v v' : Va) (r : R Va) (h : mkE op 0 [v, v'] = some r) (hop : op ≠ oAt ∧ op ≠ oTup) (hw : Wv 1000000000 v) (hw' : Wv 1000000000 v') : Abs.Fn Try.prog eval_Both_i [] [.p (.str op), .p (encV v), .p (encV v')] (bothR r) [] := by
  obtain ⟨k, i, b, s, t⟩ := v
  obtain ⟨k', i', b', s', t'⟩ := v'
  simp only [mkE, hop.1, hop.2, if_false] at h
  split at h
  · rename_i ho; subst ho; simp at h; subst h
    refine both_of (f := eval_number_1_i) (caps := [.imm [.func eval_twos_1_i []] 0]) (by simp [lookT, twosT, numT]) (num1_spec _ (fun x y => w64 (x + y)) (fun x y => ?_) _ _ _ _ _ _ _ _ _ _)
    apply eval_twos_1_fn
    simp [eval_twos_1]
    exact gives_p rfl
  split at h
  · rename_i ho; subst ho; simp at h; subst h
    refine both_of (f := eval_number_1_i) (caps := [.imm [.func eval_twos_2_i []] 0]) (by simp [lookT, twosT, numT]) (num1_spec _ (fun x y => w64 (x - y)) (fun x y => ?_) _ _ _ _ _ _ _ _ _ _)
    apply eval_twos_2_fn
    simp [eval_twos_2]
    exact gives_p rfl
  split at h
  · rename_i ho; subst ho; simp at h; subst h
    refine both_of (f := eval_number_1_i) (caps := [.imm [.func eval_twos_3_i []] 0]) (by simp [lookT, twosT, numT]) (num1_spec _ (fun x y => w64 (x * y)) (fun x y => ?_) _ _ _ _ _ _ _ _ _ _)
    apply eval_twos_3_fn
    simp [eval_twos_3]
    exact gives_p rfl
  split at h
  · rename_i ho; subst ho; simp at h; subst h
    refine both_of (f := eval_divided_1_i) (caps := [.imm [.func eval_twos_4_i []] 0]) (by simp [lookT, twosT, numT, divT]) (div1_spec _ (fun x y => w64 (x.tdiv y)) (fun x y hy => ?_) _ _ _ _ _ _ _ _ _ _)
    apply eval_twos_4_fn
    simp [eval_twos_4]
    exact ⟨hy, gives_p rfl⟩
  split at h
  · rename_i ho; subst ho; simp at h; subst h
    refine both_of (f := eval_divided_1_i) (caps := [.imm [.func eval_twos_5_i []] 0]) (by simp [lookT, twosT, numT, divT]) (div1_spec _ (fun x y => x.tmod y) (fun x y hy => ?_) _ _ _ _ _ _ _ _ _ _)
    apply eval_twos_5_fn
    simp [eval_twos_5]
    exact ⟨hy, gives_p rfl⟩
  split at h
  · rename_i ho; subst ho; simp at h; subst h
    exact both_of (f := eval_twos_6_i) (caps := []) (by simp [lookT, twosT]) (eq2_spec _ _)
  split at h
  · rename_i ho; subst ho; simp at h; subst h
    exact both_of (f := eval_twos_7_i) (caps := []) (by simp [lookT, twosT]) (lt2_spec _ _)
  split at h
  · rename_i ho; subst ho; simp at h; subst h
    cases hw; cases hw'
    exact both_of (f := eval_cat_i) (caps := []) (by simp [lookT, twosT]) (cat_spec _ _ _ _ _ _ _ _ _ _ (by assumption) (by assumption))
  · simp at h

end Go.Proofs.Ytondmcnmdooonaa
