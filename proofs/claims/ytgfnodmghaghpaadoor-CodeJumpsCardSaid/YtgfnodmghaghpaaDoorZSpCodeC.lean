/- The package code over trees: which programs may be. -/
import Derived.Test.YtgfnodmghaghpaaDoorZPuVer
import Derived.Test.YtgfnodmghaghpaaDoorZSpFieldsW
import Derived.Test.YtgfnodmghaghpaaDoorZSpVal
import Derived.Test.YtgfnodmghaghpaaDoorS1
set_option linter.unusedSimpArgs false
set_option linter.unusedVariables false
namespace Go.Proofs.YtgfnodmghaghpaaDoor
open Go Go.Abs

attribute [local irreducible] Abs.Fn

/-- All ops: their names, what they have. -/
def midF : List (List UInt8) := [oNeg, oNot, oLen, oAdd, oSub, oMul, oDiv, oRem, oEq, oLt, oCat]
def formsL : List (List UInt8 × Int) := [(oPush, 1), (oX, 0), (oAt, 2), (oTup, 2)] ++ (midF.map fun s => (s, 0)) ++ [(oJmp, 2), (oJf, 2), (oEmit', 2), (oRet', 0)]
def encF (p : List UInt8 × Int) : T := .agg [.str p.1, .int .i64 p.2]
theorem encF_eta (p : List UInt8 × Int) : encF p = .agg [.str p.1, .int .i64 p.2] := rfl
def litF : List UInt8 := [110, 101, 103, 32, 110, 111, 116, 32, 108, 101, 110, 32, 97, 100, 100, 32, 115, 117, 98, 32, 109, 117, 108, 32, 100, 105, 118, 32, 114, 101, 109, 32, 101, 113, 32, 108, 116, 32, 99, 97, 116]
theorem fields_lit : Lib.fields litF = midF := by first | rfl | decide
def formOf (op : List UInt8) : Int := if op = oPush then 1 else if cntI op = true then 2 else 0

theorem ops_spec : Abs.Fn Tryd.prog code_ops_i [] [] (.p (.slice (formsL.map encF))) [] := by
  have hF := fieldsW_spec litF (by decide) (by decide) (by rw [fields_lit]; decide) (by rw [fields_lit]; decide)
  rw [fields_lit] at hF
  apply code_ops_fn
  simp [code_ops]
  refine aCallW_of rfl rfl hF ?_
  simp
  intro hml
  have hm : midF.length = 11 := rfl
  have hf : ∀ i, i < 11 → formsL[4 + i]? = (midF[i]?).map (fun s => (s, 0)) := by decide
  have hl : formsL.length = 19 := rfl
  refine loop_by (σ := Nat) (n := 1) (fun i => [.own 0 ((formsL.take (4 + i)).map encF), .p (.int .i64 i)]) (fun i => [.row (4 + i) 2]) (fun i => i ≤ 11) (fun i => 11 - i) [.slot 0 2] 0 (fun _ => rfl) ?_ (by omega) (fun i B hi hB => ?_)
  · refine ⟨fun e he => ?_, rfl, rfl⟩
    simp at he
    rcases he with rfl | rfl | rfl | rfl <;> rfl
  simp [code_ops_L1, hm]
  refine ⟨fun hlt => ?_, fun hge => ?_⟩
  · have hlt : i < 11 := by omega
    have h1 := hf i hlt
    have h2 : i < midF.length := by omega
    rw [List.getElem?_eq_getElem h2, List.getElem?_eq_getElem (by omega), Option.map_some, Option.some.injEq] at h1
    have hs := take_snoc (l := formsL.map encF) (i := 4 + i) (by simp; omega)
    simp only [List.getElem_map, h1, encF_eta] at hs
    simp [h2]
    refine ⟨by omega, by rw [hl]; omega, ⟨fun e he => ?_, by simp, by simp; omega⟩, ?_⟩
    · obtain ⟨x, hx, rfl⟩ := List.mem_map.1 (List.mem_of_mem_take he); rfl
    rw [IntWalk.i64_in _ (by omega), hs, ← List.map_take]
    exact hB (i + 1) _ (by omega) (by omega) (by simp; omega) (by simp [Ob.below, AV.under1]) (by simp) (by simp [AV.under, AV.under1])
  · have : i = 11 := by omega
    subst this
    refine ⟨by simp; omega, ⟨fun e he => ?_, by simp, by simp; omega⟩, gives_pure ?_⟩
    · obtain ⟨x, hx, rfl⟩ := List.mem_map.1 (List.mem_of_mem_take he); rfl
    · simp [AV.pur]
      rfl

/-- Where a name is; -1: nowhere. -/
def placeF (op : List UInt8) : Nat → List (List UInt8 × Int) → Int
  | _, [] => -1
  | k, p :: r => if p.1 = op then (k : Int) else placeF op (k + 1) r

theorem place_spec (l : List (List UInt8 × Int)) (op : List UInt8) : Abs.Fn Tryd.prog code_place_code_form_i [] [.p (.slice (l.map encF)), .p (.str op)] (.p (.int .i64 (placeF op 0 l))) [] := by
  apply code_place_code_form_fn
  simp [code_place_code_form]
  intro hl
  refine loop_by (σ := Nat) (n := 0) (fun i => [.p (.int .i64 i)]) (fun _ => []) (fun i => i ≤ l.length ∧ placeF op i (l.drop i) = placeF op 0 l) (fun i => l.length - i) [] 0 (fun _ => rfl) ⟨rfl, rfl⟩ (by simp) (fun i B hi hB => ?_)
  obtain ⟨h1, h2⟩ := hi
  generalize placeF op 0 l = A at *
  simp [code_place_code_form_L1]
  refine ⟨fun hlt => ?_, fun hge => ?_⟩
  · rw [List.drop_eq_getElem_cons hlt, placeF] at h2
    simp [hlt, encF]
    refine ⟨fun hz => gives_p ?_, fun hz => ?_⟩
    · rw [← h2, if_pos hz]
    · rw [if_neg hz] at h2
      rw [IntWalk.i64_in _ (by simp [maxLen] at hl; omega)]
      exact hB (i + 1) _ ⟨by omega, h2⟩ (by omega) (by simp) (by simp) (by simp) (by simp [AV.under, AV.under1])
  · rw [List.drop_of_length_le hge] at h2
    exact gives_p (by rw [← h2]; rfl)

theorem place_no {op : List UInt8} (h : op ∉ opsAll) : placeF op 0 formsL = -1 := by
  simp only [opsAll, List.mem_cons, List.not_mem_nil, or_false, not_or] at h
  obtain ⟨h1, h2, h3, h4, h5, h6, h7, h8, h9, h10, h11, h12, h13, h14, h15, h16, h17, h18, h19⟩ := h
  simp only [formsL, midF, List.map_cons, List.map_nil, List.cons_append, List.nil_append, placeF]
  rw [if_neg (Ne.symm h1), if_neg (Ne.symm h2), if_neg (Ne.symm h3), if_neg (Ne.symm h4), if_neg (Ne.symm h5), if_neg (Ne.symm h6), if_neg (Ne.symm h7), if_neg (Ne.symm h8), if_neg (Ne.symm h9), if_neg (Ne.symm h10), if_neg (Ne.symm h11), if_neg (Ne.symm h12), if_neg (Ne.symm h13), if_neg (Ne.symm h14), if_neg (Ne.symm h15), if_neg (Ne.symm h16), if_neg (Ne.symm h17), if_neg (Ne.symm h18), if_neg (Ne.symm h19)]

theorem place_in {op : List UInt8} (h : op ∈ opsAll) : ∃ k : Nat, placeF op 0 formsL = k ∧ k < 19 ∧ formsL[k]? = some (op, formOf op) := by
  simp only [opsAll, List.mem_cons, List.not_mem_nil, or_false] at h
  rcases h with rfl | rfl | rfl | rfl | rfl | rfl | rfl | rfl | rfl | rfl | rfl | rfl | rfl | rfl | rfl | rfl | rfl | rfl | rfl
  · exact ⟨0, by decide, by decide, by decide⟩
  · exact ⟨1, by decide, by decide, by decide⟩
  · exact ⟨2, by decide, by decide, by decide⟩
  · exact ⟨3, by decide, by decide, by decide⟩
  · exact ⟨4, by decide, by decide, by decide⟩
  · exact ⟨5, by decide, by decide, by decide⟩
  · exact ⟨6, by decide, by decide, by decide⟩
  · exact ⟨7, by decide, by decide, by decide⟩
  · exact ⟨8, by decide, by decide, by decide⟩
  · exact ⟨9, by decide, by decide, by decide⟩
  · exact ⟨10, by decide, by decide, by decide⟩
  · exact ⟨11, by decide, by decide, by decide⟩
  · exact ⟨12, by decide, by decide, by decide⟩
  · exact ⟨13, by decide, by decide, by decide⟩
  · exact ⟨14, by decide, by decide, by decide⟩
  · exact ⟨15, by decide, by decide, by decide⟩
  · exact ⟨16, by decide, by decide, by decide⟩
  · exact ⟨17, by decide, by decide, by decide⟩
  · exact ⟨18, by decide, by decide, by decide⟩

/-- May an instruction's number be? -/
def rightO (m i : Nat) (op : List UInt8) (n : Int) : Bool :=
  if op = oAt then decide (0 ≤ n) else if op = oTup then decide (1 ≤ n ∧ n ≤ 8) else if op = oEmit' then decide (0 ≤ n ∧ n ≤ 4) else if op = oJmp ∨ op = oJf then decide ((i : Int) < n ∧ n < m) else true
def rightI (m i : Nat) (x : In) : Bool := rightO m i x.op x.n

theorem right_spec (x : In) (i m : Nat) : Abs.Fn Tryd.prog code_Inst_right_i [] [.p (encI x), .p (.int .i64 i), .p (.int .i64 m)] (.p (.bool (rightI m i x))) [] := by
  obtain ⟨op, v, n⟩ := x
  apply code_Inst_right_fn
  simp [code_Inst_right, encI_eta]
  refine ⟨fun h => gives_p ?_, fun h1 => ⟨fun h => gives_p ?_, fun h2 => ⟨fun h => gives_p ?_, fun h3 => ⟨fun h => gives_p ?_, fun h4 h5 => gives_p ?_⟩⟩⟩⟩
  · show _ = T.bool (rightO m i op n)
    rw [rightO, if_pos h]
  · show _ = T.bool (rightO m i op n)
    rw [rightO, if_neg h1, if_pos h]; simp
  · show _ = T.bool (rightO m i op n)
    rw [rightO, if_neg h1, if_neg h2, if_pos h]; simp
  · show _ = T.bool (rightO m i op n)
    rw [rightO, if_neg h1, if_neg h2, if_neg h3, if_pos (show op = oJmp ∨ op = oJf from h)]; simp
  · show _ = T.bool (rightO m i op n)
    rw [rightO, if_neg h1, if_neg h2, if_neg h3, if_neg (show ¬ (op = oJmp ∨ op = oJf) from fun h => by rcases h with h | h; exact h4 h; exact h5 h)]

theorem instE_right {m i : Nat} {x : In} (hm : x.op ∈ opsAll) : instE m i x = if (formOf x.op ≠ 1 ∧ cmpV x.v zeroV ≠ 0) ∨ (formOf x.op ≠ 2 ∧ x.n ≠ 0) then 1 else if formOf x.op = 1 ∧ checkV x.v 0 ≠ 0 then checkV x.v 0 else if rightI m i x = false then 1 else 0 := by
  generalize hop : x.op = op at hm ⊢
  generalize hvv : x.v = v
  generalize hnn : x.n = n
  have hc : cntI op = true → op ≠ oPush := by
    intro h hp
    rw [hp] at h
    exact absurd h (by decide)
  have hf1 : formOf op = 1 ↔ op = oPush := by
    unfold formOf
    split
    · simp_all
    · split <;> simp_all
  have hf2 : formOf op = 2 ↔ cntI op = true := by
    unfold formOf
    split
    · rename_i h
      simp only [h]
      exact ⟨fun h => absurd h (by decide), fun h => absurd h (by decide)⟩
    · split <;> simp_all
  rw [instE, rightI, hop, hvv, hnn]
  simp only [hf1, hf2, ne_eq]
  rw [if_neg (by simpa using hm)]
  by_cases h1 : (cntI op = false ∧ n ≠ 0) ∨ (op ≠ oPush ∧ cmpV v zeroV ≠ 0)
  · rw [if_pos h1, if_pos (show (¬op = oPush ∧ ¬cmpV v zeroV = 0 ∨ ¬cntI op = true ∧ ¬n = 0) from h1.elim (fun h => .inr ⟨by simp [h.1], h.2⟩) .inl)]
  · rw [if_neg h1, if_neg (show ¬ (¬op = oPush ∧ ¬cmpV v zeroV = 0 ∨ ¬cntI op = true ∧ ¬n = 0) from fun h => h1 (h.elim .inr fun h => .inl ⟨by simpa using h.1, h.2⟩))]
    by_cases hp : op = oPush
    · subst hp
      rw [if_pos rfl]
      by_cases hk : checkV v 0 = 0
      · have hr : rightO m i oPush n = true := by rw [rightO, if_neg (by decide), if_neg (by decide), if_neg (by decide), if_neg (by decide)]
        rw [if_neg (show ¬ (oPush = oPush ∧ ¬checkV v 0 = 0) from fun h => h.2 hk), if_neg (show ¬ rightO m i oPush n = false by simp [hr]), hk]
      · rw [if_pos (show oPush = oPush ∧ ¬checkV v 0 = 0 from ⟨rfl, hk⟩)]
    · rw [if_neg hp, if_neg (show ¬ (op = oPush ∧ ¬checkV v 0 = 0) from fun h => hp h.1), rightO]
      by_cases a1 : op = oAt
      · rw [if_pos a1, if_pos a1]
        by_cases h : n < 0
        · rw [if_pos h, if_pos (by simp; omega)]
        · rw [if_neg h, if_neg (by simp; omega)]
      rw [if_neg a1, if_neg a1]
      by_cases a2 : op = oTup
      · rw [if_pos a2, if_pos a2]
        by_cases h : n < 1 ∨ 8 < n
        · rw [if_pos h, if_pos (by simp; omega)]
        · rw [if_neg h, if_neg (by simp; omega)]
      rw [if_neg a2, if_neg a2]
      by_cases a3 : op = oEmit'
      · rw [if_pos a3, if_pos a3]
        by_cases h : n < 0 ∨ 4 < n
        · rw [if_pos h, if_pos (by simp; omega)]
        · rw [if_neg h, if_neg (by simp; omega)]
      rw [if_neg a3, if_neg a3]
      by_cases a4 : op = oJmp ∨ op = oJf
      · rw [if_pos a4, if_pos a4]
        by_cases h : n ≤ i ∨ (m : Int) ≤ n
        · rw [if_pos h, if_pos (by simp; omega)]
        · rw [if_neg h, if_neg (by simp; omega)]
      · rw [if_neg a4, if_neg a4, if_neg (by simp)]

theorem instC_spec (x : In) (i m : Nat) : Abs.Fn Tryd.prog code_Inst_check_i [] [.p (encI x), .p (.int .i64 i), .p (.int .i64 m)] (.p (.int .i64 (instE m i x))) [] := by
  have hp := place_spec formsL x.op
  have hsm := Same_spec x.v zeroV
  have hck := Checkv_spec x.v
  have hrt := right_spec x i m
  simp only [encI_eta, encV_eta] at hsm hck hrt
  apply code_Inst_check_fn
  simp [code_Inst_check, encI_eta]
  refine aCallW_of rfl rfl ops_spec ?_
  simp
  refine aCallW_of rfl rfl hp ?_
  by_cases hm : x.op ∈ opsAll
  · obtain ⟨k, hk, hk19, hkf⟩ := place_in hm
    have hlk : k < formsL.length := hk19
    rw [List.getElem?_eq_getElem hlk, Option.some.injEq] at hkf
    rw [hk]
    simp [hlk, hkf, encF]
    refine ⟨fun h => by omega, ?_⟩
    refine aMerge_intro (!decide (cmpV x.v zeroV = 0)) (fun _ => ?_) ?_
    · refine aCallW_of rfl rfl hsm ?_
      simp
    simp
    rw [instE_right hm]
    refine ⟨fun hz => gives_p ?_, fun g1 g2 => ?_⟩
    · rw [if_pos (by simpa using hz)]
    have n0 : ¬ ((formOf x.op ≠ 1 ∧ cmpV x.v zeroV ≠ 0) ∨ (formOf x.op ≠ 2 ∧ x.n ≠ 0)) := by
      rintro (⟨a, b⟩ | ⟨a, b⟩)
      · exact b (g1 a)
      · exact b (g2 a)
    rw [if_neg n0]
    refine ⟨fun hp1 => ?_, fun hp1 => ?_⟩
    · refine aCallW_of rfl rfl hck ?_
      simp
      refine ⟨fun hz => gives_p (by rw [if_pos ⟨hp1, hz⟩]), fun hz => ?_⟩
      refine aCallW_of rfl rfl hrt ?_
      simp
      rw [if_neg (fun h => h.2 hz)]
      exact ⟨fun hr => gives_p (by rw [if_pos hr]), fun hr => gives_p (by rw [if_neg (by simp [hr])])⟩
    · refine aCallW_of rfl rfl hrt ?_
      simp
      rw [if_neg (fun h => hp1 h.1)]
      exact ⟨fun hr => gives_p (by rw [if_pos hr]), fun hr => gives_p (by rw [if_neg (by simp [hr])])⟩
  · rw [place_no hm]
    simp
    exact gives_p (by rw [instE, if_pos hm])

theorem CheckC_spec (p : List In) (hl : p.length ≤ 1000000) : Abs.Fn Tryd.prog code_Check_i [] [.p (.slice (p.map encI))] (.tup [.p (.int .i64 (checkP p).1), .p (.int .i64 (checkP p).2)]) [] := by
  apply code_Check_fn
  simp [code_Check]
  intro hml
  refine ⟨fun h0 => ?_, fun h0 _ => ⟨fun h1 => ?_, fun h1 _ => ?_⟩⟩
  · subst h0
    exact gives_pure (by simp [AV.pur, checkP])
  · have : checkP p = (0, 10) := by rw [checkP, if_neg (by simpa using h0), if_pos (by omega)]
    rw [this]
    exact gives_pure (by simp [AV.pur])
  have hck : checkP p = ckI p.length 0 p := by rw [checkP, if_neg (by simpa using h0), if_neg (by omega)]
  rw [hck]
  refine loop_by (σ := Nat) (n := 0) (fun i => [.p (.int .i64 i)]) (fun _ => []) (fun i => i ≤ p.length ∧ ckI p.length i (p.drop i) = ckI p.length 0 p) (fun i => p.length - i) [] 0 (fun _ => rfl) ⟨rfl, rfl⟩ (by simp) (fun i B hi hB => ?_)
  obtain ⟨g1, g2⟩ := hi
  generalize hm : p.length = m at *
  generalize ckI m 0 p = R at *
  simp [code_Check_L1, hm]
  refine ⟨fun hlt => ?_, fun hge => ?_⟩
  · have hi : i < p.length := by omega
    rw [List.drop_eq_getElem_cons hi, ckI] at g2
    have hc := instC_spec p[i] i m
    simp only [encI_eta] at hc
    simp [hi, encI_eta]
    refine ⟨by omega, fun _ => ?_⟩
    refine aCallW_of rfl rfl hc ?_
    simp [hi, encI_eta]
    refine ⟨fun hz => ?_, fun hz => ?_⟩
    · rw [if_pos hz] at g2
      subst g2
      exact gives_pure (by simp [AV.pur])
    · rw [if_neg (by simpa using hz)] at g2
      rw [IntWalk.i64_in _ (by omega)]
      exact hB (i + 1) _ ⟨by omega, g2⟩ (by omega) (by simp) (by simp [Ob.below, AV.under1]) (by simp) (by simp [AV.under, AV.under1])
  · rw [List.drop_of_length_le (by omega), ckI] at g2
    subst g2
    exact gives_pure (by simp [AV.pur])

end Go.Proofs.YtgfnodmghaghpaaDoor
