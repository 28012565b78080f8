/- What val.Compare, val.Same and the document's answer, over trees. -/
import Derived.Test.YtgfnodmghaghpaaDoorZSpVal
set_option linter.unusedSimpArgs false
set_option linter.unusedVariables false
namespace Go.Proofs.YtgfnodmghaghpaaDoor
open Go Go.Abs

theorem isNaN_spec (a : Int) : Abs.Fn Tryd.prog cmp_isNaN_int_i [] [.p (.int .i64 a)] (.p (.bool false)) [] := by
  apply cmp_isNaN_int_fn
  simp [cmp_isNaN_int]
  exact gives_p rfl
theorem isNaN64_spec (a : Int) : Abs.Fn Tryd.prog cmp_isNaN_int64_i [] [.p (.int .i64 a)] (.p (.bool false)) [] := by
  apply cmp_isNaN_int64_fn
  simp [cmp_isNaN_int64]
  exact gives_p rfl
theorem cmpInt_spec (a b : Int) : Abs.Fn Tryd.prog cmp_Compare_int_i [] [.p (.int .i64 a), .p (.int .i64 b)] (.p (.int .i64 (cmpI a b))) [] := by
  apply cmp_Compare_int_fn
  simp [cmp_Compare_int]
  refine aCall_p rfl (isNaN_spec a) ?_
  simp
  refine aCall_p rfl (isNaN_spec b) ?_
  simp
  exact ⟨fun h => gives_p (by simp [cmpI, h]), fun h => ⟨fun h' => gives_p (by simp [cmpI, h']; omega), fun h' => gives_p (by simp only [cmpI]; rw [if_neg (by omega), if_neg (by omega)])⟩⟩
theorem cmpInt64_spec (a b : Int) : Abs.Fn Tryd.prog cmp_Compare_int64_i [] [.p (.int .i64 a), .p (.int .i64 b)] (.p (.int .i64 (cmpI a b))) [] := by
  apply cmp_Compare_int64_fn
  simp [cmp_Compare_int64]
  refine aCall_p rfl (isNaN64_spec a) ?_
  simp
  refine aCall_p rfl (isNaN64_spec b) ?_
  simp
  exact ⟨fun h => gives_p (by simp [cmpI, h]), fun h => ⟨fun h' => gives_p (by simp [cmpI, h']; omega), fun h' => gives_p (by simp only [cmpI]; rw [if_neg (by omega), if_neg (by omega)])⟩⟩
theorem truth_spec (b : Bool) : Abs.Fn Tryd.prog val_truth_i [] [.p (.bool b)] (.p (.int .i64 (truthI b))) [] := by
  apply val_truth_fn
  simp [val_truth]
  exact ⟨fun h => gives_p (by simp [h, truthI]), fun h => gives_p (by simp [h, truthI])⟩

theorem orI_drop (l : List Int) (i : Nat) (h : i < l.length) : orI (l.drop i) = if l[i] ≠ 0 then l[i] else orI (l.drop (i + 1)) := by
  rw [List.drop_eq_getElem_cons h]
  simp [orI]

theorem or_spec (l : List Int) : Abs.Fn Tryd.prog cmp_Or_int_i [] [.p (.slice (l.map (.int .i64)))] (.p (.int .i64 (orI l))) [] := by
  apply cmp_Or_int_fn
  simp [cmp_Or_int]
  intro hl
  refine loop_by (σ := Nat) (n := 0) (fun i => [.p (.int .i64 i)]) (fun _ => []) (fun i => i ≤ l.length ∧ orI (l.drop i) = orI l) (fun i => l.length - i) [] 0 (fun _ => rfl) ⟨rfl, rfl⟩ (by simp) (fun i B hi hB => ?_)
  obtain ⟨h1, h2⟩ := hi
  simp [cmp_Or_int_L1]
  refine ⟨fun hlt => ?_, fun hge => ?_⟩
  · have hd := orI_drop l i hlt
    rw [h2] at hd
    simp [hlt]
    refine ⟨fun hz => gives_p (by simp [hd, hz]), fun hz => ?_⟩
    rw [IntWalk.i64_in _ (by simp [maxLen] at hl; omega)]
    exact hB (i + 1) _ ⟨by omega, by simp [hd, hz]⟩ (by omega) (by simp) (by simp) (by simp) (by simp [AV.under, AV.under1])
  · have : i = l.length := by omega
    subst this
    exact gives_p (by simp [← h2, orI])

theorem cmpVs_drop (l q : List Va) (i : Nat) (h : i < l.length) (h' : i < q.length) : cmpVs (l.drop i) (q.drop i) = if cmpV l[i] q[i] ≠ 0 then cmpV l[i] q[i] else cmpVs (l.drop (i + 1)) (q.drop (i + 1)) := by
  rw [List.drop_eq_getElem_cons h, List.drop_eq_getElem_cons h']
  simp [cmpVs]

theorem compareFunc_spec (l q : List Va) (hf : ∀ a ∈ l, ∀ b ∈ q, Abs.Fn Tryd.prog val_Compare_i [] [.p (encV a), .p (encV b)] (.p (.int .i64 (cmpV a b))) []) :
    Abs.Fn Tryd.prog slices_CompareFunc_val_Value_val_Value_val_Value_val_Value_i [] [.p (.slice (l.map encV)), .p (.slice (q.map encV)), .p (.func val_Compare_i [])] (.p (.int .i64 (cmpVs l q))) [] := by
  apply slices_CompareFunc_val_Value_val_Value_val_Value_val_Value_fn
  simp [slices_CompareFunc_val_Value_val_Value_val_Value_val_Value]
  intro hl
  refine loop_by (σ := Nat) (n := 0) (fun i => [.p (.int .i64 i)]) (fun _ => []) (fun i => i ≤ l.length ∧ i ≤ q.length ∧ cmpVs (l.drop i) (q.drop i) = cmpVs l q) (fun i => l.length - i) [] 0 (fun _ => rfl) ⟨rfl, rfl⟩ (by simp) (fun i B hi hB => ?_)
  obtain ⟨h1, h3, h2⟩ := hi
  simp [slices_CompareFunc_val_Value_val_Value_val_Value_val_Value_L1]
  refine ⟨fun hlt => ?_, fun hge hll hql => ?_⟩
  · obtain ⟨a, b, c, d, e, hab⟩ := encV_agg l[i]
    simp [hlt, hab]
    intro hql
    refine ⟨fun hq => ?_, fun hq => ?_⟩
    · have : i = q.length := by omega
      refine gives_p ?_
      rw [← h2, this, List.drop_of_length_le (Nat.le_refl _), List.drop_eq_getElem_cons (by omega)]
      simp [cmpVs]
    · obtain ⟨a', b', c', d', e', hab'⟩ := encV_agg q[i]
      have hfm := hf l[i] (by simp) q[i] (by simp)
      have hd := cmpVs_drop l q i hlt hq
      rw [h2] at hd
      rw [hab, hab'] at hfm
      simp [hq, hab']
      refine aCall_p rfl hfm ?_
      simp
      refine ⟨fun hz => gives_p (by simp [hd, hz]), fun hz => ?_⟩
      rw [IntWalk.i64_in _ (by simp [maxLen] at hl; omega)]
      exact hB (i + 1) _ ⟨by omega, by omega, by simp [hd, hz]⟩ (by omega) (by simp) (by simp) (by simp) (by simp [AV.under, AV.under1])
  · have hi : i = l.length := by omega
    subst hi
    rw [List.drop_of_length_le (Nat.le_refl _)] at h2
    refine ⟨fun h => gives_p ?_, fun h => gives_p ?_⟩
    · rw [← h2, List.drop_eq_getElem_cons (by omega)]
      simp [cmpVs]
    · rw [← h2, List.drop_of_length_le (by omega)]
      simp [cmpVs]

theorem Compare_spec : ∀ a b : Va, Abs.Fn Tryd.prog val_Compare_i [] [.p (encV a), .p (encV b)] (.p (.int .i64 (cmpV a b))) []
  | .mk k i b s t, .mk k' i' b' s' t' => by
    apply val_Compare_fn
    simp [val_Compare]
    refine aCallT_of rfl (cmpInt_spec k k') rfl ?_
    simp
    refine aCallT_of rfl (cmpInt64_spec i i') rfl ?_
    simp
    refine aCallT_of rfl (truth_spec b) rfl ?_
    simp
    refine aCallT_of rfl (truth_spec b') rfl ?_
    simp
    refine aCallT_of rfl (cmpInt_spec _ _) rfl ?_
    simp
    refine aCallT_of rfl (cmpStr_spec s s') rfl ?_
    simp
    refine aCallT_of rfl (by simpa using or_spec [cmpI k k', cmpI i i', cmpI (truthI b) (truthI b'), cmpS s s']) rfl ?_
    simp
    refine ⟨fun h => gives_p (by simp only [cmpV]; rw [if_pos (by simpa using h)]), fun h => ?_⟩
    have hr : Abs.Fn Tryd.prog val_rows_val_Value_i [] [.p (.slice (t.map encV)), .p (.slice (t'.map encV)), .p (.func val_Compare_i [])] (.p (.int .i64 (cmpVs t t'))) [] := by
      apply val_rows_val_Value_fn
      simp [val_rows_val_Value]
      refine aCall_p rfl (compareFunc_spec t t' ?_) (gives_p rfl)
      intro x hx y hy
      exact Compare_spec x y
    refine aCall_p rfl hr (gives_p (by simp only [cmpV]; rw [if_neg (by simpa using h)]))
termination_by a => SizeOf.sizeOf a
decreasing_by
  have := List.sizeOf_lt_of_mem hx
  simp
  omega

theorem Same_spec (a b : Va) : Abs.Fn Tryd.prog val_Same_i [] [.p (encV a), .p (encV b)] (.p (.bool (decide (cmpV a b = 0)))) [] := by
  apply val_Same_fn
  have := Compare_spec a b
  obtain ⟨a1, a2, a3, a4, a5, hab⟩ := encV_agg a
  obtain ⟨b1, b2, b3, b4, b5, hbb⟩ := encV_agg b
  rw [hab, hbb] at this ⊢
  simp [val_Same]
  refine aCall_p rfl this ?_
  simp
  exact gives_p rfl

end Go.Proofs.YtgfnodmghaghpaaDoor
