/- What val.Compare, val.Same and the document's answer, over trees. -/
import Derived.Test.YtmnmiiifilfcmaaDoorZSpVal
set_option linter.unusedSimpArgs false
set_option linter.unusedVariables false
namespace Go.Proofs.YtmnmiiifilfcmaaDoor
open Go Go.Abs

theorem isNaN_spec (a : Int) : Abs.Fn Tryd.prog cmp_isNaN_int_i [] [.p (.int .i64 a)] (.p (.bool false)) [] := by
  apply cmp_isNaN_int_fn
  simp [cmp_isNaN_int]
  exact gives_p rfl
theorem isNaN64_spec (a : Int) : Abs.Fn Tryd.prog cmp_isNaN_int64_i [] [.p (.int .i64 a)] (.p (.bool false)) [] := by
  apply cmp_isNaN_int64_fn
  simp [cmp_isNaN_int64]
  exact gives_p rfl
theorem cmpInt_spec (a b : Int) : Abs.Fn Tryd.prog cmp_Compare_int_i [] [.p (.int .i64 a), .p (.int .i64 b)] (.p (.int .i64 (cmpI a b))) [] := by
  apply cmp_Compare_int_fn
  simp [cmp_Compare_int]
  refine aCall_p rfl (isNaN_spec a) ?_
  simp
  refine aCall_p rfl (isNaN_spec b) ?_
  simp
  exact ⟨fun h => gives_p (by simp [cmpI, h]), fun h => ⟨fun h' => gives_p (by simp [cmpI, h']; omega), fun h' => gives_p (by simp only [cmpI]; rw [if_neg (by omega), if_neg (by omega)])⟩⟩
theorem cmpInt64_spec (a b : Int) : Abs.Fn Tryd.prog cmp_Compare_int64_i [] [.p (.int .i64 a), .p (.int .i64 b)] (.p (.int .i64 (cmpI a b))) [] := by
  apply cmp_Compare_int64_fn
  simp [cmp_Compare_int64]
  refine aCall_p rfl (isNaN64_spec a) ?_
  simp
  refine aCall_p rfl (isNaN64_spec b) ?_
  simp
  exact ⟨fun h => gives_p (by simp [cmpI, h]), fun h => ⟨fun h' => gives_p (by simp [cmpI, h']; omega), fun h' => gives_p (by simp only [cmpI]; rw [if_neg (by omega), if_neg (by omega)])⟩⟩
theorem truth_spec (b : Bool) : Abs.Fn Tryd.prog val_truth_i [] [.p (.bool b)] (.p (.int .i64 (truthI b))) [] := by
  apply val_truth_fn
  simp [val_truth]
  exact ⟨fun h => gives_p (by simp [h, truthI]), fun h => gives_p (by simp [h, truthI])⟩

theorem orI_drop (l : List Int) (i : Nat) (h : i < l.length) : orI (l.drop i) = if l[i] ≠ 0 then l[i] else orI (l.drop (i + 1)) := by
  rw [List.drop_eq_getElem_cons h]
  simp [orI]

theorem or_spec (l : List Int) : Abs.Fn Tryd.prog cmp_Or_int_i [] [.p (.slice (l.map (.int .i64)))] (.p (.int .i64 (orI l))) [] := by
  apply cmp_Or_int_fn
  simp [cmp_Or_int]
  intro hl
  refine loop_by (σ := Nat) (n := 0) (fun i => [.p (.int .i64 i)]) (fun _ => []) (fun i => i ≤ l.length ∧ orI (l.drop i) = orI l) (fun i => l.length - i) [] 0 (fun _ => rfl) ⟨rfl, rfl⟩ (by simp) (fun i B hi hB => ?_)
  obtain ⟨h1, h2⟩ := hi
  simp [cmp_Or_int_L1]
  refine ⟨fun hlt => ?_, fun hge => ?_⟩
  · have hd := orI_drop l i hlt
    rw [h2] at hd
    simp [hlt]
    refine ⟨fun hz => gives_p (by simp [hd, hz]), fun hz => ?_⟩
    rw [IntWalk.i64_in _ (by simp [maxLen] at hl; omega)]
    exact hB (i + 1) _ ⟨by omega, by simp [hd, hz]⟩ (by omega) (by simp) (by simp) (by simp) (by simp [AV.under, AV.under1])
  · have : i = l.length := by omega
    subst this
    exact gives_p (by simp [← h2, orI])

theorem cmpVs_drop (l q : List Va) (i : Nat) (h : i < l.length) (h' : i < q.length) : cmpVs (l.drop i) (q.drop i) = if cmpV l[i] q[i] ≠ 0 then cmpV l[i] q[i] else cmpVs (l.drop (i + 1)) (q.drop (i + 1)) := by
  rw [List.drop_eq_getElem_cons h, List.drop_eq_getElem_cons h']
  simp [cmpVs]

theorem compareFunc_spec (l q : List Va) (hf : ∀ a ∈ l, ∀ b ∈ q, Abs.Fn Tryd.prog val_Compare_i [] [.p (encV a), .p (encV b)] (.p (.int .i64 (cmpV a b))) []) :
    Abs.Fn Tryd.prog slices_CompareFunc_val_Value_val_Value_val_Value_val_Value_i [] [.p (.slice (l.map encV)), .p (.slice (q.map encV)), .p (.func val_Compare_i [])] (.p (.int .i64 (cmpVs l q))) [] := by
  apply slices_CompareFunc_val_Value_val_Value_val_Value_val_Value_fn
  simp [slices_CompareFunc_val_Value_val_Value_val_Value_val_Value]
  intro hl
  refine loop_by (σ := Nat) (n := 0) (fun i => [.p (.int .i64 i)]) (fun _ => []) (fun i => i ≤ l.length ∧ i ≤ q.length ∧ cmpVs (l.drop i) (q.drop i) = cmpVs l q) (fun i => l.length - i) [] 0 (fun _ => rfl) ⟨rfl, rfl⟩ (by simp) (fun i B hi hB => ?_)
  obtain ⟨h1, h3, h2⟩ := hi
  simp [slices_CompareFunc_val_Value_val_Value_val_Value_val_Value_L1]
  refine ⟨fun hlt => ?_, fun hge hll hql => ?_⟩
  · obtain ⟨a, b, c, d, e, hab⟩ := encV_agg l[i]
    simp [hlt, hab]
    intro hql
    refine ⟨fun hq => ?_, fun hq => ?_⟩
    · have : i = q.length := by omega
      refine gives_p ?_
      rw [← h2, this, List.drop_of_length_le (Nat.le_refl _), List.drop_eq_getElem_cons (by omega)]
      simp [cmpVs]
    · obtain ⟨a', b', c', d', e', hab'⟩ := encV_agg q[i]
      have hfm := hf l[i] (by simp) q[i] (by simp)
      have hd := cmpVs_drop l q i hlt hq
      rw [h2] at hd
      rw [hab, hab'] at hfm
      simp [hq, hab']
      refine aCall_p rfl hfm ?_
      simp
      refine ⟨fun hz => gives_p (by simp [hd, hz]), fun hz => ?_⟩
      rw [IntWalk.i64_in _ (by simp [maxLen] at hl; omega)]
      exact hB (i + 1) _ ⟨by omega, by omega, by simp [hd, hz]⟩ (by omega) (by simp) (by simp) (by simp) (by simp [AV.under, AV.under1])
  · have hi : i = l.length := by omega
    subst hi
    rw [List.drop_of_length_le (Nat.le_refl _)] at h2
    refine ⟨fun h => gives_p ?_, fun h => gives_p ?_⟩
    · rw [← h2, List.drop_eq_getElem_cons (by omega)]
      simp [cmpVs]
    · rw [← h2, List.drop_of_length_le (by omega)]
      simp [cmpVs]

theorem Compare_spec : ∀ a b : Va, Abs.Fn Tryd.prog val_Compare_i [] [.p (encV a), .p (encV b)] (.p (.int .i64 (cmpV a b))) []
  | .mk k i b s t, .mk k' i' b' s' t' => by
    apply val_Compare_fn
    simp [val_Compare]
    refine aCallT_of rfl (cmpInt_spec k k') rfl ?_
    simp
    refine aCallT_of rfl (cmpInt64_spec i i') rfl ?_
    simp
    refine aCallT_of rfl (truth_spec b) rfl ?_
    simp
    refine aCallT_of rfl (truth_spec b') rfl ?_
    simp
    refine aCallT_of rfl (cmpInt_spec _ _) rfl ?_
    simp
    refine aCallT_of rfl (cmpStr_spec s s') rfl ?_
    simp
    refine aCallT_of rfl (by simpa using or_spec [cmpI k k', cmpI i i', cmpI (truthI b) (truthI b'), cmpS s s']) rfl ?_
    simp
    refine ⟨fun h => gives_p (by simp only [cmpV]; rw [if_pos (by simpa using h)]), fun h => ?_⟩
    have hr : Abs.Fn Tryd.prog val_rows_val_Value_i [] [.p (.slice (t.map encV)), .p (.slice (t'.map encV)), .p (.func val_Compare_i [])] (.p (.int .i64 (cmpVs t t'))) [] := by
      apply val_rows_val_Value_fn
      simp [val_rows_val_Value]
      refine aCall_p rfl (compareFunc_spec t t' ?_) (gives_p rfl)
      intro x hx y hy
      exact Compare_spec x y
    refine aCall_p rfl hr (gives_p (by simp only [cmpV]; rw [if_neg (by simpa using h)]))
termination_by a => SizeOf.sizeOf a
decreasing_by
  have := List.sizeOf_lt_of_mem hx
  simp
  omega

theorem Same_spec (a b : Va) : Abs.Fn Tryd.prog val_Same_i [] [.p (encV a), .p (encV b)] (.p (.bool (decide (cmpV a b = 0)))) [] := by
  apply val_Same_fn
  have := Compare_spec a b
  obtain ⟨a1, a2, a3, a4, a5, hab⟩ := encV_agg a
  obtain ⟨b1, b2, b3, b4, b5, hbb⟩ := encV_agg b
  rw [hab, hbb] at this ⊢
  simp [val_Same]
  refine aCall_p rfl this ?_
  simp
  exact gives_p rfl

theorem less_spec (b : Bool) : Abs.Fn Tryd.prog runnelref6_less_i [] [.p (.bool b)] (.p (.int .i64 (if b then -1 else 1))) [] := by
  apply runnelref6_less_fn
  simp [runnelref6_less]
  exact ⟨fun h => gives_p (by simp [h]), fun h => gives_p (by simp [h])⟩

theorem CompareR_spec : ∀ a b : Va, Abs.Fn Tryd.prog runnelref6_Compare_i [] [.p (encV a), .p (encV b)] (.p (.int .i64 (cmpV a b))) []
  | .mk k i b s t, .mk k' i' b' s' t' => by
    apply runnelref6_Compare_fn
    simp [runnelref6_Compare]
    refine ⟨fun h => aCall_p rfl (less_spec _) (gives_p ?_), fun hk => ⟨fun h => aCall_p rfl (less_spec _) (gives_p ?_), fun hi => ⟨fun h => aCall_p rfl (less_spec _) (gives_p ?_), fun hb => ⟨fun h => aCall_p rfl (less_spec _) (gives_p ?_), fun hs => ?_⟩⟩⟩⟩
    · simp only [cmpV, orI, cmpI]; grind
    · subst hk; simp only [cmpV, orI, cmpI]; grind
    · subst hk hi; cases b <;> cases b' <;> simp [cmpV, orI, cmpI, truthI] at h ⊢
    · subst hk hi hb; simp only [cmpV, orI, cmpI, cmpS]; grind
    · subst hk hi hb hs
      have he : cmpV (.mk k i b s t) (.mk k i b s t') = cmpVs t t' := by
        simp only [cmpV]
        rw [if_neg (by simp [orI_zero, cmpI_zero, cmpS_zero])]
      rw [he]
      refine loop_by (σ := Nat) (n := 2) (fun j => [.p (.int .i64 j)]) (fun j => [.box [.p (.int .i64 k), .p (.int .i64 i), .p (.bool b), .p (.str s), .p (.slice (t.map encV))], .box [.p (.int .i64 k), .p (.int .i64 i), .p (.bool b), .p (.str s), .p (.slice (t'.map encV))]])
        (fun j => j ≤ t.length ∧ j ≤ t'.length ∧ cmpVs (t.drop j) (t'.drop j) = cmpVs t t') (fun j => t.length - j) [] 0 (fun _ => rfl) ⟨rfl, rfl⟩ (by simp) (fun j B hj hB => ?_)
      obtain ⟨h1, h3, h2⟩ := hj
      simp [runnelref6_Compare_L1]
      intro hmx
      refine ⟨fun hlt hlt' => ?_, fun hx hll hll' => ?_⟩
      · obtain ⟨a, b1, c, d, e, hab⟩ := encV_agg t[j]
        obtain ⟨a', b1', c', d', e', hab'⟩ := encV_agg t'[j]
        have hm : t[j] ∈ t := by simp
        have ih := CompareR_spec t[j] t'[j]
        have hd := cmpVs_drop t t' j hlt hlt'
        rw [h2] at hd
        rw [hab, hab'] at ih
        simp [hlt, hab, hlt', hab']
        refine aCallT_of rfl ih rfl ?_
        simp
        refine ⟨fun hz => gives_p (by simp [hd, hz]), fun hz => ?_⟩
        rw [IntWalk.i64_in _ (by simp [maxLen] at hmx; omega)]
        exact hB (j + 1) _ ⟨by omega, by omega, by simp [hd, hz]⟩ (by omega) (by simp) (by simp [Ob.below, AV.under1]) (by simp) (by simp [AV.under, AV.under1])
      · have hj : j = t.length ∨ j = t'.length := by
          rcases Nat.lt_or_ge j t.length with h | h
          · have := hx h; omega
          · omega
        refine ⟨fun hne _ _ => aCall_p rfl (less_spec _) (gives_p ?_), fun he => gives_p ?_⟩
        · rw [← h2]
          rcases Nat.lt_or_ge t.length t'.length with hlt | hge
          · have : j = t.length := by omega
            subst this
            rw [List.drop_of_length_le (Nat.le_refl _), List.drop_eq_getElem_cons hlt]
            simp [cmpVs, hlt]
          · have : j = t'.length := by omega
            subst this
            rw [List.drop_of_length_le (Nat.le_refl _), List.drop_eq_getElem_cons (by omega)]
            have : ¬ (t.length < t'.length) := by omega
            simp [cmpVs, this]
        · rw [← h2, List.drop_of_length_le (by omega), List.drop_of_length_le (by omega)]
          simp [cmpVs]
termination_by a => SizeOf.sizeOf a
decreasing_by
  have := List.sizeOf_lt_of_mem hm
  simp
  omega

theorem IsR_spec (v : Va) (t : Ty) (h : Wv 1000000000 v) : Abs.Fn Tryd.prog runnelref6_Is_i [] [.p (encV v), .p (encT t)] (.p (.bool (isV v t))) [] := by
  apply runnelref6_Is_fn
  have h1 := CheckValue_spec v
  have h2 := typeOfR_spec h
  have h3 := sameType_spec (kindV v) t
  obtain ⟨a1, a2, a3, a4, a5, hab⟩ := encV_agg v
  obtain ⟨b1, b2, hbb⟩ := encT_agg t
  obtain ⟨c1, c2, hcb⟩ := encT_agg (kindV v)
  rw [hab] at h1 h2
  rw [hbb, hcb] at h3
  rw [hcb] at h2
  rw [hab, hbb]
  simp [runnelref6_Is]
  refine aCallT_of rfl h1 rfl ?_
  simp
  refine ⟨fun hz => ?_, fun hz => gives_p (by simp [isV, hz])⟩
  refine aCallT_of rfl h2 rfl ?_
  simp
  refine aCallT_of rfl h3 rfl ?_
  exact gives_p (by simp [isV, hz])

end Go.Proofs.YtmnmiiifilfcmaaDoor
