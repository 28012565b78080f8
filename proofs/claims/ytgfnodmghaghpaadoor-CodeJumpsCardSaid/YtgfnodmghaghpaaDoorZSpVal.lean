/- What the functions of the package val, and the document's, answer of values, over trees. -/
import Derived.Test.YtgfnodmghaghpaaDoorZSpCmp
import Derived.Test.YtgfnodmghaghpaaDoorZSpRefT
set_option linter.unusedSimpArgs false
set_option linter.unusedVariables false
namespace Go.Proofs.YtgfnodmghaghpaaDoor
open Go Go.Abs

theorem Int_spec (n : Int) : Abs.Fn Tryd.prog val_Int_i [] [.p (.int .i64 n)] (.p (encV (intV n))) [] := by
  apply val_Int_fn
  simp [val_Int]
  exact gives_pure (by simp [AV.pur, intV])
theorem Bool_spec (b : Bool) : Abs.Fn Tryd.prog val_Bool_i [] [.p (.bool b)] (.p (encV (boolV b))) [] := by
  apply val_Bool_fn
  simp [val_Bool]
  exact gives_pure (by simp [AV.pur, boolV])
theorem Str_spec (s : List UInt8) : Abs.Fn Tryd.prog val_Str_i [] [.p (.str s)] (.p (encV (strV s))) [] := by
  apply val_Str_fn
  simp [val_Str]
  exact gives_pure (by simp [AV.pur, strV])

theorem cloneV_spec (l : List Va) (h : l.length ≤ 1000000000) : Abs.Fn Tryd.prog slices_Clone_val_Value_val_Value_i [] [.p (.slice (l.map encV))] (.p (.slice (l.map encV))) [] := by
  refine fn_nil_cases (fun he => ?_) ?_
  · apply slices_Clone_val_Value_val_Value_fn
    simp [slices_Clone_val_Value_val_Value]
    exact gives_pure (by simp [AV.pur, he])
  · apply slices_Clone_val_Value_val_Value_fn
    simp [slices_Clone_val_Value_val_Value]
    exact ⟨⟨by simp, encV_size l, by simp; omega⟩, gives_pure (by simp [AV.pur])⟩

theorem clipV_spec (l : List Va) : Abs.Fn Tryd.prog slices_Clip_val_Value_val_Value_i [] [.p (.slice (l.map encV))] (.p (.slice (l.map encV))) [] := by
  apply slices_Clip_val_Value_val_Value_fn
  simp [slices_Clip_val_Value_val_Value]
  intro _
  simp [aSliceSl, atSize]
  exact gives_pure (by simp [AV.pur, List.take_of_length_le])

theorem Tup_spec (l : List Va) (h : l.length ≤ 1000000000) : Abs.Fn Tryd.prog val_Tup_i [] [.p (.slice (l.map encV))] (.p (encV (tupV l))) [] := by
  apply val_Tup_fn
  simp [val_Tup]
  refine aCall_p rfl (cloneV_spec l h) ?_
  simp
  refine aCall_p rfl (clipV_spec l) ?_
  simp
  exact gives_pure (by simp [AV.pur, tupV])

theorem spare_spec (v : Va) : Abs.Fn Tryd.prog val_spare_i [] [.p (encV v)] (.p (.bool (spareV v))) [] := by
  apply val_spare_fn
  obtain ⟨k, i, b, s, t⟩ := v
  simp [val_spare]
  exact gives_p (by simp [spareV])

theorem checkv_spec : ∀ (v : Va) (d : Int) (_ : 0 ≤ d) (_ : d ≤ 100), Abs.Fn Tryd.prog val_check_i [] [.p (encV v), .p (.int .i64 d)] (.p (.int .i64 (checkV v d))) []
  | .mk k i b s t, d, h0, h1 => by
    apply val_check_fn
    have hsp := spare_spec (.mk k i b s t)
    simp only [encV_mk] at hsp
    simp [val_check]
    refine ⟨fun h => gives_p (by simp only [checkV]; grind), fun hk1 hk2 => aCall_p rfl hsp ?_⟩
    simp
    refine ⟨fun h => gives_p (by simp only [checkV]; grind), fun hs _ => ⟨fun h => gives_p (by simp only [checkV]; grind), fun hl => ⟨fun h => gives_p (by simp only [checkV]; grind), fun h4 _ => ?_⟩⟩⟩
    subst h4
    refine aCall_p rfl (row_spec _ _) ?_
    simp
    have he : checkV (.mk 4 i b s t) d = if rowE t.length d ≠ 0 then rowE t.length d else firstE (fun v => checkV v (d + 1)) t := by
      simp only [checkV, checkVs_eq]
      grind
    refine loop_by (σ := Nat × Int) (n := 1) (fun q => [.p (.int .i64 q.2), .p (.int .i64 q.1)]) (fun q => [.box [.p (.int .i64 4), .p (.int .i64 i), .p (.bool b), .p (.str s), .p (.slice (t.map encV))]])
      (fun q => q.1 ≤ t.length ∧ (q.2 ≠ 0 → checkV (.mk 4 i b s t) d = q.2) ∧ (q.2 = 0 → rowE t.length d = 0 ∧ firstE (fun v => checkV v (d + 1)) (t.drop q.1) = checkV (.mk 4 i b s t) d)) (fun q => t.length - q.1) [] (0, rowE t.length d) (fun _ => rfl) ⟨rfl, rfl⟩
      ⟨by simp, fun h => by rw [he]; simp [h], fun h => ⟨h, by have h : rowE t.length d = 0 := h; rw [he]; simp [h]⟩⟩ (fun q B hq hB => ?_)
    obtain ⟨j, e⟩ := q
    obtain ⟨g1, g2, g3⟩ := hq
    simp only at g1 g2 g3
    simp [val_check_L1]
    intro _
    refine ⟨fun hlt hez => ?_, fun hx => gives_p ?_⟩
    · subst hez
      obtain ⟨g4, g5⟩ := g3 rfl
      obtain ⟨a, b', c, d', f, hab⟩ := encV_agg t[j]
      have hm : t[j] ∈ t := by simp
      have hd4 : d ≤ 4 := by unfold rowE at g4; grind
      have ih := checkv_spec t[j] (d + 1) (by omega) (by omega)
      have hdr := firstE_drop (fun v => checkV v (d + 1)) t j hlt
      rw [g5] at hdr
      rw [hab] at ih
      simp [hlt, hab]
      rw [IntWalk.i64_in _ (by omega)]
      refine aCall_p rfl ih ?_
      simp
      rw [IntWalk.i64_in _ (by unfold rowE at g4; grind)]
      exact hB (j + 1, checkV t[j] (d + 1)) _ ⟨by simp; omega, fun hz => by rw [hdr]; simp at hz; simp [hz], fun hz => by simp at hz; exact ⟨g4, by rw [hdr]; simp [hz]⟩⟩ (by simp; omega) (by simp) (by simp [Ob.below, AV.under1]) (by simp) (by simp [AV.under, AV.under1])
    · by_cases hez : e = 0
      · subst hez
        obtain ⟨g4, g5⟩ := g3 rfl
        have : j = t.length := by
          rcases Nat.lt_or_ge j t.length with h | h
          · exact absurd rfl (hx h)
          · omega
        subst this
        rw [← g5]
        simp [firstE]
      · rw [g2 hez]
termination_by v => SizeOf.sizeOf v
decreasing_by
  have := List.sizeOf_lt_of_mem hm
  simp
  omega

theorem Checkv_spec (v : Va) : Abs.Fn Tryd.prog val_Check_i [] [.p (encV v)] (.p (.int .i64 (checkV v 0))) [] := by
  apply val_Check_fn
  have := checkv_spec v 0 (by omega) (by omega)
  obtain ⟨k, i, b, s, t⟩ := v
  simp [val_Check]
  exact aCall_p rfl (by simpa using this) (gives_p rfl)

/- How much there is. -/
mutual
def budV : Va → Int → Int → Int
  | .mk _ _ _ s t, d, l => if l ≤ 0 ∨ d ≤ 0 ∨ 20 < t.length ∨ 300 < s.length then 0 else budVs t (d - 1) (l - 1)
def budVs : List Va → Int → Int → Int
  | [], _, l => l
  | v :: r, d, l => if l ≤ 0 then l else budVs r d (budV v d l)
end

mutual
theorem budV_le : ∀ (v : Va) (d l : Int), 0 ≤ l → 0 ≤ budV v d l ∧ budV v d l ≤ l
  | .mk k i b s t, d, l, h => by
    simp only [budV]
    split
    · omega
    · have := budVs_le t (d - 1) (l - 1) (by omega)
      omega
theorem budVs_le : ∀ (r : List Va) (d l : Int), 0 ≤ l → 0 ≤ budVs r d l ∧ budVs r d l ≤ l
  | [], d, l, h => by simp [budVs]; omega
  | v :: r, d, l, h => by
    simp only [budVs]
    split
    · omega
    · have h1 := budV_le v d l h
      have h2 := budVs_le r d (budV v d l) h1.1
      omega
end

theorem budVs_pos : ∀ (r : List Va) (d l : Int), 0 < budVs r d l → 0 < l
  | [], d, l, h => by simpa [budVs] using h
  | v :: r, d, l, h => by
    simp only [budVs] at h
    split at h
    · omega
    · omega

mutual
theorem budV_small : ∀ (v : Va) (d l : Int), 0 < budV v d l → Wv 300 v
  | .mk k i b s t, d, l, h => by
    simp only [budV] at h
    split at h
    · omega
    · refine .mk k i b s t (by omega) (by omega) (budVs_small t (d - 1) (l - 1) h)
theorem budVs_small : ∀ (r : List Va) (d l : Int), 0 < budVs r d l → ∀ v ∈ r, Wv 300 v
  | [], d, l, h => by simp
  | v :: r, d, l, h => by
    simp only [budVs] at h
    split at h
    · omega
    · intro x hx
      simp only [List.mem_cons] at hx
      rcases hx with rfl | hx
      · exact budV_small x d l (budVs_pos r d _ h)
      · exact budVs_small r d _ h x hx
end

theorem budVs_zero : ∀ (r : List Va) (d l : Int), l ≤ 0 → budVs r d l = l
  | [], d, l, h => by simp [budVs]
  | v :: r, d, l, h => by simp [budVs, h]

def fewV (v : Va) : Bool := decide (0 < budV v 12 300)

theorem fewV_small {v : Va} (h : fewV v = true) : Wv 300 v := budV_small v 12 300 (by simpa [fewV] using h)

def goodV (v : Va) : Bool := fewV v && decide (checkV v 0 = 0)

end Go.Proofs.YtgfnodmghaghpaaDoor
