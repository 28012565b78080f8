/- What the functions of the package val, and the document's, answer of values, over trees. -/
import Derived.Test.YtcdkdmjedkhpiaaDoorZSpCmp
import Derived.Test.YtcdkdmjedkhpiaaDoorZSpRefT
set_option linter.unusedSimpArgs false
set_option linter.unusedVariables false
namespace Go.Proofs.YtcdkdmjedkhpiaaDoor
open Go Go.Abs

theorem Int_spec (n : Int) : Abs.Fn Tryd.prog val_Int_i [] [.p (.int .i64 n)] (.p (encV (intV n))) [] := by
  apply val_Int_fn
  simp [val_Int]
  exact gives_pure (by simp [AV.pur, intV])
theorem spare_spec (v : Va) : Abs.Fn Tryd.prog val_spare_i [] [.p (encV v)] (.p (.bool (spareV v))) [] := by
  apply val_spare_fn
  obtain ⟨k, i, b, s, t⟩ := v
  simp [val_spare]
  exact gives_p (by simp [spareV])

theorem checkv_spec : ∀ (v : Va) (d : Int) (_ : 0 ≤ d) (_ : d ≤ 100), Abs.Fn Tryd.prog val_check_i [] [.p (encV v), .p (.int .i64 d)] (.p (.int .i64 (checkV v d))) []
  | .mk k i b s t, d, h0, h1 => by
    apply val_check_fn
    have hsp := spare_spec (.mk k i b s t)
    simp only [encV_mk] at hsp
    simp [val_check]
    refine ⟨fun h => gives_p (by simp only [checkV]; grind), fun hk1 hk2 => aCall_p rfl hsp ?_⟩
    simp
    refine ⟨fun h => gives_p (by simp only [checkV]; grind), fun hs _ => ⟨fun h => gives_p (by simp only [checkV]; grind), fun hl => ⟨fun h => gives_p (by simp only [checkV]; grind), fun h4 _ => ?_⟩⟩⟩
    subst h4
    refine aCall_p rfl (row_spec _ _) ?_
    simp
    have he : checkV (.mk 4 i b s t) d = if rowE t.length d ≠ 0 then rowE t.length d else firstE (fun v => checkV v (d + 1)) t := by
      simp only [checkV, checkVs_eq]
      grind
    refine loop_by (σ := Nat × Int) (n := 1) (fun q => [.p (.int .i64 q.2), .p (.int .i64 q.1)]) (fun q => [.box [.p (.int .i64 4), .p (.int .i64 i), .p (.bool b), .p (.str s), .p (.slice (t.map encV))]])
      (fun q => q.1 ≤ t.length ∧ (q.2 ≠ 0 → checkV (.mk 4 i b s t) d = q.2) ∧ (q.2 = 0 → rowE t.length d = 0 ∧ firstE (fun v => checkV v (d + 1)) (t.drop q.1) = checkV (.mk 4 i b s t) d)) (fun q => t.length - q.1) [] (0, rowE t.length d) (fun _ => rfl) ⟨rfl, rfl⟩
      ⟨by simp, fun h => by rw [he]; simp [h], fun h => ⟨h, by have h : rowE t.length d = 0 := h; rw [he]; simp [h]⟩⟩ (fun q B hq hB => ?_)
    obtain ⟨j, e⟩ := q
    obtain ⟨g1, g2, g3⟩ := hq
    simp only at g1 g2 g3
    simp [val_check_L1]
    intro _
    refine ⟨fun hlt hez => ?_, fun hx => gives_p ?_⟩
    · subst hez
      obtain ⟨g4, g5⟩ := g3 rfl
      obtain ⟨a, b', c, d', f, hab⟩ := encV_agg t[j]
      have hm : t[j] ∈ t := by simp
      have hd4 : d ≤ 4 := by unfold rowE at g4; grind
      have ih := checkv_spec t[j] (d + 1) (by omega) (by omega)
      have hdr := firstE_drop (fun v => checkV v (d + 1)) t j hlt
      rw [g5] at hdr
      rw [hab] at ih
      simp [hlt, hab]
      rw [IntWalk.i64_in _ (by omega)]
      refine aCall_p rfl ih ?_
      simp
      rw [IntWalk.i64_in _ (by unfold rowE at g4; grind)]
      exact hB (j + 1, checkV t[j] (d + 1)) _ ⟨by simp; omega, fun hz => by rw [hdr]; simp at hz; simp [hz], fun hz => by simp at hz; exact ⟨g4, by rw [hdr]; simp [hz]⟩⟩ (by simp; omega) (by simp) (by simp [Ob.below, AV.under1]) (by simp) (by simp [AV.under, AV.under1])
    · by_cases hez : e = 0
      · subst hez
        obtain ⟨g4, g5⟩ := g3 rfl
        have : j = t.length := by
          rcases Nat.lt_or_ge j t.length with h | h
          · exact absurd rfl (hx h)
          · omega
        subst this
        rw [← g5]
        simp [firstE]
      · rw [g2 hez]
termination_by v => SizeOf.sizeOf v
decreasing_by
  have := List.sizeOf_lt_of_mem hm
  simp
  omega

theorem Checkv_spec (v : Va) : Abs.Fn Tryd.prog val_Check_i [] [.p (encV v)] (.p (.int .i64 (checkV v 0))) [] := by
  apply val_Check_fn
  have := checkv_spec v 0 (by omega) (by omega)
  obtain ⟨k, i, b, s, t⟩ := v
  simp [val_Check]
  exact aCall_p rfl (by simpa using this) (gives_p rfl)

theorem kind_spec {v : Va} (h : Wv 1000000000 v) : Abs.Fn Tryd.prog val_kind_i [] [.p (encV v)] (.p (encT (kindV v))) [] := by
  induction h with
  | mk k i b s t hs hl ho ih =>
    apply val_kind_fn
    simp [val_kind]
    intro _
    refine loop_by (σ := Nat) (n := 4) (fun j => [.p (.int .i64 j)]) (fun j => [.box [.p (.int .i64 k), .p (.int .i64 i), .p (.bool b), .p (.str s), .p (.slice (t.map encV))], .box [.p (.int .i64 0), .full []], .box [.p (.int .i64 k), .own 3 ((t.map fun v => encT (kindV v)).take j)], .row j 2])
      (fun j => j ≤ t.length) (fun j => t.length - j) [.cell 2 1 2] 0 (fun _ => rfl) ⟨rfl, rfl⟩ (by simp) (fun j B hj hB => ?_)
    simp [val_kind_L1]
    refine ⟨fun hlt => ?_, fun hge => ?_⟩
    · obtain ⟨a, b', c, d', f, hab⟩ := encV_agg t[j]
      obtain ⟨a2, b2, hab2⟩ := encT_agg (kindV t[j])
      have hi := ih t[j] (by simp)
      rw [hab, hab2] at hi
      simp [hlt, hab]
      refine aCallT_of rfl hi rfl ?_
      simp
      refine ⟨by omega, ⟨fun e he => by have := List.mem_of_mem_take he; simp at this; obtain ⟨x, _, rfl⟩ := this; simp, by simp, by simp; omega⟩, ?_⟩
      simp (disch := omega) only [IntWalk.i64_in]
      have : (t.map fun v => encT (kindV v)).take j ++ [encT (kindV t[j])] = (t.map fun v => encT (kindV v)).take (j + 1) := take_snoc_map hlt
      rw [hab2] at this
      rw [this]
      exact hB (j + 1) _ (by omega) (by omega) (by simp) (by simp [Ob.below, AV.under1]) (by simp) (by simp [AV.under, AV.under1])
    · rw [List.take_of_length_le (by simpa using hge)]
      exact gives_pure (by simp [AV.pur, Function.comp_def])

theorem typeOfR_spec {v : Va} (h : Wv 1000000000 v) : Abs.Fn Tryd.prog runnelref6_TypeOf_i [] [.p (encV v)] (.p (encT (kindV v))) [] := by
  induction h with
  | mk k i b s t hs hl ho ih =>
    apply runnelref6_TypeOf_fn
    simp [runnelref6_TypeOf]
    refine loop_by (σ := Nat) (n := 4) (fun j => [.p (.int .i64 j)]) (fun j => [.box [.p (.int .i64 k), .p (.int .i64 i), .p (.bool b), .p (.str s), .p (.slice (t.map encV))], .box [.p (.int .i64 0), .full []], .box [.p (.int .i64 k), .own 3 ((t.map fun v => encT (kindV v)).take j)], .row j 2])
      (fun j => j ≤ t.length) (fun j => t.length - j) [.cell 2 1 2] 0 (fun _ => rfl) ⟨rfl, rfl⟩ (by simp) (fun j B hj hB => ?_)
    simp [runnelref6_TypeOf_L1]
    intro _
    refine ⟨fun hlt => ?_, fun hge => ?_⟩
    · obtain ⟨a, b', c, d', f, hab⟩ := encV_agg t[j]
      obtain ⟨a2, b2, hab2⟩ := encT_agg (kindV t[j])
      have hi := ih t[j] (by simp)
      rw [hab, hab2] at hi
      simp [hlt, hab]
      refine aCallT_of rfl hi rfl ?_
      simp
      refine ⟨by omega, ⟨fun e he => by have := List.mem_of_mem_take he; simp at this; obtain ⟨x, _, rfl⟩ := this; simp, by simp, by simp; omega⟩, ?_⟩
      simp (disch := omega) only [IntWalk.i64_in]
      have : (t.map fun v => encT (kindV v)).take j ++ [encT (kindV t[j])] = (t.map fun v => encT (kindV v)).take (j + 1) := take_snoc_map hlt
      rw [hab2] at this
      rw [this]
      exact hB (j + 1) _ (by omega) (by omega) (by simp) (by simp [Ob.below, AV.under1]) (by simp) (by simp [AV.under, AV.under1])
    · rw [List.take_of_length_le (by simpa using hge)]
      exact gives_pure (by simp [AV.pur, Function.comp_def])

theorem of2_spec {v : Va} (h : Wv 1000000000 v) : Abs.Fn Tryd.prog runnellaw2_Of_i [] [.p (encV v)] (.p (encV v)) [] := by
  induction h with
  | mk k i b s t hs hl ho ih =>
    apply runnellaw2_Of_fn
    simp [runnellaw2_Of]
    refine loop_by (σ := Nat) (n := 4) (fun j => [.p (.int .i64 j)]) (fun j => [.box [.p (.int .i64 k), .p (.int .i64 i), .p (.bool b), .p (.str s), .p (.slice (t.map encV))], .box [.p (.int .i64 0), .p (.int .i64 0), .p (.bool false), .p (.str []), .full []],
      .box [.p (.int .i64 k), .p (.int .i64 i), .p (.bool b), .p (.str s), .own 3 ((t.map encV).take j)], .row j 5])
      (fun j => j ≤ t.length) (fun j => t.length - j) [.cell 2 4 5] 0 (fun _ => rfl) ⟨rfl, rfl⟩ (by simp) (fun j B hj hB => ?_)
    simp [runnellaw2_Of_L1]
    intro _
    refine ⟨fun hlt => ?_, fun hge => ?_⟩
    · obtain ⟨a, b', c, d', f, hab⟩ := encV_agg t[j]
      have hi := ih t[j] (by simp)
      rw [hab] at hi
      simp [hlt, hab]
      refine aCallT_of rfl hi rfl ?_
      simp
      refine ⟨by omega, ⟨encV_sizeT t j, by simp, by simp; omega⟩, ?_⟩
      simp (disch := omega) only [IntWalk.i64_in]
      have := take_snoc (l := t.map encV) (i := j) (by simpa using hlt)
      simp only [List.getElem_map, hab] at this
      rw [this]
      exact hB (j + 1) _ (by omega) (by omega) (by simp) (by simp [Ob.below, AV.under1]) (by simp) (by simp [AV.under, AV.under1])
    · rw [List.take_of_length_le (by simpa using hge)]
      exact gives_pure (by simp [AV.pur, Function.comp_def])

theorem checkValue_spec : ∀ (v : Va) (d : Int) (_ : 0 ≤ d) (_ : d ≤ 100), Abs.Fn Tryd.prog runnelref6_checkValue_i [] [.p (encV v), .p (.int .i64 d)] (.p (.int .i64 (checkV v d))) []
  | .mk k i b s t, d, h0, h1 => by
    apply runnelref6_checkValue_fn
    simp [runnelref6_checkValue]
    refine ⟨fun h => gives_p (by simp only [checkV]; grind), fun hk1 hk2 => ⟨fun h => gives_p (by simp only [checkV, spareV]; simp; grind), fun hs1 hs2 hs3 hs4 _ => ?_⟩⟩
    have hsp : spareV (.mk k i b s t) = false := by
      simp only [spareV]
      simp
      exact ⟨⟨⟨hs1, hs2⟩, hs3⟩, hs4⟩
    refine ⟨fun h => gives_p ?_, fun hl => ⟨fun h => gives_p ?_, fun h4 _ => ⟨fun hz => gives_p ?_, fun hz _ => ⟨fun h8 => gives_p ?_, fun h8 => ⟨fun hd => gives_p ?_, fun hd => ?_⟩⟩⟩⟩⟩
    · simp only [checkV, hsp]; grind
    · simp only [checkV, hsp]; grind
    · simp only [checkV, hsp, rowE]; simp [hz]; grind
    · have : (t.length : Int) ≠ 0 := by simpa using hz
      simp only [checkV, hsp, rowE]; grind
    · have : (t.length : Int) ≠ 0 := by simpa using hz
      simp only [checkV, hsp, rowE]; grind
    · subst h4
      have hnz : (t.length : Int) ≠ 0 := by simpa using hz
      have he : checkV (.mk 4 i b s t) d = firstE (fun v => checkV v (d + 1)) t := by
        simp only [checkV, checkVs_eq, hsp, rowE]
        grind
      refine loop_by (σ := Nat) (n := 1) (fun j => [.p (.int .i64 j)]) (fun j => [.box [.p (.int .i64 4), .p (.int .i64 i), .p (.bool b), .p (.str s), .p (.slice (t.map encV))]]) (fun j => j ≤ t.length ∧ firstE (fun v => checkV v (d + 1)) (t.drop j) = firstE (fun v => checkV v (d + 1)) t) (fun j => t.length - j) [] 0 (fun _ => rfl) ⟨rfl, rfl⟩ (by simp) (fun j B hj hB => ?_)
      obtain ⟨hj1, hj2⟩ := hj
      simp [runnelref6_checkValue_L1]
      intro _
      refine ⟨fun hlt => ?_, fun hge => ?_⟩
      · obtain ⟨a, b', c, d', f, hab⟩ := encV_agg t[j]
        have hm : t[j] ∈ t := by simp
        have ih := checkValue_spec t[j] (d + 1) (by omega) (by omega)
        have hdr := firstE_drop (fun v => checkV v (d + 1)) t j hlt
        rw [hj2] at hdr
        rw [hab] at ih
        simp [hlt, hab]
        rw [IntWalk.i64_in _ (by omega)]
        refine aCall_p rfl ih ?_
        simp
        refine ⟨fun hz => gives_p (by simp [he, hdr, hz]), fun hz => ?_⟩
        rw [IntWalk.i64_in _ (by omega)]
        exact hB (j + 1) _ ⟨by omega, by simp [hdr, hz]⟩ (by omega) (by simp) (by simp [Ob.below, AV.under1]) (by simp) (by simp [AV.under, AV.under1])
      · have : j = t.length := by omega
        subst this
        exact gives_p (by rw [he, ← hj2]; simp [firstE])
termination_by v => SizeOf.sizeOf v
decreasing_by
  have := List.sizeOf_lt_of_mem hm
  simp
  omega

theorem CheckValue_spec (v : Va) : Abs.Fn Tryd.prog runnelref6_CheckValue_i [] [.p (encV v)] (.p (.int .i64 (checkV v 0))) [] := by
  apply runnelref6_CheckValue_fn
  have := checkValue_spec v 0 (by omega) (by omega)
  obtain ⟨k, i, b, s, t⟩ := v
  simp [runnelref6_CheckValue]
  exact aCall_p rfl (by simpa using this) (gives_p rfl)

/- How much there is. -/
mutual
def budV : Va → Int → Int → Int
  | .mk _ _ _ s t, d, l => if l ≤ 0 ∨ d ≤ 0 ∨ 20 < t.length ∨ 300 < s.length then 0 else budVs t (d - 1) (l - 1)
def budVs : List Va → Int → Int → Int
  | [], _, l => l
  | v :: r, d, l => if l ≤ 0 then l else budVs r d (budV v d l)
end

mutual
theorem budV_le : ∀ (v : Va) (d l : Int), 0 ≤ l → 0 ≤ budV v d l ∧ budV v d l ≤ l
  | .mk k i b s t, d, l, h => by
    simp only [budV]
    split
    · omega
    · have := budVs_le t (d - 1) (l - 1) (by omega)
      omega
theorem budVs_le : ∀ (r : List Va) (d l : Int), 0 ≤ l → 0 ≤ budVs r d l ∧ budVs r d l ≤ l
  | [], d, l, h => by simp [budVs]; omega
  | v :: r, d, l, h => by
    simp only [budVs]
    split
    · omega
    · have h1 := budV_le v d l h
      have h2 := budVs_le r d (budV v d l) h1.1
      omega
end

theorem budVs_pos : ∀ (r : List Va) (d l : Int), 0 < budVs r d l → 0 < l
  | [], d, l, h => by simpa [budVs] using h
  | v :: r, d, l, h => by
    simp only [budVs] at h
    split at h
    · omega
    · omega

mutual
theorem budV_small : ∀ (v : Va) (d l : Int), 0 < budV v d l → Wv 300 v
  | .mk k i b s t, d, l, h => by
    simp only [budV] at h
    split at h
    · omega
    · refine .mk k i b s t (by omega) (by omega) (budVs_small t (d - 1) (l - 1) h)
theorem budVs_small : ∀ (r : List Va) (d l : Int), 0 < budVs r d l → ∀ v ∈ r, Wv 300 v
  | [], d, l, h => by simp
  | v :: r, d, l, h => by
    simp only [budVs] at h
    split at h
    · omega
    · intro x hx
      simp only [List.mem_cons] at hx
      rcases hx with rfl | hx
      · exact budV_small x d l (budVs_pos r d _ h)
      · exact budVs_small r d _ h x hx
end

theorem budVs_zero : ∀ (r : List Va) (d l : Int), l ≤ 0 → budVs r d l = l
  | [], d, l, h => by simp [budVs]
  | v :: r, d, l, h => by simp [budVs, h]

theorem budV_spec : ∀ (v : Va) (d l : Int) (_ : 0 ≤ d) (_ : d ≤ 100) (_ : 0 ≤ l) (_ : l ≤ 1000), Abs.Fn Tryd.prog runnellaw2_budget_i [] [.p (encV v), .p (.int .i64 d), .p (.int .i64 l)] (.p (.int .i64 (budV v d l))) []
  | .mk k i b s t, d, l, hd0, hd1, hl0, hl1 => by
    apply runnellaw2_budget_fn
    simp [runnellaw2_budget]
    refine ⟨fun h => gives_p (by simp only [budV]; grind), fun h1 h2 h3 h4 => ?_⟩
    rw [IntWalk.i64_in _ (by omega)]
    have he : budV (.mk k i b s t) d l = budVs t (d - 1) (l - 1) := by
      simp only [budV]
      rw [if_neg (by omega)]
    rw [he]
    refine loop_by (σ := Nat × Int) (n := 1) (fun q => [.p (.int .i64 q.2), .p (.int .i64 q.1)]) (fun q => [.box [.p (.int .i64 k), .p (.int .i64 i), .p (.bool b), .p (.str s), .p (.slice (t.map encV))]])
      (fun q => q.1 ≤ t.length ∧ 0 ≤ q.2 ∧ q.2 ≤ 1000 ∧ budVs (t.drop q.1) (d - 1) q.2 = budVs t (d - 1) (l - 1)) (fun q => t.length - q.1) [] (0, l - 1) (fun _ => rfl) ⟨rfl, rfl⟩ ⟨by simp, by simp; omega, by simp; omega, by simp⟩ (fun q B hq hB => ?_)
    obtain ⟨j, m⟩ := q
    obtain ⟨g1, g2, g3, g4⟩ := hq
    simp only at g1 g2 g3 g4
    simp [runnellaw2_budget_L1]
    intro _
    refine ⟨fun hlt hm0 => ?_, fun hx => gives_p ?_⟩
    · obtain ⟨a, b', c, d', f, hab⟩ := encV_agg t[j]
      have hm : t[j] ∈ t := by simp
      have ih := budV_spec t[j] (d - 1) m (by omega) (by omega) g2 g3
      have hle := budV_le t[j] (d - 1) m g2
      rw [List.drop_eq_getElem_cons hlt, budVs, if_neg (by omega)] at g4
      rw [hab] at ih
      simp [hlt, hab]
      rw [IntWalk.i64_in _ (by omega)]
      refine aCall_p rfl ih ?_
      simp
      rw [IntWalk.i64_in _ (by omega)]
      exact hB (j + 1, budV t[j] (d - 1) m) _ ⟨by simp; omega, by simp; omega, by simp; omega, g4⟩ (by simp; omega) (by simp) (by simp [Ob.below, AV.under1]) (by simp) (by simp [AV.under, AV.under1])
    · rcases Nat.lt_or_ge j t.length with hlt | hge
      · have := hx hlt
        rw [← g4, budVs_zero _ _ _ (by omega)]
      · rw [← g4, List.drop_of_length_le hge]
        simp [budVs]
termination_by v => SizeOf.sizeOf v
decreasing_by
  have := List.sizeOf_lt_of_mem hm
  simp
  omega

def fewV (v : Va) : Bool := decide (0 < budV v 12 300)

theorem fewV_small {v : Va} (h : fewV v = true) : Wv 300 v := budV_small v 12 300 (by simpa [fewV] using h)

theorem few2_spec (v : Va) : Abs.Fn Tryd.prog runnellaw2_Few_i [] [.p (encV v)] (.p (.bool (fewV v))) [] := by
  apply runnellaw2_Few_fn
  have := budV_spec v 12 300 (by omega) (by omega) (by omega) (by omega)
  obtain ⟨k, i, b, s, t⟩ := v
  simp [runnellaw2_Few]
  refine aCall_p rfl (by simpa using this) ?_
  simp
  exact gives_p (by simp [fewV])

def goodV (v : Va) : Bool := fewV v && decide (checkV v 0 = 0)

end Go.Proofs.YtcdkdmjedkhpiaaDoor
