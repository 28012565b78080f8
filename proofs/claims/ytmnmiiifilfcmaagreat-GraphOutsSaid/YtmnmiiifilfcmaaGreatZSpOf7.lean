/- An operator as the document's, as short. -/
import Derived.Test.YtmnmiiifilfcmaaGreatZSpOut
import Derived.Test.YtmnmiiifilfcmaaGreatZPuOp
import Derived.Test.YtmnmiiifilfcmaaGreatS1
set_option linter.unusedSimpArgs false
set_option linter.unusedVariables false
namespace Go.Proofs.YtmnmiiifilfcmaaGreat
open Go Go.Abs

attribute [local irreducible] Abs.Fn

/- An operator there and back. -/
theorem of7_spec {o : Opr} (ht : Wd 1000000000 o.t) (hk : We 1000000000 o.key) (hes : ∀ e ∈ o.es, We 1000000000 e) (hl : o.es.length ≤ 1000000) : Abs.Fn Tryz.prog runnellaw7_Of_i [] [.p (encO o)] (.p (encO o)) [] := by
  have h1 := of1_spec ht
  have h4 := of4_spec hk
  simp only [encT_eta, encE_eta] at h1 h4
  apply runnellaw7_Of_fn
  simp [runnellaw7_Of]
  refine aCallT_of rfl h1 rfl ?_
  simp
  refine aCallT_of rfl h4 rfl ?_
  simp
  refine loop_by (σ := Nat) (n := 4) (fun i => [.p (.int .i64 i)]) (fun i => [.box (boxO o), .box [.p (.int .i64 0), .p (.str []), .p (.int .i64 0), .full [], .full [], .p (.str []), .p (.int .i64 0), .p (.int .i64 0), .p (.bool false), .p (.str []), .full [], .p (.int .i64 0), .full [], .p (.int .i64 0), .p (.int .i64 0)],
      .box ((boxO o).set 4 (.own 3 ((o.es.map encE).take i))), .row i 8])
    (fun i => i ≤ o.es.length) (fun i => o.es.length - i) [.cell 2 4 8] 0 (fun _ => rfl) (by simp [ghosts, ghost]) (by simp) (fun i B hi hB => ?_)
  simp [runnellaw7_Of_L1]
  intro _
  refine ⟨fun hlt => ?_, fun hge => ?_⟩
  · have hfo := of4_spec (hes o.es[i] (by simp))
    simp only [encE_eta] at hfo
    simp [hlt]
    refine aCallT_of rfl hfo rfl ?_
    simp
    refine ⟨by omega, ⟨encE_sizeT _ _, by simp, by simp; omega⟩, ?_⟩
    rw [IntWalk.i64_in _ (by omega)]
    have := take_snoc (l := o.es.map encE) (i := i) (by simpa using hlt)
    simp only [List.getElem_map, encE_eta] at this
    rw [this]
    exact hB (i + 1) _ (by omega) (by omega) (by simp) (by simp [Ob.below, AV.under1]) (by simp) (by simp [AV.under, AV.under1])
  · rw [List.take_of_length_le (by simpa using hge)]
    exact gives_pure (by simp [AV.pur, Function.comp_def])

/-- Is it short? -/
def fewO (o : Opr) : Bool := decide (o.name.length ≤ 50) && fewT o.t && decide (o.es.length ≤ 8) && fewE o.key && o.es.all fewE

theorem few7_spec (o : Opr) : Abs.Fn Tryz.prog runnellaw7_Few_i [] [.p (encO o)] (.p (.bool (fewO o))) [] := by
  have h1 := few1_spec o.t
  have h4 := few4_spec o.key
  simp only [encT_eta, encE_eta] at h1 h4
  apply runnellaw7_Few_fn
  simp [runnellaw7_Few]
  intro _
  refine aMerge_intro (!fewT o.t) (fun _ => ?_) ?_
  · refine aCallW_of rfl rfl h1 ?_
    simp
  simp
  refine aMerge_intro (!fewE o.key) (fun _ => ?_) ?_
  · refine aCallW_of rfl rfl h4 ?_
    simp
  simp
  refine ⟨fun h => gives_p ?_, fun q1 q2 q3 q4 => ?_⟩
  · have : fewO o = false := by
      simp only [fewO]
      grind
    rw [this]
  · have hf : fewO o = o.es.all fewE := by simp only [fewO]; simp; grind
    rw [hf]
    refine loop_by (σ := Nat) (n := 1) (fun i => [.p (.int .i64 i)]) (fun i => [.box (boxO o)]) (fun i => i ≤ o.es.length ∧ (o.es.drop i).all fewE = o.es.all fewE) (fun i => o.es.length - i) [] 0 (fun _ => rfl) ⟨rfl, by simp⟩ (by simp) (fun i B hi hB => ?_)
    obtain ⟨g1, g2⟩ := hi
    generalize hA : o.es.all fewE = A at *
    simp [runnellaw7_Few_L1]
    intro _
    refine ⟨fun hlt => ?_, fun hge => ?_⟩
    · have hd := all_drop fewE o.es i hlt
      have hfe := few4_spec o.es[i]
      simp only [encE_eta] at hfe
      rw [g2] at hd
      simp [hlt]
      refine aCallW_of rfl rfl hfe ?_
      simp
      refine ⟨fun hz => gives_p (by rw [hd, hz]; rfl), fun hz => ?_⟩
      rw [IntWalk.i64_in _ (by omega)]
      exact hB (i + 1) _ ⟨by omega, by rw [hd, hz]; rfl⟩ (by omega) (by simp) (by simp [Ob.below, AV.under1]) (by simp) (by simp [AV.under, AV.under1])
    · rw [List.drop_of_length_le hge] at g2
      exact gives_p (by rw [← g2]; rfl)

end Go.Proofs.YtmnmiiifilfcmaaGreat
