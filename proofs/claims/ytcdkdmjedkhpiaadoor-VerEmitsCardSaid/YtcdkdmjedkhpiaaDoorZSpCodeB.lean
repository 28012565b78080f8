/- A program as the document's, as short; arguments that are programs. -/
import Derived.Test.YtcdkdmjedkhpiaaDoorZSpGenC
import Derived.Test.YtcdkdmjedkhpiaaDoorZSpVal
import Derived.Test.YtcdkdmjedkhpiaaDoorS2
set_option linter.unusedSimpArgs false
set_option linter.unusedVariables false
namespace Go.Proofs.YtcdkdmjedkhpiaaDoor
open Go Go.Abs

attribute [local irreducible] Abs.Fn

def fewP (p : List In) : Bool := decide (p.length ≤ 300) && p.all fun x => decide (x.op.length ≤ 20) && fewV x.v

theorem few11_spec (p : List In) : Abs.Fn Tryd.prog runnellaw11_Few_i [] [.p (.slice (p.map encI))] (.p (.bool (fewP p))) [] := by
  apply runnellaw11_Few_fn
  simp [runnellaw11_Few]
  intro hml
  refine ⟨fun h => gives_p ?_, fun h300 => ?_⟩
  · have : fewP p = false := by simp only [fewP]; rw [decide_eq_false (by omega)]; rfl
    rw [this]
  have hf : fewP p = p.all fun x => decide (x.op.length ≤ 20) && fewV x.v := by simp only [fewP]; rw [decide_eq_true (by omega)]; rfl
  rw [hf]
  refine loop_by (σ := Nat) (n := 0) (fun i => [.p (.int .i64 i)]) (fun i => []) (fun i => i ≤ p.length ∧ (p.drop i).all (fun x => decide (x.op.length ≤ 20) && fewV x.v) = p.all (fun x => decide (x.op.length ≤ 20) && fewV x.v)) (fun i => p.length - i) [] 0 (fun _ => rfl) (by simp [ghosts]) (by simp) (fun i B hi hB => ?_)
  obtain ⟨g1, g2⟩ := hi
  generalize hA : (p.all fun x => decide (x.op.length ≤ 20) && fewV x.v) = A at *
  simp [runnellaw11_Few_L1, hml]
  refine ⟨fun hlt => ?_, fun hge => ?_⟩
  · have hd := all_drop (fun x : In => decide (x.op.length ≤ 20) && fewV x.v) p i hlt
    rw [g2] at hd
    have hfe := few2_spec p[i].v
    simp only [encV_eta] at hfe
    simp [hlt, List.getElem?_eq_getElem hlt, encI_eta]
    intro _
    refine aMerge_intro (!fewV p[i].v) (fun _ => ?_) ?_
    · refine aCallW_of rfl rfl hfe ?_
      simp
    simp
    have h20 : decide ((20 : Int) < p[i].op.length) = !decide (p[i].op.length ≤ 20) := by
      rw [Bool.eq_iff_iff]; simp; omega
    refine ⟨fun hz => gives_p ?_, fun hz1 hz2 => ?_⟩
    · rw [hd]
      rcases hz with hz | hz
      · rw [decide_eq_false (by omega)]; rfl
      · simp [hz]
    · rw [decide_eq_true (by omega), hz2, Bool.true_and, Bool.true_and] at hd
      rw [IntWalk.i64_in _ (by omega)]
      exact hB (i + 1) _ ⟨by omega, hd.symm⟩ (by omega) (by simp) (by simp) (by simp) (by simp [AV.under, AV.under1])
  · rw [List.drop_of_length_le hge] at g2
    exact gives_p (by rw [← g2]; rfl)

theorem of11_spec (p : List In) (hl : p.length ≤ 1000000) (hw : ∀ x ∈ p, Wv 1000000000 x.v) : Abs.Fn Tryd.prog runnellaw11_Of_i [] [.p (.slice (p.map encI))] (.p (.slice (p.map encI))) [] := by
  have h : Abs.Fn Tryd.prog runnellaw11_Of_i [] [.p (.slice (p.map encI))] (.own 0 (p.map encI)) [.row p.length 7] := by
    apply runnellaw11_Of_fn
    simp [runnellaw11_Of]
    refine loop_by (σ := Nat) (n := 1) (fun k => [.own 0 ((p.map encI).take k), .p (.int .i64 k)]) (fun k => [.row k 7]) (fun k => k ≤ p.length) (fun k => p.length - k) [.slot 0 7] 0 (fun _ => rfl) ⟨rfl, rfl⟩ (by simp) (fun k B hk hB => ?_)
    simp [runnellaw11_Of_L1]
    intro _
    refine ⟨fun hkl => ?_, fun hge => ?_⟩
    · have hto := of2_spec (hw p[k] (by simp))
      simp only [encV_eta] at hto
      have e1 : IntKind.i64.wrap ((k : Int) + 1) = ((k + 1 : Nat) : Int) := by rw [IntWalk.i64_in _ (by omega)]; push_cast; rfl
      have hts := take_snoc (l := p.map encI) (i := k) (by simpa using hkl)
      simp only [List.getElem_map, encI_eta] at hts
      simp [hkl, encI_eta]
      refine aCallT_of rfl hto rfl ?_
      simp [hkl, encI_eta]
      refine ⟨by omega, ⟨fun e he => by
        obtain ⟨y, _, rfl⟩ := List.mem_map.1 (List.mem_of_mem_take he); rfl, by simp, by simp; omega⟩, ?_⟩
      rw [e1, hts]
      exact hB (k + 1) _ (by omega) (by omega) (by simp) (by simp [Ob.below]) (by simp) (by simp [AV.under, AV.under1])
    · have hkk : k = p.length := by omega
      subst hkk
      rw [List.take_of_length_le (by simp)]
      exact gives_own rfl
  exact fn_pure h rfl

end Go.Proofs.YtcdkdmjedkhpiaaDoor
