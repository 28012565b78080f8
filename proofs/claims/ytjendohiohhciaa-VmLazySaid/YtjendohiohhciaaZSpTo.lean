/- The document's values, programs as the program's. -/
import Derived.Test.YtjendohiohhciaaZSpGenC
import Derived.Test.YtjendohiohhciaaZPuEvalB
import Derived.Test.YtjendohiohhciaaS1
set_option linter.unusedSimpArgs false
set_option linter.unusedVariables false
namespace Go.Proofs.Ytjendohiohhciaa
open Go Go.Abs

attribute [local irreducible] Abs.Fn

theorem to2_spec {v : Va} (h : Wv 1000000000 v) : Abs.Fn Try.prog runnellaw2_To_i [] [.p (encV v)] (.p (encV v)) [] := by
  induction h with
  | mk k i b s t hs hl ho ih =>
    apply runnellaw2_To_fn
    simp [runnellaw2_To]
    refine loop_by (σ := Nat) (n := 4) (fun j => [.p (.int .i64 j)]) (fun j => [.box [.p (.int .i64 k), .p (.int .i64 i), .p (.bool b), .p (.str s), .p (.slice (t.map encV))], .box [.p (.int .i64 0), .p (.int .i64 0), .p (.bool false), .p (.str []), .full []],
      .box [.p (.int .i64 k), .p (.int .i64 i), .p (.bool b), .p (.str s), .own 3 ((t.map encV).take j)], .row j 5])
      (fun j => j ≤ t.length) (fun j => t.length - j) [.cell 2 4 5] 0 (fun _ => rfl) ⟨rfl, rfl⟩ (by simp) (fun j B hj hB => ?_)
    simp [runnellaw2_To_L1]
    intro _
    refine ⟨fun hlt => ?_, fun hge => ?_⟩
    · have hi := ih t[j] (by simp)
      simp only [encV_eta] at hi
      simp [hlt]
      refine aCallT_of rfl hi rfl ?_
      simp
      refine ⟨by omega, ⟨encV_sizeT t j, by simp, by simp; omega⟩, ?_⟩
      simp (disch := omega) only [IntWalk.i64_in]
      have := take_snoc (l := t.map encV) (i := j) (by simpa using hlt)
      simp only [List.getElem_map, encV_eta] at this
      rw [this]
      exact hB (j + 1) _ (by omega) (by omega) (by simp) (by simp [Ob.below, AV.under1]) (by simp) (by simp [AV.under, AV.under1])
    · rw [List.take_of_length_le (by simpa using hge)]
      exact gives_pure (by simp [AV.pur, Function.comp_def])

theorem encI7t (l : List In) : ∀ e ∈ l.map encI, e.cells.length = 7 := fun e he => by obtain ⟨y, _, rfl⟩ := List.mem_map.1 he; rfl

theorem to11_o (p : List In) (hl : p.length ≤ 1000000) (hw : ∀ x ∈ p, Wv 1000000000 x.v) : Abs.Fn Try.prog runnellaw11_To_i [] [.p (encPr p)] (.own 0 (p.map encI)) [.row p.length 7] := by
  apply runnellaw11_To_fn
  simp [runnellaw11_To, encPr]
  refine loop_by (σ := Nat) (n := 1) (fun k => [.own 0 ((p.map encI).take k), .p (.int .i64 k)]) (fun k => [.row k 7]) (fun k => k ≤ p.length) (fun k => p.length - k) [.slot 0 7] 0 (fun _ => rfl) ⟨rfl, rfl⟩ (by simp) (fun k B hk hB => ?_)
  simp [runnellaw11_To_L1]
  intro _
  refine ⟨fun hkl => ?_, fun hge => ?_⟩
  · have hto := to2_spec (hw p[k] (by simp))
    simp only [encV_eta] at hto
    have e1 : IntKind.i64.wrap ((k : Int) + 1) = ((k + 1 : Nat) : Int) := by rw [IntWalk.i64_in _ (by omega)]; push_cast; rfl
    have hts := take_snoc (l := p.map encI) (i := k) (by simpa using hkl)
    simp only [List.getElem_map, encI_eta] at hts
    simp [hkl, encI_eta]
    refine aCallT_of rfl hto rfl ?_
    simp [hkl, encI_eta]
    refine ⟨by omega, ⟨fun e he => encI7t p e (List.mem_of_mem_take he), by simp, by simp; omega⟩, ?_⟩
    rw [e1, hts]
    exact hB (k + 1) _ (by omega) (by omega) (by simp) (by simp [Ob.below]) (by simp) (by simp [AV.under, AV.under1])
  · have hkk : k = p.length := by omega
    subst hkk
    rw [List.take_of_length_le (by simp)]
    exact gives_own rfl

theorem to11_spec (p : List In) (hl : p.length ≤ 1000000) (hw : ∀ x ∈ p, Wv 1000000000 x.v) : Abs.Fn Try.prog runnellaw11_To_i [] [.p (encPr p)] (.p (encPr p)) [] := fn_pure (to11_o p hl hw) rfl

end Go.Proofs.Ytjendohiohhciaa
