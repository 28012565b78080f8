/- The law VmRun. -/
import Derived.Test.YtondmcnmdooonaaZSpVerB
import Derived.Test.YtondmcnmdooonaaZSpCodeB
import Derived.Test.YtondmcnmdooonaaZSpLaw14
import Derived.Test.YtondmcnmdooonaaZSpSameV
set_option linter.unusedSimpArgs false
set_option linter.unusedVariables false
namespace Go.Proofs.Ytondmcnmdooonaa
open Go Go.Abs

attribute [local irreducible] Abs.Fn

theorem doesI_out {i : In} {x : Va} {s s' o : List Va} (h : doesI i x s = some (.ok (s', o))) : ∀ v ∈ o, v ∈ s := by
  unfold doesI at h
  repeat' split at h
  all_goals try (simp at h; done)
  all_goals
    simp only [Option.some.injEq, R.ok.injEq, Prod.mk.injEq] at h
    obtain ⟨_, rfl⟩ := h
    intro v hv
    first
      | (simp at hv; done)
      | exact List.mem_of_mem_drop hv

theorem runI_wv {p : List In} {x : Va} {at' : Nat} {s out : List Va} {r : R (List Va)} (h : RunI p x at' s out r) : (∀ v ∈ out, Wv 1000000000 v) → ∀ l, r = .ok l → ∀ v ∈ l, Wv 1000000000 v := by
  induction h with
  | fin => intro ho l e; cases e; exact ho
  | ret => intro ho l e; cases e; exact ho
  | jmp _ _ _ _ _ _ _ ih => exact ih
  | jft _ _ _ _ _ ih => exact ih
  | jff _ _ _ _ _ _ _ _ ih => exact ih
  | go _ _ _ _ hw hd _ ih =>
    intro ho
    refine ih (fun v hv => ?_)
    rcases List.mem_append.1 hv with hv | hv
    · exact ho v hv
    · exact hw v (doesI_out hd v hv)
  | er _ _ _ _ _ hd => intro ho l e; cases e

theorem few11_wv {p : List In} (h : fewP p = true) : p.length ≤ 300 ∧ ∀ x ∈ p, Wv 1000000000 x.v := by
  simp only [fewP, Bool.and_eq_true, decide_eq_true_eq, List.all_eq_true] at h
  exact ⟨h.1, fun x hx => (fewV_small (h.2 x hx).2).mono (by omega)⟩

theorem runI_er' {p : List In} {x : Va} {at' : Nat} {s out : List Va} {r : R (List Va)} (h : RunI p x at' s out r) : ∀ f, r = .er f → f ≠ 0 := runI_er h

set_option maxRecDepth 100000 in
set_option maxHeartbeats 1000000 in
theorem VmRun_spec (p : List In) (x : Va) : Abs.Fn Try.prog runnellaw14_VmRun_i [] [.p (.slice (p.map encI)), .p (encV x)] (.p (.bool true)) [] := by
  have hfew := few11_spec p
  have hgood := good2_spec x
  apply runnellaw14_VmRun_fn
  simp only [encV_eta] at hgood
  simp [runnellaw14_VmRun]
  refine aCallW_of rfl rfl known14 ?_
  simp
  refine aCallW_of rfl rfl hfew ?_
  simp
  refine aMerge_intro (!goodV x) (fun _ => ?_) ?_
  · refine aCallW_of rfl rfl hgood ?_
    simp
  simp
  refine ⟨fun _ => gives_p rfl, fun f1 f2 => ?_⟩
  obtain ⟨hl, hw⟩ := few11_wv f1
  have hwx : Wv 1000000000 x := by
    simp [goodV] at f2
    exact (fewV_small f2.1).mono (by omega)
  have hck : checkV x 0 = 0 := by
    simp [goodV] at f2
    exact f2.2
  have hof := of11_spec p (by omega) hw
  have ho2 := of2_spec hwx
  have hty := typeOfR_spec hwx
  have hver := Verify_spec p (kindV x) (by omega)
  simp only [encV_eta, encT_eta] at ho2 hty hver
  refine aCallW_of rfl rfl hof ?_
  simp
  refine aCallW_of rfl rfl ho2 ?_
  simp
  refine aCallW_of rfl rfl hty ?_
  simp
  refine aCallW_of rfl rfl hver ?_
  simp [verR]
  refine ⟨fun _ => gives_p rfl, fun hz => ?_⟩
  obtain ⟨r, hr⟩ := ver_run hz ⟨hck, rfl⟩
  have c3 := vmRun_spec p x r hr (by omega)
  have c4 := refRun_spec p x r hr (by omega)
  simp only [encV_eta] at c3 c4
  refine aCallW_of rfl rfl c3 ?_
  cases r with
  | er f =>
    have c5 := SameAll_spec [] [] (by simp)
    simp at c5
    simp [runR]
    refine aCallW_of rfl rfl ho2 ?_
    simp
    refine aCallW_of rfl rfl c4 ?_
    simp
    refine aMerge_intro true (fun _ => ?_) (gives_p rfl)
    refine aCallW_of rfl rfl c5 ?_
    simp [sameVs]
  | ok l =>
    have c5 := SameAll_spec l l (runI_wv hr (by simp) l rfl)
    simp [runR]
    refine aCallW_of rfl rfl ho2 ?_
    simp
    refine aCallW_of rfl rfl c4 ?_
    simp
    refine aMerge_intro true (fun _ => ?_) (gives_p rfl)
    refine aCallW_of rfl rfl c5 ?_
    simp [sameVs_self]

end Go.Proofs.Ytondmcnmdooonaa
