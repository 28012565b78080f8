/- The law VerEmits. -/
import Derived.Test.YtcdkdmjedkhpiaaDoorZSpLaw13S
set_option linter.unusedSimpArgs false
set_option linter.unusedVariables false
namespace Go.Proofs.YtcdkdmjedkhpiaaDoor
open Go Go.Abs

attribute [local irreducible] Abs.Fn

def emF (a : Va) : Nat → List In
  | 0 => []
  | k + 1 => emF a k ++ [.mk oPush a 0, emI]
theorem emF_len (a : Va) : ∀ k, (emF a k).length = 2 * k
  | 0 => rfl
  | k + 1 => by simp [emF, emF_len a k]; omega
theorem emF_emP (a b : Va) (k : Nat) (hk : k ≤ 3) : emF a k ++ [.mk oPush b 0, emI, retI] = emP a b k := by
  have hk4 : k = 0 ∨ k = 1 ∨ k = 2 ∨ k = 3 := by omega
  rcases hk4 with rfl | rfl | rfl | rfl <;> rfl

theorem tP_eq (a : Va) : T.agg [.str [112, 117, 115, 104], .int .i64 a.k, .int .i64 a.i, .bool a.b, .str a.s, .slice (a.t.map encV), .int .i64 0] = encI (.mk oPush a 0) := rfl

theorem tlen8 {v : Va} (h : checkV v 0 = 0) : v.t.length ≤ 8 := by
  obtain ⟨k, i, b, s, t⟩ := v
  rcases good_cases h with ⟨rfl, rfl, rfl, rfl⟩ | ⟨rfl, rfl, rfl, rfl⟩ | ⟨rfl, rfl, rfl, rfl, hl⟩ | ⟨rfl, rfl, rfl, rfl, hr, hc⟩
  · simp
  · simp
  · simp
  · unfold rowE at hr
    repeat' split at hr
    all_goals first
      | (simp only [Va.t]; omega)
      | (simp at hr; done)

theorem kindV_k (v : Va) (h : checkV v 0 = 0) (ht : v.t = []) : (kindV v).kind = v.k := by
  rcases flat_cases h ht with ⟨i, rfl⟩ | ⟨i, rfl⟩ | ⟨i, rfl⟩ <;> rfl

set_option maxRecDepth 100000 in
set_option maxHeartbeats 1000000 in
theorem VerEmits_spec (a b : Va) (n : Int) (hn : 0 ≤ n ∧ n ≤ 255) : Abs.Fn Tryd.prog runnellaw13_VerEmits_i [] [.p (encV a), .p (encV b), .p (.int .u8 n)] (.p (.bool true)) [] := by
  have hca := Checkv_spec a
  have hcb := Checkv_spec b
  apply runnellaw13_VerEmits_fn
  simp only [encV_eta] at hca hcb
  simp [runnellaw13_VerEmits]
  refine aCallW_of rfl rfl known13 ?_
  simp
  intro m1 m2
  refine aMerge_intro (decide (checkV a 0 ≠ 0)) (fun _ => ?_) ?_
  · refine aCallN_of [] hca rfl (by simp [renF, treeA]) (by simp) (by simp [framed, renF]) (by simp [AV.under, AV.under1]) (by simp [Ob.below, AV.under1]) ?_
    simp [renF, frameH, setAll]
  refine aMerge_intro (decide (checkV b 0 ≠ 0)) (fun _ => ?_) ?_
  · refine aCallN_of [] hcb rfl (by simp [renF, treeA]) (by simp) (by simp [framed, renF]) (by simp [AV.under, AV.under1]) (by simp [Ob.below, AV.under1]) ?_
    simp [renF, frameH, setAll]
  simp only [maxLen] at m1 m2
  have hm4 : n.tmod 4 = n % 4 := by rw [Int.tmod_eq_emod_of_nonneg hn.1]
  obtain ⟨k, hk⟩ : ∃ k : Nat, n % 4 = k := ⟨(n % 4).toNat, by omega⟩
  have hk3 : k ≤ 3 := by omega
  have wk : IntKind.i64.wrap (k : Int) = k := IntWalk.i64_in _ (by omega)
  simp [hm4, hk, wk]
  refine ⟨fun _ => gives_p rfl, fun h1 h2 h3 => ?_⟩
  have la := tlen8 h2
  have lb := tlen8 h3
  rw [IntWalk.i64_in _ (by omega)] at h1
  have ta : a.t = [] := List.eq_nil_of_length_eq_zero (by omega)
  have tb : b.t = [] := List.eq_nil_of_length_eq_zero (by omega)
  have hE := em_law h2 h3 ta tb k hk3
  have hck := VCheck_spec (emP a b k) oneT13 (by rw [emP_len]; omega)
  have hc2 := VCheck_spec [.mk oEmit' zeroV 0, retI] oneT13 (by simp)
  rw [hE] at hck
  rw [nothing_law] at hc2
  have hkb := kindV_k b h3 tb
  have n1 : checkV a 0 = 0 := h2
  refine loop_by (σ := Nat) (n := 3) (fun j => [.own 2 ((emF a j).map encI), .p (.int .i64 j)]) (fun j => [.box [.p (.int .i64 a.k), .p (.int .i64 a.i), .p (.bool a.b), .p (.str a.s), .p (.slice (a.t.map encV))], .box [.p (.int .i64 b.k), .p (.int .i64 b.i), .p (.bool b.b), .p (.str b.s), .p (.slice (b.t.map encV))], .row (2 * j) 7]) (fun j => j ≤ k) (fun j => k - j) [.slot 0 7] 0 (fun _ => rfl) ⟨rfl, rfl⟩ (by simp) (fun j B hj hB => ?_)
  simp [runnellaw13_VerEmits_L1]
  refine ⟨fun hlt => ?_, fun hge => ?_⟩
  · have w1 : IntKind.i64.wrap ((j : Int) + 1) = ((j + 1 : Nat) : Int) := by rw [IntWalk.i64_in _ (by omega)]; omega
    rw [w1, tE_eq, tP_eq]
    have ha := app7 (l := emF a j) (ms := [encI (.mk oPush a 0), encI emI]) (by rw [emF_len]; omega) (by simp) (by simp)
    have he : List.map encI (emF a j) ++ [encI (.mk oPush a 0), encI emI] = (emF a (j + 1)).map encI := by simp [emF]
    refine ⟨(emF_len a j).symm, ha, ?_⟩
    rw [he]
    exact hB (j + 1) _ (by omega) (by omega) (by simp [emF_len]; omega) (by simp [Ob.below, AV.under1]) (by simp) (by simp [AV.under, AV.under1])
  · have hjk : j = k := by omega
    subst hjk
    rw [tE_eq, tP_eq, tR_eq]
    have ha := app7 (l := emF a j) (ms := [encI (.mk oPush b 0), encI emI, encI retI]) (by rw [emF_len]; omega) (by simp) (by simp)
    have he : List.map encI (emF a j) ++ [encI (.mk oPush b 0), encI emI, encI retI] = (emP a b j).map encI := by rw [← emF_emP a b j hk3]; simp
    refine ⟨(emF_len a j).symm, ha, ?_⟩
    rw [he]
    refine aCallN_of [] hck rfl (by simp [renF, treeA, oneT13]) (by simp) (by simp [framed, renF]) (by simp [AV.under, AV.under1]) (by simp [Ob.below, AV.under1]) ?_
    simp [renF, frameH, setAll, verR]
    refine aCallN_of [] hc2 rfl (by simp [renF, treeA, oneT13, encI, retI, oEmit', oRet']) (by simp) (by simp [framed, renF]) (by simp [AV.under, AV.under1]) (by simp [Ob.below, AV.under1]) ?_
    simp [renF, frameH, setAll, verR]
    have nk : noTy.kind = 0 := rfl
    have wj : IntKind.i64.wrap (IntKind.i64.wrap (2 * (j : Int)) + 1) = 2 * j + 1 := by rw [IntWalk.i64_in (2 * (j : Int)) (by omega), IntWalk.i64_in _ (by omega)]
    refine ⟨fun c => absurd nk c, fun _ => ⟨fun c1 c2 => ?_, fun c => ?_⟩⟩
    · rw [wj]
      simp only [c1, c2, not_false_eq_true, and_self, if_true]
      exact gives_p (by simp [nk])
    · have nc : ¬ (0 < j ∧ ¬ a.k = b.k) := fun h => h.2 (c h.1)
      simp only [if_neg nc]
      exact gives_p (by simp [hkb])

end Go.Proofs.YtcdkdmjedkhpiaaDoor
