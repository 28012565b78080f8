/- The package ver over trees: what an op comes to, by the package expr. -/
import Derived.Test.YtcdkdmjedkhpiaaDoorZSpExprC
set_option linter.unusedSimpArgs false
set_option linter.unusedVariables false
namespace Go.Proofs.YtcdkdmjedkhpiaaDoor
open Go Go.Abs

attribute [local irreducible] Abs.Fn

set_option maxHeartbeats 1000000 in
theorem Types4_spec (op : List UInt8) (n : Int) (l : List Ty) (s : Sh) (hs : lookS op shL = some s) (hlit : op ≠ oLit) (hX : op ≠ oX) (ha : ArOk' s l.length) (hv : ∀ t ∈ l, checkT t 0 = 0) (hb : l.length ≤ 1000000) :
    Abs.Fn Tryd.prog expr_Types_i [] [.p (.str op), .p (.int .i64 n), .p (.slice (l.map encT))] (tyR (opT op n l)) [] := by
  have hun := opT_sh hs n l ⟨hlit, hX⟩ ha hv
  have hfs := findSh_spec shL op
  rw [hs] at hfs
  simp only [findS, encSh] at hfs
  obtain ⟨h1, h2, h3, h4, h5, h6⟩ := sh_of hs
  have hft := fits_spec s l (by have := ha.1; omega) (fun h => by have := h2 h; have := ha.1; omega) (by omega)
  simp only [encSh] at hft
  apply expr_Types_fn
  simp [expr_Types]
  (first | refine aCall_fold rfl ?_ | refine aCallT_fold rfl ?_)
  (first | refine aCallU_p (shapes_spec) ?_ | refine aCallTU_p (shapes_spec) ?_ | refine aCallU_of (shapes_spec) ?_ | refine aCallTU_of (shapes_spec) rfl ?_ | refine aCallTU_of (shapes_spec) (by simp [AV.pur]; rfl) ?_)
  try simp
  (first | refine aCall_fold rfl ?_ | refine aCallT_fold rfl ?_)
  (first | refine aCallU_p (hfs) ?_ | refine aCallTU_p (hfs) ?_ | refine aCallU_of (hfs) ?_ | refine aCallTU_of (hfs) rfl ?_ | refine aCallTU_of (hfs) (by simp [AV.pur]; rfl) ?_)
  try simp
  (first | refine aCall_fold rfl ?_ | refine aCallT_fold rfl ?_)
  (first | refine aCallU_p (hft) ?_ | refine aCallTU_p (hft) ?_ | refine aCallU_of (hft) ?_ | refine aCallTU_of (hft) rfl ?_ | refine aCallTU_of (hft) (by simp [AV.pur]; rfl) ?_)
  try simp
  refine ⟨fun hz => ?_, fun hz => ?_⟩
  · rw [hun, if_pos hz]
    exact tyR_gives (by simp [R.get, R.num])
  · rw [if_neg (by simp [hz])] at hun
    have hcm := comes_spec op zeroV n [] s l (.mk 0 []) (fun h => absurd h hlit) (fun h => by have := h3 h; have := ha.1; omega) (fun h => by have := h4 h; have := ha.1; omega) (fun h => ?_)
    · rw [if_neg hlit, if_neg hX, ← hun] at hcm
      simp only [encSh, tyR] at hcm
      (first | refine aCall_fold rfl ?_ | refine aCallT_fold rfl ?_)
      (first | refine aCallU_p (clipT_spec l) ?_ | refine aCallTU_p (clipT_spec l) ?_ | refine aCallU_of (clipT_spec l) ?_ | refine aCallTU_of (clipT_spec l) rfl ?_ | refine aCallTU_of (clipT_spec l) (by simp [AV.pur]; rfl) ?_)
      try simp
      (first | refine aCall_fold rfl ?_ | refine aCallT_fold rfl ?_)
      (first | refine aCallU_p (hcm) ?_ | refine aCallTU_p (hcm) ?_ | refine aCallU_of (hcm) ?_ | refine aCallTU_of (hcm) rfl ?_ | refine aCallTU_of (hcm) (by simp [AV.pur]; rfl) ?_)
      try simp
      exact gives_pure (by simp [AV.pur, tyR])
    · match l with
      | [] => simp
      | u :: r =>
        have := checkT_of (hv u (by simp))
        simp
        omega

end Go.Proofs.YtcdkdmjedkhpiaaDoor
