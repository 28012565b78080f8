/- The law GraphOuts returns true for every input, and leaves its arguments as they were. No condition. -/
import Derived.Test.YtmnmiiifilfcmaaGreatRows
import Derived.Test.YtmnmiiifilfcmaaGreatA3
import Derived.Test.YtmnmiiifilfcmaaGreatZSpOuts
import Derived.Test.YtmnmiiifilfcmaaGreatZSpRowG
import Derived.WalkKit
namespace Go.Proofs.YtmnmiiifilfcmaaGreat.graphOuts
open Go Go.Abs

theorem own : ownKnob Tryz.prog.godebug = none := by kernel_rfl
theorem laidOut : laidOutB Tryz.prog = true := by kernel_rfl

set_option maxRecDepth 100000 in
theorem lifted (os : Os) (started : os.Started) (H : Type) (enc : TypeId × Value → H) :
    ReturnsInHanded {} Tryz.checked os 3 .any (Rows.graphOutsSpec.pre6 enc Tryz.prog Tryz.f3 Rows.graphOutsRow.domain false) (Rows.graphOutsSpec.post enc Tryz.prog Tryz.f3 false true false false) := by
  refine returnsInHanded_of_change (C := Tryz.checked) own started (by kernel_rfl) Tryz.func3
    (ChangeSpec.witness6 (enc := enc) (C := Tryz.checked) false ⟨#[], #[.slice none 0 0], []⟩ 8 (by kernel_rfl) (by kernel_rfl) (by kernel_rfl) (by kernel_rfl)) ?_
  intro W base args ds gs before hval hW _ _
  refine law_contract (P := Tryz.prog) (tb := 4) (Ts := [40, 22, 23, 26, 38, 36, 31, 34, 3, 2, 4, 9, 32, 30, 28]) (by kernel_rfl) Tryz.underlying4 laidOut (by kernel_rfl) rfl (fun ds hds => ?_) (by kernel_rfl) (by kernel_rfl) (fun xs hx => ?_) W base args ds gs before hval hW (fun g cs h => by simp [tabs] at h)
  · rw [Tryz.params3] at hds
    match ds, hds with
    | [d0], _ => exact ⟨rfl, rfl, rfl⟩
  · rw [Tryz.params3] at hx
    obtain ⟨_, _, rfl, ⟨_, _, rfl, h0⟩, rfl⟩ := hx
    obtain ⟨v0, e0, w0⟩ := typ_G _ _ h0
    rw [e0]
    exact GraphOuts_spec v0

theorem over : Rows.graphOutsRow.holds Tryz.pinned (OpenSpec.ofChange Rows.graphOutsSpec) :=
  OpenClaim.holds_of_wide 3 Tryz.f3 rfl rfl rfl rfl rfl rfl rfl ⟨rfl, rfl, rfl, rfl, rfl⟩ rfl rfl rfl rfl rfl (by kernel_rfl) Tryz.func3 (by kernel_rfl)
    (of_decide_eq_true (by kernel_rfl)) (by unfold Func.isWrapper; first | (rw [if_pos (by decide +kernel)]; kernel_rfl) | (rw [if_neg (by decide +kernel)]; exact ⟨rfl, rfl⟩))
    (fun os started H enc _ => lifted os started H enc)

end Go.Proofs.YtmnmiiifilfcmaaGreat.graphOuts

namespace Go.Proofs.YtmnmiiifilfcmaaGreat
theorem graphOuts_holds : Rows.GraphOutsSaid := graphOuts.over
end Go.Proofs.YtmnmiiifilfcmaaGreat
