/- The law GraphGrows returns true for every input, and leaves its arguments as they were. No condition. -/
import Derived.Test.YtmnmiiifilfcmaaRows
import Derived.Test.YtmnmiiifilfcmaaA3
import Derived.Test.YtmnmiiifilfcmaaZSpGrows
import Derived.Test.YtmnmiiifilfcmaaZSpRowN
import Derived.WalkKit
namespace Go.Proofs.Ytmnmiiifilfcmaa.graphGrows
open Go Go.Abs

theorem own : ownKnob Try.prog.godebug = none := by kernel_rfl
theorem laidOut : laidOutB Try.prog = true := by kernel_rfl

set_option maxRecDepth 100000 in
theorem lifted (os : Os) (started : os.Started) (H : Type) (enc : TypeId × Value → H) :
    ReturnsInHanded {} Try.checked os 3 .any (Rows.graphGrowsSpec.pre6 enc Try.prog Try.f3 Rows.graphGrowsRow.domain false) (Rows.graphGrowsSpec.post enc Try.prog Try.f3 false true false false) := by
  refine returnsInHanded_of_change (C := Try.checked) own started (by kernel_rfl) Try.func3
    (ChangeSpec.witness6 (enc := enc) (C := Try.checked) false ⟨#[], #[.slice none 0 0], []⟩ 8 (by kernel_rfl) (by kernel_rfl) (by kernel_rfl) (by kernel_rfl)) ?_
  intro W base args ds gs before hval hW _ _
  refine law_contract (P := Try.prog) (tb := 4) (Ts := [22, 5]) (by kernel_rfl) Try.underlying4 laidOut (by kernel_rfl) rfl (fun ds hds => ?_) (by kernel_rfl) (by kernel_rfl) (fun xs hx => ?_) W base args ds gs before hval hW (fun g cs h => by simp [tabs] at h)
  · rw [Try.params3] at hds
    match ds, hds with
    | [d0], _ => exact ⟨rfl, rfl, rfl⟩
  · rw [Try.params3] at hx
    obtain ⟨_, _, rfl, ⟨_, _, rfl, h0⟩, rfl⟩ := hx
    obtain ⟨v0, e0, w0⟩ := typ_U8s _ _ h0
    rw [e0]
    exact GraphGrows_spec v0 w0

theorem over : Rows.graphGrowsRow.holds Try.pinned (OpenSpec.ofChange Rows.graphGrowsSpec) :=
  OpenClaim.holds_of_wide 3 Try.f3 rfl rfl rfl rfl rfl rfl rfl ⟨rfl, rfl, rfl, rfl, rfl⟩ rfl rfl rfl rfl rfl (by kernel_rfl) Try.func3 (by kernel_rfl)
    (of_decide_eq_true (by kernel_rfl)) (by unfold Func.isWrapper; first | (rw [if_pos (by decide +kernel)]; kernel_rfl) | (rw [if_neg (by decide +kernel)]; exact ⟨rfl, rfl⟩))
    (fun os started H enc _ => lifted os started H enc)

end Go.Proofs.Ytmnmiiifilfcmaa.graphGrows

namespace Go.Proofs.Ytmnmiiifilfcmaa
theorem graphGrows_holds : Rows.GraphGrowsSaid := graphGrows.over
end Go.Proofs.Ytmnmiiifilfcmaa
