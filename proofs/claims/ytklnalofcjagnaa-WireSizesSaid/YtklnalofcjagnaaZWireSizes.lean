/- The law WireSizes returns true for every input, and leaves its arguments as they were. No condition. -/
import Derived.Test.YtklnalofcjagnaaRows
import Derived.Test.YtklnalofcjagnaaA3
import Derived.Test.YtklnalofcjagnaaZSpWireM
import Derived.Test.YtklnalofcjagnaaZSpRowW
import Derived.WalkKit
namespace Go.Proofs.Ytklnalofcjagnaa.wireSizes
open Go Go.Abs

theorem own : ownKnob Try.prog.godebug = none := by kernel_rfl
theorem laidOut : laidOutB Try.prog = true := by kernel_rfl

set_option maxRecDepth 100000 in
theorem lifted (os : Os) (started : os.Started) (H : Type) (enc : TypeId × Value → H) :
    ReturnsInHanded {} Try.checked os 6 .any (Rows.wireSizesSpec.pre6 enc Try.prog Try.f6 Rows.wireSizesRow.domain false) (Rows.wireSizesSpec.post enc Try.prog Try.f6 false true false false) := by
  refine returnsInHanded_of_change (C := Try.checked) own started (by kernel_rfl) Try.func6
    (ChangeSpec.witness6 (enc := enc) (C := Try.checked) false ⟨#[], #[.int .i64 0], []⟩ 8 (by kernel_rfl) (by kernel_rfl) (by kernel_rfl) (by kernel_rfl)) ?_
  intro W base args ds gs before hval hW _ _
  refine law_contract (P := Try.prog) (tb := 4) (Ts := [2]) (by kernel_rfl) Try.underlying4 laidOut (by kernel_rfl) rfl (fun ds hds => ?_) (by kernel_rfl) (by kernel_rfl) (fun xs hx => ?_) W base args ds gs before hval hW
  · rw [Try.params6] at hds
    match ds, hds with
    | [d0], _ => exact ⟨rfl, rfl, rfl⟩
  · rw [Try.params6] at hx
    obtain ⟨_, _, rfl, ⟨_, _, rfl, h0⟩, rfl⟩ := hx
    obtain ⟨m0, _, e0, w0⟩ := typ_int Try.underlying2 h0
    rw [e0]
    exact WireSizes_spec m0 (i64_wf w0)

theorem over : Rows.wireSizesRow.holds Try.pinned (OpenSpec.ofChange Rows.wireSizesSpec) :=
  OpenClaim.holds_of_wide 6 Try.f6 rfl rfl rfl rfl rfl rfl rfl ⟨rfl, rfl, rfl, rfl, rfl⟩ rfl rfl rfl rfl rfl (by kernel_rfl) Try.func6 (by kernel_rfl)
    (of_decide_eq_true (by kernel_rfl)) (by unfold Func.isWrapper; first | (rw [if_pos (by decide +kernel)]; kernel_rfl) | (rw [if_neg (by decide +kernel)]; exact ⟨rfl, rfl⟩))
    (fun os started H enc _ => lifted os started H enc)

end Go.Proofs.Ytklnalofcjagnaa.wireSizes

namespace Go.Proofs.Ytklnalofcjagnaa
theorem wireSizes_holds : Rows.WireSizesSaid := wireSizes.over
end Go.Proofs.Ytklnalofcjagnaa
