/- The law VmFused returns true for every input, and leaves its arguments as they were. No condition. -/
import Derived.Test.YtjendohiohhciaaRows
import Derived.Test.YtjendohiohhciaaA3
import Derived.Test.YtjendohiohhciaaZSpFused
import Derived.Test.YtjendohiohhciaaZSpRowI
import Derived.WalkKit
namespace Go.Proofs.Ytjendohiohhciaa.vmFused
open Go Go.Abs

theorem own : ownKnob Try.prog.godebug = none := by kernel_rfl
theorem laidOut : laidOutB Try.prog = true := by kernel_rfl

set_option maxRecDepth 100000 in
theorem lifted (os : Os) (started : os.Started) (H : Type) (enc : TypeId × Value → H) :
    ReturnsInHanded {} Try.checked os 6 .any (Rows.vmFusedSpec.pre6 enc Try.prog Try.f6 Rows.vmFusedRow.domain false) (Rows.vmFusedSpec.post enc Try.prog Try.f6 false true false false) := by
  refine returnsInHanded_of_change (C := Try.checked) own started (by kernel_rfl) Try.func6
    (ChangeSpec.witness6 (enc := enc) (C := Try.checked) false ⟨#[], #[.slice none 0 0, .int .i8 0, .int .i8 0], []⟩ 8 (by kernel_rfl) (by kernel_rfl) (by kernel_rfl) (by kernel_rfl)) ?_
  intro W base args ds gs before hval hW _ _
  refine law_contract (P := Try.prog) (tb := 4) (Ts := [82, 83]) (by kernel_rfl) Try.underlying4 laidOut (by kernel_rfl) rfl (fun ds hds => ?_) (by kernel_rfl) (by kernel_rfl) (fun xs hx => ?_) W base args ds gs before hval hW
  · rw [Try.params6] at hds
    match ds, hds with
    | [d0, d1, d2], _ => exact ⟨rfl, rfl, rfl⟩
  · rw [Try.params6] at hx
    obtain ⟨_, _, rfl, ⟨_, _, rfl, h0⟩, _, _, rfl, ⟨_, _, rfl, h1⟩, _, _, rfl, ⟨_, _, rfl, h2⟩, rfl⟩ := hx
    obtain ⟨v0, e0, w0⟩ := typ_I8s _ _ h0
    obtain ⟨m1, _, e1, w1⟩ := typ_int Try.underlying83 h1
    obtain ⟨m2, _, e2, w2⟩ := typ_int Try.underlying83 h2
    rw [e0, e1, e2]
    exact VmFused_row v0 m1 m2 w0 (i8_wf w1) (i8_wf w2)

theorem over : Rows.vmFusedRow.holds Try.pinned (OpenSpec.ofChange Rows.vmFusedSpec) :=
  OpenClaim.holds_of_wide 6 Try.f6 rfl rfl rfl rfl rfl rfl rfl ⟨rfl, rfl, rfl, rfl, rfl⟩ rfl rfl rfl rfl rfl (by kernel_rfl) Try.func6 (by kernel_rfl)
    (of_decide_eq_true (by kernel_rfl)) (by unfold Func.isWrapper; first | (rw [if_pos (by decide +kernel)]; kernel_rfl) | (rw [if_neg (by decide +kernel)]; exact ⟨rfl, rfl⟩))
    (fun os started H enc _ => lifted os started H enc)

end Go.Proofs.Ytjendohiohhciaa.vmFused

namespace Go.Proofs.Ytjendohiohhciaa
theorem vmFused_holds : Rows.VmFusedSaid := vmFused.over
end Go.Proofs.Ytjendohiohhciaa
