/- The law VmLazy returns true for every input, and leaves its arguments as they were. No condition. -/
import Derived.Test.YtjendohiohhciaaRows
import Derived.Test.YtjendohiohhciaaA3
import Derived.Test.YtjendohiohhciaaZSpLazy
import Derived.Test.YtjendohiohhciaaZSpRowN
import Derived.WalkKit
namespace Go.Proofs.Ytjendohiohhciaa.vmLazy
open Go Go.Abs

theorem own : ownKnob Try.prog.godebug = none := by kernel_rfl
theorem laidOut : laidOutB Try.prog = true := by kernel_rfl

set_option maxRecDepth 100000 in
theorem lifted (os : Os) (started : os.Started) (H : Type) (enc : TypeId × Value → H) :
    ReturnsInHanded {} Try.checked os 8 .any (Rows.vmLazySpec.pre6 enc Try.prog Try.f8 Rows.vmLazyRow.domain false) (Rows.vmLazySpec.post enc Try.prog Try.f8 false true false false) := by
  refine returnsInHanded_of_change (C := Try.checked) own started (by kernel_rfl) Try.func8
    (ChangeSpec.witness6 (enc := enc) (C := Try.checked) false ⟨#[], #[.slice none 0 0, .int .i64 0], []⟩ 8 (by kernel_rfl) (by kernel_rfl) (by kernel_rfl) (by kernel_rfl)) ?_
  intro W base args ds gs before hval hW _ _
  refine law_contract (P := Try.prog) (tb := 4) (Ts := [61, 5, 2]) (by kernel_rfl) Try.underlying4 laidOut (by kernel_rfl) rfl (fun ds hds => ?_) (by kernel_rfl) (by kernel_rfl) (fun xs hx => ?_) W base args ds gs before hval hW
  · rw [Try.params8] at hds
    match ds, hds with
    | [d0, d1], _ => exact ⟨rfl, rfl, rfl⟩
  · rw [Try.params8] at hx
    obtain ⟨_, _, rfl, ⟨_, _, rfl, h0⟩, _, _, rfl, ⟨_, _, rfl, h1⟩, rfl⟩ := hx
    obtain ⟨v0, e0, w0⟩ := typ_U8s _ _ h0
    obtain ⟨m1, _, e1, w1⟩ := typ_int Try.underlying2 h1
    rw [e0, e1]
    exact VmLazy_spec v0 m1 w0

theorem over : Rows.vmLazyRow.holds Try.pinned (OpenSpec.ofChange Rows.vmLazySpec) :=
  OpenClaim.holds_of_wide 8 Try.f8 rfl rfl rfl rfl rfl rfl rfl ⟨rfl, rfl, rfl, rfl, rfl⟩ rfl rfl rfl rfl rfl (by kernel_rfl) Try.func8 (by kernel_rfl)
    (of_decide_eq_true (by kernel_rfl)) (by unfold Func.isWrapper; first | (rw [if_pos (by decide +kernel)]; kernel_rfl) | (rw [if_neg (by decide +kernel)]; exact ⟨rfl, rfl⟩))
    (fun os started H enc _ => lifted os started H enc)

end Go.Proofs.Ytjendohiohhciaa.vmLazy

namespace Go.Proofs.Ytjendohiohhciaa
theorem vmLazy_holds : Rows.VmLazySaid := vmLazy.over
end Go.Proofs.Ytjendohiohhciaa
