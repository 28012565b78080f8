/- The law VmPlain returns true for every input, and leaves its arguments as they were. No condition. -/
import Derived.Test.YtjendohiohhciaaRows
import Derived.Test.YtjendohiohhciaaA3
import Derived.Test.YtjendohiohhciaaZSpPlain
import Derived.Test.YtjendohiohhciaaZSpRowV
import Derived.Test.YtjendohiohhciaaZSpRowN
import Derived.WalkKit
namespace Go.Proofs.Ytjendohiohhciaa.vmPlain
open Go Go.Abs

theorem own : ownKnob Try.prog.godebug = none := by kernel_rfl
theorem laidOut : laidOutB Try.prog = true := by kernel_rfl

set_option maxRecDepth 100000 in
theorem lifted (os : Os) (started : os.Started) (H : Type) (enc : TypeId × Value → H) :
    ReturnsInHanded {} Try.checked os 7 .any (Rows.vmPlainSpec.pre6 enc Try.prog Try.f7 Rows.vmPlainRow.domain false) (Rows.vmPlainSpec.post enc Try.prog Try.f7 false true false false) := by
  refine returnsInHanded_of_change (C := Try.checked) own started (by kernel_rfl) Try.func7
    (ChangeSpec.witness6 (enc := enc) (C := Try.checked) false ⟨#[], #[.slice none 0 0, .slice none 0 0], []⟩ 8 (by kernel_rfl) (by kernel_rfl) (by kernel_rfl) (by kernel_rfl)) ?_
  intro W base args ds gs before hval hW _ _
  refine law_contract (P := Try.prog) (tb := 4) (Ts := [28, 3, 2, 4, 9, 26, 61, 5]) (by kernel_rfl) Try.underlying4 laidOut (by kernel_rfl) rfl (fun ds hds => ?_) (by kernel_rfl) (by kernel_rfl) (fun xs hx => ?_) W base args ds gs before hval hW
  · rw [Try.params7] at hds
    match ds, hds with
    | [d0, d1], _ => exact ⟨rfl, rfl, rfl⟩
  · rw [Try.params7] at hx
    obtain ⟨_, _, rfl, ⟨_, _, rfl, h0⟩, _, _, rfl, ⟨_, _, rfl, h1⟩, rfl⟩ := hx
    obtain ⟨v0, e0, w0⟩ := typ_Vs _ _ h0
    obtain ⟨v1, e1, w1⟩ := typ_U8s _ _ h1
    rw [e0, e1]
    exact VmPlain_row v0 v1 w0 w1

theorem over : Rows.vmPlainRow.holds Try.pinned (OpenSpec.ofChange Rows.vmPlainSpec) :=
  OpenClaim.holds_of_wide 7 Try.f7 rfl rfl rfl rfl rfl rfl rfl ⟨rfl, rfl, rfl, rfl, rfl⟩ rfl rfl rfl rfl rfl (by kernel_rfl) Try.func7 (by kernel_rfl)
    (of_decide_eq_true (by kernel_rfl)) (by unfold Func.isWrapper; first | (rw [if_pos (by decide +kernel)]; kernel_rfl) | (rw [if_neg (by decide +kernel)]; exact ⟨rfl, rfl⟩))
    (fun os started H enc _ => lifted os started H enc)

end Go.Proofs.Ytjendohiohhciaa.vmPlain

namespace Go.Proofs.Ytjendohiohhciaa
theorem vmPlain_holds : Rows.VmPlainSaid := vmPlain.over
end Go.Proofs.Ytjendohiohhciaa
