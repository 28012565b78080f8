/- The law OpFields returns true for every input, and leaves its arguments as they were. No condition. -/
import Derived.Test.YtklnalofcjagnaaRows
import Derived.Test.YtklnalofcjagnaaA3
import Derived.Test.YtklnalofcjagnaaZSpFields
import Derived.Test.YtklnalofcjagnaaZSpRowV
import Derived.WalkKit
namespace Go.Proofs.Ytklnalofcjagnaa.opFields
open Go Go.Abs

theorem own : ownKnob Try.prog.godebug = none := by kernel_rfl
theorem laidOut : laidOutB Try.prog = true := by kernel_rfl

set_option maxRecDepth 100000 in
theorem lifted (os : Os) (started : os.Started) (H : Type) (enc : TypeId × Value → H) :
    ReturnsInHanded {} Try.checked os 8 .any (Rows.opFieldsSpec.pre6 enc Try.prog Try.f8 Rows.opFieldsRow.domain false) (Rows.opFieldsSpec.post enc Try.prog Try.f8 false true false false) := by
  refine returnsInHanded_of_change (C := Try.checked) own started (by kernel_rfl) Try.func8
    (ChangeSpec.witness6 (enc := enc) (C := Try.checked) false ⟨#[], #[.int .u8 0, .int .u8 0], []⟩ 8 (by kernel_rfl) (by kernel_rfl) (by kernel_rfl) (by kernel_rfl)) ?_
  intro W base args ds gs before hval hW _ _
  refine law_contract (P := Try.prog) (tb := 4) (Ts := [5]) (by kernel_rfl) Try.underlying4 laidOut (by kernel_rfl) rfl (fun ds hds => ?_) (by kernel_rfl) (by kernel_rfl) (fun xs hx => ?_) W base args ds gs before hval hW
  · rw [Try.params8] at hds
    match ds, hds with
    | [d0, d1], _ => exact ⟨rfl, rfl, rfl⟩
  · rw [Try.params8] at hx
    obtain ⟨_, _, rfl, ⟨_, _, rfl, h0⟩, _, _, rfl, ⟨_, _, rfl, h1⟩, rfl⟩ := hx
    obtain ⟨m0, _, e0, w0⟩ := typ_int Try.underlying5 h0
    obtain ⟨m1, _, e1, w1⟩ := typ_int Try.underlying5 h1
    rw [e0, e1]
    exact OpFields_spec m0 m1 (u8_wf w0) (u8_wf w1)

theorem over : Rows.opFieldsRow.holds Try.pinned (OpenSpec.ofChange Rows.opFieldsSpec) :=
  OpenClaim.holds_of_wide 8 Try.f8 rfl rfl rfl rfl rfl rfl rfl ⟨rfl, rfl, rfl, rfl, rfl⟩ rfl rfl rfl rfl rfl (by kernel_rfl) Try.func8 (by kernel_rfl)
    (of_decide_eq_true (by kernel_rfl)) (by unfold Func.isWrapper; first | (rw [if_pos (by decide +kernel)]; kernel_rfl) | (rw [if_neg (by decide +kernel)]; exact ⟨rfl, rfl⟩))
    (fun os started H enc _ => lifted os started H enc)

end Go.Proofs.Ytklnalofcjagnaa.opFields

namespace Go.Proofs.Ytklnalofcjagnaa
theorem opFields_holds : Rows.OpFieldsSaid := opFields.over
end Go.Proofs.Ytklnalofcjagnaa
