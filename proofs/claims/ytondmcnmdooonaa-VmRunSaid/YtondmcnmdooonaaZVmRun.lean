/- The law VmRun returns true for every input, and leaves its arguments as they were. No condition. -/
import Derived.Test.YtondmcnmdooonaaRows
import Derived.Test.YtondmcnmdooonaaA3
import Derived.Test.YtondmcnmdooonaaZSpVmRun
import Derived.Test.YtondmcnmdooonaaZSpRowP
import Derived.WalkKit
namespace Go.Proofs.Ytondmcnmdooonaa.vmRun
open Go Go.Abs

theorem own : ownKnob Try.prog.godebug = none := by kernel_rfl
theorem laidOut : laidOutB Try.prog = true := by kernel_rfl

set_option maxRecDepth 100000 in
theorem lifted (os : Os) (started : os.Started) (H : Type) (enc : TypeId × Value → H) :
    ReturnsInHanded {} Try.checked os 3 .any (Rows.vmRunSpec.pre6 enc Try.prog Try.f3 Rows.vmRunRow.domain false) (Rows.vmRunSpec.post enc Try.prog Try.f3 false true false false) := by
  refine returnsInHanded_of_change (C := Try.checked) own started (by kernel_rfl) Try.func3
    (ChangeSpec.witness6 (enc := enc) (C := Try.checked) false ⟨#[], #[.slice none 0 0, .agg #[.int .i64 0, .int .i64 0, .bool false, .string ⟨#[]⟩, .slice none 0 0]], []⟩ 8 (by kernel_rfl) (by kernel_rfl) (by kernel_rfl) (by kernel_rfl)) ?_
  intro W base args ds gs before hval hW _ _
  refine law_contract (P := Try.prog) (tb := 4) (Ts := [50, 22, 23, 26, 3, 2, 4, 9, 24]) (by kernel_rfl) Try.underlying4 laidOut (by kernel_rfl) rfl (fun ds hds => ?_) (by kernel_rfl) (by kernel_rfl) (fun xs hx => ?_) W base args ds gs before hval hW
  · rw [Try.params3] at hds
    match ds, hds with
    | [d0, d1], _ => exact ⟨rfl, rfl, rfl⟩
  · rw [Try.params3] at hx
    obtain ⟨_, _, rfl, ⟨_, _, rfl, h0⟩, _, _, rfl, ⟨_, _, rfl, h1⟩, rfl⟩ := hx
    obtain ⟨v0, e0, w0⟩ := typ_P _ _ h0
    obtain ⟨v1, _, e1, w1⟩ := typ_V _ _ h1
    rw [e0, e1]
    exact VmRun_spec v0 v1

theorem over : Rows.vmRunRow.holds Try.pinned (OpenSpec.ofChange Rows.vmRunSpec) :=
  OpenClaim.holds_of_wide 3 Try.f3 rfl rfl rfl rfl rfl rfl rfl ⟨rfl, rfl, rfl, rfl, rfl⟩ rfl rfl rfl rfl rfl (by kernel_rfl) Try.func3 (by kernel_rfl)
    (of_decide_eq_true (by kernel_rfl)) (by unfold Func.isWrapper; first | (rw [if_pos (by decide +kernel)]; kernel_rfl) | (rw [if_neg (by decide +kernel)]; exact ⟨rfl, rfl⟩))
    (fun os started H enc _ => lifted os started H enc)

end Go.Proofs.Ytondmcnmdooonaa.vmRun

namespace Go.Proofs.Ytondmcnmdooonaa
theorem vmRun_holds : Rows.VmRunSaid := vmRun.over
end Go.Proofs.Ytondmcnmdooonaa
