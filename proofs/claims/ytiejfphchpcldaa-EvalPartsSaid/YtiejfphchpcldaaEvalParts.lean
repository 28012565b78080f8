/- The law EvalParts returns true for every input, and leaves its arguments as they were. No condition. -/
import Derived.Test.YtiejfphchpcldaaRows
import Derived.Test.YtiejfphchpcldaaAbsRow
import Derived.Test.YtiejfphchpcldaaSpLaw6B
import Derived.Test.YtiejfphchpcldaaSpRowV
import Derived.WalkKit
namespace Go.Proofs.Ytiejfphchpcldaa.evalParts
open Go Go.Abs

theorem own : ownKnob Try.prog.godebug = none := by kernel_rfl
theorem laidOut : laidOutB Try.prog = true := by kernel_rfl

set_option maxRecDepth 100000 in
theorem lifted (os : Os) (started : os.Started) (H : Type) (enc : TypeId × Value → H) :
    ReturnsInHanded {} Try.checked os 7 .any (Rows.evalPartsSpec.pre6 enc Try.prog Try.f7 Rows.evalPartsRow.domain false) (Rows.evalPartsSpec.post enc Try.prog Try.f7 false true false false) := by
  refine returnsInHanded_of_change (C := Try.checked) own started (by kernel_rfl) Try.func7
    (ChangeSpec.witness6 (enc := enc) (C := Try.checked) false ⟨#[], #[.slice none 0 0], []⟩ 8 (by kernel_rfl) (by kernel_rfl) (by kernel_rfl) (by kernel_rfl)) ?_
  intro W base args ds gs before hval hW _ _
  refine law_contract (P := Try.prog) (tb := 4) (Ts := [24, 3, 2, 4, 9, 22]) (by kernel_rfl) Try.underlying4 laidOut (by kernel_rfl) rfl (fun ds hds => ?_) (by kernel_rfl) (by kernel_rfl) (fun xs hx => ?_) W base args ds gs before hval hW
  · rw [Try.params7] at hds
    match ds, hds with
    | [d0], _ => exact ⟨rfl, rfl, rfl⟩
  · rw [Try.params7] at hx
    obtain ⟨_, _, rfl, ⟨_, _, rfl, h0⟩, rfl⟩ := hx
    obtain ⟨v0, e0, w0⟩ := typ_Vs _ _ h0
    rw [e0]
    exact EvalParts_spec v0

theorem over : Rows.evalPartsRow.holds Try.pinned (OpenSpec.ofChange Rows.evalPartsSpec) :=
  OpenClaim.holds_of_wide 7 Try.f7 rfl rfl rfl rfl rfl rfl rfl ⟨rfl, rfl, rfl, rfl, rfl⟩ rfl rfl rfl rfl rfl (by kernel_rfl) Try.func7 (by kernel_rfl)
    (of_decide_eq_true (by kernel_rfl)) (by unfold Func.isWrapper; first | (rw [if_pos (by decide +kernel)]; kernel_rfl) | (rw [if_neg (by decide +kernel)]; exact ⟨rfl, rfl⟩))
    (fun os started H enc _ => lifted os started H enc)

end Go.Proofs.Ytiejfphchpcldaa.evalParts

namespace Go.Proofs.Ytiejfphchpcldaa
theorem evalParts_holds : Rows.EvalPartsSaid := evalParts.over
end Go.Proofs.Ytiejfphchpcldaa
