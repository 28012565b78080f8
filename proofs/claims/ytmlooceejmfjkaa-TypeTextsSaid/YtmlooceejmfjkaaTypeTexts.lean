/- The law TypeTexts returns true for every input, and leaves its arguments as they were. No condition. -/
import Derived.Test.YtmlooceejmfjkaaRows
import Derived.Test.YtmlooceejmfjkaaAbsRow
import Derived.Test.YtmlooceejmfjkaaSpLawC
import Derived.WalkKit
namespace Go.Proofs.Ytmlooceejmfjkaa.typeTexts
open Go Go.Abs

theorem own : ownKnob Try.prog.godebug = none := by kernel_rfl
theorem laidOut : laidOutB Try.prog = true := by kernel_rfl

set_option maxRecDepth 100000 in
theorem lifted (os : Os) (started : os.Started) (H : Type) (enc : TypeId × Value → H) :
    ReturnsInHanded {} Try.checked os 5 .any (Rows.typeTextsSpec.pre6 enc Try.prog Try.f5 Rows.typeTextsRow.domain false) (Rows.typeTextsSpec.post enc Try.prog Try.f5 false true false false) := by
  refine returnsInHanded_of_change (C := Try.checked) own started (by kernel_rfl) Try.func5
    (ChangeSpec.witness6 (enc := enc) (C := Try.checked) false ⟨#[], #[.string ⟨#[]⟩], []⟩ 8 (by kernel_rfl) (by kernel_rfl) (by kernel_rfl) (by kernel_rfl)) ?_
  intro W base args ds gs before hval hW _ _
  refine law_contract (P := Try.prog) (tb := 4) (Ts := [9]) (by kernel_rfl) Try.underlying4 laidOut (by kernel_rfl) rfl (fun ds hds => ?_) (by kernel_rfl) (by kernel_rfl) (fun xs hx => ?_) W base args ds gs before hval hW
  · rw [Try.params5] at hds
    match ds, hds with
    | [d0], _ => exact ⟨rfl, rfl, rfl⟩
  · rw [Try.params5] at hx
    obtain ⟨_, _, rfl, ⟨_, _, rfl, h0⟩, rfl⟩ := hx
    obtain ⟨s0, _, e0, w0⟩ := typ_str Try.underlying9 h0
    rw [e0]
    exact texts_spec s0

theorem over : Rows.typeTextsRow.holds Try.pinned (OpenSpec.ofChange Rows.typeTextsSpec) :=
  OpenClaim.holds_of_wide 5 Try.f5 rfl rfl rfl rfl rfl rfl rfl ⟨rfl, rfl, rfl, rfl, rfl⟩ rfl rfl rfl rfl rfl (by kernel_rfl) Try.func5 (by kernel_rfl)
    (of_decide_eq_true (by kernel_rfl)) (by unfold Func.isWrapper; first | (rw [if_pos (by decide +kernel)]; kernel_rfl) | (rw [if_neg (by decide +kernel)]; exact ⟨rfl, rfl⟩))
    (fun os started H enc _ => lifted os started H enc)

end Go.Proofs.Ytmlooceejmfjkaa.typeTexts

namespace Go.Proofs.Ytmlooceejmfjkaa
theorem typeTexts_holds : Rows.TypeTextsSaid := typeTexts.over
end Go.Proofs.Ytmlooceejmfjkaa
