/- The law EvalLazy returns true for every input, and leaves its arguments as they were. No condition. -/
import Derived.Test.YtiejfphchpcldaaRows
import Derived.Test.YtiejfphchpcldaaAbsRow
import Derived.Test.YtiejfphchpcldaaSpLaw6
import Derived.Test.YtiejfphchpcldaaSpRowV
import Derived.WalkKit
namespace Go.Proofs.Ytiejfphchpcldaa.evalLazy
open Go Go.Abs

theorem own : ownKnob Try.prog.godebug = none := by kernel_rfl
theorem laidOut : laidOutB Try.prog = true := by kernel_rfl

set_option maxRecDepth 100000 in
theorem lifted (os : Os) (started : os.Started) (H : Type) (enc : TypeId × Value → H) :
    ReturnsInHanded {} Try.checked os 5 .any (Rows.evalLazySpec.pre6 enc Try.prog Try.f5 Rows.evalLazyRow.domain false) (Rows.evalLazySpec.post enc Try.prog Try.f5 false true false false) := by
  refine returnsInHanded_of_change (C := Try.checked) own started (by kernel_rfl) Try.func5
    (ChangeSpec.witness6 (enc := enc) (C := Try.checked) false ⟨#[], #[.bool false, .bool false, .int .i64 0], []⟩ 8 (by kernel_rfl) (by kernel_rfl) (by kernel_rfl) (by kernel_rfl)) ?_
  intro W base args ds gs before hval hW _ _
  refine law_contract (P := Try.prog) (tb := 4) (Ts := [4, 2]) (by kernel_rfl) Try.underlying4 laidOut (by kernel_rfl) rfl (fun ds hds => ?_) (by kernel_rfl) (by kernel_rfl) (fun xs hx => ?_) W base args ds gs before hval hW
  · rw [Try.params5] at hds
    match ds, hds with
    | [d0, d1, d2], _ => exact ⟨rfl, rfl, rfl⟩
  · rw [Try.params5] at hx
    obtain ⟨_, _, rfl, ⟨_, _, rfl, h0⟩, _, _, rfl, ⟨_, _, rfl, h1⟩, _, _, rfl, ⟨_, _, rfl, h2⟩, rfl⟩ := hx
    obtain ⟨b0, _, e0⟩ := typ_bool Try.underlying4 h0
    obtain ⟨b1, _, e1⟩ := typ_bool Try.underlying4 h1
    obtain ⟨m2, _, e2, w2⟩ := typ_int Try.underlying2 h2
    rw [e0, e1, e2]
    exact EvalLazy_spec b0 b1 m2

theorem over : Rows.evalLazyRow.holds Try.pinned (OpenSpec.ofChange Rows.evalLazySpec) :=
  OpenClaim.holds_of_wide 5 Try.f5 rfl rfl rfl rfl rfl rfl rfl ⟨rfl, rfl, rfl, rfl, rfl⟩ rfl rfl rfl rfl rfl (by kernel_rfl) Try.func5 (by kernel_rfl)
    (of_decide_eq_true (by kernel_rfl)) (by unfold Func.isWrapper; first | (rw [if_pos (by decide +kernel)]; kernel_rfl) | (rw [if_neg (by decide +kernel)]; exact ⟨rfl, rfl⟩))
    (fun os started H enc _ => lifted os started H enc)

end Go.Proofs.Ytiejfphchpcldaa.evalLazy

namespace Go.Proofs.Ytiejfphchpcldaa
theorem evalLazy_holds : Rows.EvalLazySaid := evalLazy.over
end Go.Proofs.Ytiejfphchpcldaa
