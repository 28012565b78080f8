/- The law ExprTwo returns true for every input, and leaves its arguments as they were. No condition. -/
import Derived.Test.YtiejfphchpcldaaRows
import Derived.Test.YtiejfphchpcldaaAbsRow
import Derived.Test.YtiejfphchpcldaaSpTwo
import Derived.Test.YtiejfphchpcldaaSpRowE
import Derived.Test.YtiejfphchpcldaaSpRowT
import Derived.WalkKit
namespace Go.Proofs.Ytiejfphchpcldaa.exprTwo
open Go Go.Abs

theorem own : ownKnob Try.prog.godebug = none := by kernel_rfl
theorem laidOut : laidOutB Try.prog = true := by kernel_rfl

set_option maxRecDepth 100000 in
theorem lifted (os : Os) (started : os.Started) (H : Type) (enc : TypeId × Value → H) :
    ReturnsInHanded {} Try.checked os 12 .any (Rows.exprTwoSpec.pre6 enc Try.prog Try.f12 Rows.exprTwoRow.domain false) (Rows.exprTwoSpec.post enc Try.prog Try.f12 false true false false) := by
  refine returnsInHanded_of_change (C := Try.checked) own started (by kernel_rfl) Try.func12
    (ChangeSpec.witness6 (enc := enc) (C := Try.checked) false ⟨#[], #[.int .u8 0, .agg #[.int .i64 0, .slice none 0 0], .agg #[.int .i64 0, .slice none 0 0]], []⟩ 8 (by kernel_rfl) (by kernel_rfl) (by kernel_rfl) (by kernel_rfl)) ?_
  intro W base args ds gs before hval hW _ _
  refine law_contract (P := Try.prog) (tb := 4) (Ts := [5, 80, 78, 3]) (by kernel_rfl) Try.underlying4 laidOut (by kernel_rfl) rfl (fun ds hds => ?_) (by kernel_rfl) (by kernel_rfl) (fun xs hx => ?_) W base args ds gs before hval hW
  · rw [Try.params12] at hds
    match ds, hds with
    | [d0, d1, d2], _ => exact ⟨rfl, rfl, rfl⟩
  · rw [Try.params12] at hx
    obtain ⟨_, _, rfl, ⟨_, _, rfl, h0⟩, _, _, rfl, ⟨_, _, rfl, h1⟩, _, _, rfl, ⟨_, _, rfl, h2⟩, rfl⟩ := hx
    obtain ⟨m0, _, e0, w0⟩ := typ_int Try.underlying5 h0
    obtain ⟨v1, _, e1, w1⟩ := typ_T _ _ h1
    obtain ⟨v2, _, e2, w2⟩ := typ_T _ _ h2
    rw [e0, e1, e2]
    exact ExprTwo_spec m0 (u8_wf w0) v1 v2

theorem over : Rows.exprTwoRow.holds Try.pinned (OpenSpec.ofChange Rows.exprTwoSpec) :=
  OpenClaim.holds_of_wide 12 Try.f12 rfl rfl rfl rfl rfl rfl rfl ⟨rfl, rfl, rfl, rfl, rfl⟩ rfl rfl rfl rfl rfl (by kernel_rfl) Try.func12 (by kernel_rfl)
    (of_decide_eq_true (by kernel_rfl)) (by unfold Func.isWrapper; first | (rw [if_pos (by decide +kernel)]; kernel_rfl) | (rw [if_neg (by decide +kernel)]; exact ⟨rfl, rfl⟩))
    (fun os started H enc _ => lifted os started H enc)

end Go.Proofs.Ytiejfphchpcldaa.exprTwo

namespace Go.Proofs.Ytiejfphchpcldaa
theorem exprTwo_holds : Rows.ExprTwoSaid := exprTwo.over
end Go.Proofs.Ytiejfphchpcldaa
