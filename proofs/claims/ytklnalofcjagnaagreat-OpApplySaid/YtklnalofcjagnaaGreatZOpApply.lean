/- The law OpApply returns true for every input, and leaves its arguments as they were. No condition. -/
import Derived.Test.YtklnalofcjagnaaGreatRows
import Derived.Test.YtklnalofcjagnaaGreatA3
import Derived.Test.YtklnalofcjagnaaGreatZSpOpApply
import Derived.Test.YtklnalofcjagnaaGreatZSpRowO
import Derived.WalkKit
namespace Go.Proofs.YtklnalofcjagnaaGreat.opApply
open Go Go.Abs

theorem own : ownKnob Tryz.prog.godebug = none := by kernel_rfl
theorem laidOut : laidOutB Tryz.prog = true := by kernel_rfl

set_option maxRecDepth 100000 in
theorem lifted (os : Os) (started : os.Started) (H : Type) (enc : TypeId × Value → H) :
    ReturnsInHanded {} Tryz.checked os 3 .any (Rows.opApplySpec.pre6 enc Tryz.prog Tryz.f3 Rows.opApplyRow.domain false) (Rows.opApplySpec.post enc Tryz.prog Tryz.f3 false true false false) := by
  refine returnsInHanded_of_change (C := Tryz.checked) own started (by kernel_rfl) Tryz.func3
    (ChangeSpec.witness6 (enc := enc) (C := Tryz.checked) false ⟨#[], #[.agg #[.int .i64 0, .string ⟨#[]⟩, .int .i64 0, .slice none 0 0, .slice none 0 0, .string ⟨#[]⟩, .int .i64 0, .int .i64 0, .bool false, .string ⟨#[]⟩, .slice none 0 0, .int .i64 0, .slice none 0 0, .int .i64 0, .int .i64 0], .agg #[.int .i64 0, .int .i64 0, .bool false, .string ⟨#[]⟩, .slice none 0 0]], []⟩ 8 (by kernel_rfl) (by kernel_rfl) (by kernel_rfl) (by kernel_rfl)) ?_
  intro W base args ds gs before hval hW _ _
  refine law_contract (P := Tryz.prog) (tb := 4) (Ts := [32, 30, 25, 28, 3, 2, 4, 9, 26, 24, 22]) (by kernel_rfl) Tryz.underlying4 laidOut (by kernel_rfl) rfl (fun ds hds => ?_) (by kernel_rfl) (by kernel_rfl) (fun xs hx => ?_) W base args ds gs before hval hW
  · rw [Tryz.params3] at hds
    match ds, hds with
    | [d0, d1], _ => exact ⟨rfl, rfl, rfl⟩
  · rw [Tryz.params3] at hx
    obtain ⟨_, _, rfl, ⟨_, _, rfl, h0⟩, _, _, rfl, ⟨_, _, rfl, h1⟩, rfl⟩ := hx
    obtain ⟨v0, _, e0, w0⟩ := typ_O _ _ h0
    obtain ⟨v1, _, e1, w1⟩ := typ_V _ _ h1
    rw [e0, e1]
    exact OpApply_spec v0 v1

theorem over : Rows.opApplyRow.holds Tryz.pinned (OpenSpec.ofChange Rows.opApplySpec) :=
  OpenClaim.holds_of_wide 3 Tryz.f3 rfl rfl rfl rfl rfl rfl rfl ⟨rfl, rfl, rfl, rfl, rfl⟩ rfl rfl rfl rfl rfl (by kernel_rfl) Tryz.func3 (by kernel_rfl)
    (of_decide_eq_true (by kernel_rfl)) (by unfold Func.isWrapper; first | (rw [if_pos (by decide +kernel)]; kernel_rfl) | (rw [if_neg (by decide +kernel)]; exact ⟨rfl, rfl⟩))
    (fun os started H enc _ => lifted os started H enc)

end Go.Proofs.YtklnalofcjagnaaGreat.opApply

namespace Go.Proofs.YtklnalofcjagnaaGreat
theorem opApply_holds : Rows.OpApplySaid := opApply.over
end Go.Proofs.YtklnalofcjagnaaGreat
