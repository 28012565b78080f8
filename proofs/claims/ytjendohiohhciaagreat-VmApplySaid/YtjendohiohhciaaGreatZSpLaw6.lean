/- The laws of the package runnellaw6: known, EvalNums, EvalLazy. -/
import Derived.Test.YtjendohiohhciaaGreatZSpExprB
import Derived.Test.YtjendohiohhciaaGreatZSpEvalC

set_option linter.unusedSimpArgs false
set_option linter.unusedVariables false
namespace Go.Proofs.YtjendohiohhciaaGreat
open Go Go.Abs

attribute [local irreducible] Abs.Fn

def evR (e : Ex) (x : Va) : R Va := (evE e x).getD (.er 0)
theorem cmpV_int (a b : Int) : cmpV (.mk 1 a false [] []) (.mk 1 b false [] []) = cmpI a b := by
  have h1 : cmpI 1 1 = 0 := by rfl
  have h2 : cmpI (truthI false) (truthI false) = 0 := by rfl
  have h3 : cmpS [] [] = 0 := by rfl
  simp only [cmpV, orI, cmpVs, h1, h2, h3, ne_eq, not_true, if_false]
  by_cases h : cmpI a b = 0 <;> simp [h]
theorem cmpI_lt (a b : Int) : cmpI a b < 0 ↔ a < b := by
  unfold cmpI
  split
  · simp; omega
  · split <;> simp <;> omega
theorem cmp_int (a b : Int) : cmpV (.mk 1 a false [] []) (.mk 1 b false [] []) < 0 ↔ a < b := by rw [cmpV_int, cmpI_lt]

theorem div_back (a b : Int) (ha : -9223372036854775808 ≤ a ∧ a ≤ 9223372036854775807) : IntKind.i64.wrap (IntKind.i64.wrap (w64 (a.tdiv b) * b) + a.tmod b) = a := by
  have h0 := Int.tdiv_mul_add_tmod a b
  obtain ⟨k, hk⟩ : ∃ k : Int, w64 (a.tdiv b) = a.tdiv b + 18446744073709551616 * k := by
    refine ⟨(w64 (a.tdiv b) - a.tdiv b) / 18446744073709551616, ?_⟩
    unfold w64
    rw [IntKind.wrap_i64]
    omega
  rw [hk, Int.add_mul, Int.mul_assoc]
  generalize a.tdiv b * b = p at h0
  generalize a.tmod b = m at h0
  generalize k * b = kb
  rw [IntKind.wrap_i64, IntKind.wrap_i64]
  omega

theorem tmod_sign (a b : Int) : (decide (a.tmod b = 0) || decide (a.tmod b < 0) == decide (a < 0)) = true := by
  by_cases h : a.tmod b = 0
  · simp [h]
  · by_cases ha : a < 0
    · have h1 := Int.tmod_nonneg (a := -a) b (by omega)
      rw [Int.neg_tmod] at h1
      have : a.tmod b < 0 := by omega
      simp [this, ha]
    · have h1 := Int.tmod_nonneg (a := a) b (by omega)
      simp [h, ha]
      omega

theorem wrap_zero : IntKind.i64.wrap 0 = 0 := by rfl

end Go.Proofs.YtjendohiohhciaaGreat
