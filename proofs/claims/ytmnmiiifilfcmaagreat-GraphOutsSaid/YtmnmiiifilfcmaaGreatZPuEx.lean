/- Small expressions. No program in sight. -/
import Derived.Test.YtmnmiiifilfcmaaGreatZSpExpr
set_option linter.unusedSimpArgs false
set_option linter.unusedVariables false
namespace Go.Proofs.YtmnmiiifilfcmaaGreat
open Go Go.Abs

abbrev eX : Ex := .mk oX zeroV 0 []
abbrev eL (v : Va) : Ex := .mk oLit v 0 []
abbrev e2 (op : List UInt8) (a b : Ex) : Ex := .mk op zeroV 0 [a, b]

theorem we_x {n : Nat} : We n eX := .mk _ _ _ _ (by simp) (by simp) (by simp)
theorem we_l {n : Nat} {v : Va} (h : Wv n v) : We n (eL v) := .mk _ _ _ _ h (by simp) (by simp)
theorem we_2 {op : List UInt8} {a b : Ex} (ha : We 1000000000 a) (hb : We 1000000000 b) : We 1000000000 (e2 op a b) := .mk _ _ _ _ (by simp) (by simp) (by simp [ha, hb])

theorem of_intV (n : Int) : Of (intV n) (plainT 1) := of_int n

end Go.Proofs.YtmnmiiifilfcmaaGreat
