/- What expressions come to: how great, and which errors. No program in sight. -/
import Derived.Test.YtijnpcociedigaaGreatDoorZPuEval
set_option linter.unusedSimpArgs false
set_option linter.unusedVariables false
namespace Go.Proofs.YtijnpcociedigaaGreatDoor
open Go Go.Abs

/-- No row of arguments is longer than so many, and no value greater. -/
inductive We (n : Nat) : Ex → Prop where
  | mk (op : List UInt8) (v : Va) (m : Int) (a : List Ex) (hv : Wv n v) (h : a.length ≤ n) (ho : ∀ e ∈ a, We n e) : We n (.mk op v m a)

theorem We.mono {n m : Nat} (hnm : n ≤ m) {e : Ex} (h : We n e) : We m e := by
  induction h with
  | mk op v k a hv h _ ih => exact .mk op v k a (hv.mono hnm) (by omega) ih

theorem wv_int {n : Nat} (m : Int) : Wv n (intV m) := .mk _ _ _ _ _ (by simp) (by simp) (by simp)

end Go.Proofs.YtijnpcociedigaaGreatDoor

