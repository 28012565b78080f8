/- What strings.Compare answers, over trees. -/
import Derived.Test.YtgfnodmghaghpaaDoorS1
import Derived.Test.YtgfnodmghaghpaaDoorZPuVal
import Derived.Lib.Strings
import Derived.Lib.Slices
import Derived.Lib.Walk
import Derived.Lib.Bytealg
set_option linter.unusedSimpArgs false
set_option linter.unusedVariables false
namespace Go.Proofs.YtgfnodmghaghpaaDoor
open Go Go.RowKit Go.Abs

set_option maxHeartbeats 1000000 in
set_option maxRecDepth 100000 in
theorem bytealg_CompareString (a b : ByteArray) (w : World) :
    Calls Tryd.prog 65 #[.string a, .string b] w fun e w' => e = .returned (.int .i64 (Lib.compareBytes a.data.toList b.data.toList)) ∧ w' = w := by
  go_enter Tryd.func65, Tryd.ntmps65
  go_wp2
  rw [run_callFunc_extern Tryd.func77 (by kernel_rfl) (by kernel_rfl) (by kernel_rfl) (e := Extern.BytealgCompare.compare) (by kernel_rfl), Lib.run_compareString]
  simp only [Result.andThen]
  rw [Oper.upon_value]
  go_wp2
  go_ret
  exact ⟨rfl, rfl⟩

theorem cmpB_eq : ∀ a b : List UInt8, Lib.compareBytes a b = cmpS a b
  | [], [] => by simp [Lib.compareBytes, cmpS, Op.bytesLess]
  | [], _ :: _ => by simp [Lib.compareBytes, cmpS, Op.bytesLess]
  | _ :: _, [] => by simp [Lib.compareBytes, cmpS, Op.bytesLess]
  | a :: r, b :: q => by
    have ih := cmpB_eq r q
    simp only [Lib.compareBytes, ih, cmpS, Op.bytesLess, List.cons.injEq]
    by_cases h1 : a < b
    · simp [h1]
    · by_cases h2 : b < a
      · have : a ≠ b := by rintro rfl; exact h1 h2
        simp [h1, h2, this]
      · have : a = b := by
          have := UInt8.le_antisymm (UInt8.not_lt.1 h2) (UInt8.not_lt.1 h1)
          exact this
        subst this
        simp [h1]

theorem cmpStr_spec (a b : List UInt8) : Abs.Fn Tryd.prog strings_Compare_i [] [.p (.str a), .p (.str b)] (.p (.int .i64 (cmpS a b))) [] := by
  have h0 : Abs.Fn Tryd.prog internal_bytealg_CompareString_i [] [.p (.str a), .p (.str b)] (.p (.int .i64 (cmpS a b))) [] := by
    refine fn_below (by kernel_rfl) (fun w G vs hi hv => ?_)
    obtain ⟨hsz, hv⟩ := hv
    have h0 := repA_p.1 (hv 0 _ rfl)
    have h1 := repA_p.1 (hv 1 _ rfl)
    obtain ⟨v0, v1, rfl⟩ : ∃ v0 v1, vs = #[v0, v1] := by
      obtain ⟨l⟩ := vs
      match l, hsz with
      | [a, b], _ => exact ⟨a, b, rfl⟩
    replace h0 : RepT G.rd _ v0 := h0
    replace h1 : RepT G.rd _ v1 := h1
    obtain ⟨rfl, _⟩ := repT_str.1 h0
    obtain ⟨rfl, _⟩ := repT_str.1 h1
    refine (bytealg_CompareString _ _ w).mono ?_
    rintro e w' ⟨rfl, rfl⟩
    exact ⟨_, rfl, by rw [cmpB_eq]; exact .p _ _ (.int _ _), Below.refl _ _⟩
  apply strings_Compare_fn
  simp [strings_Compare]
  exact aCall_p rfl h0 (gives_p rfl)

end Go.Proofs.YtgfnodmghaghpaaDoor
