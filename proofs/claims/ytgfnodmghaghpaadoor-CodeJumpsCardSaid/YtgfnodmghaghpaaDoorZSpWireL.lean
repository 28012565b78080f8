/- The package wire's reading of a value; the laws of the package runnellaw3. -/
import Derived.Test.YtgfnodmghaghpaaDoorZSpWireO
import Derived.Test.YtgfnodmghaghpaaDoorZSpWireR
import Derived.Test.YtgfnodmghaghpaaDoorZSpValB

set_option linter.unusedSimpArgs false
set_option linter.unusedVariables false
namespace Go.Proofs.YtgfnodmghaghpaaDoor
open Go Go.Abs

attribute [local irreducible] Abs.Fn

theorem Get_ok (v : Va) (rest : List Nat) (hc : checkV v 0 = 0) (hi : V64 v) (hb : ∀ c ∈ rest, c < 256) (hl : (putB v ++ rest).length ≤ 100000000) : Abs.Fn Tryd.prog wire_Get_i [] [.p (.slice (byT (putB v ++ rest)))] (.tup [.p (encV v), .p (.int .i64 (putB v).length), .p (.int .i64 0)]) [] := by
  have hv := value_ok v 0 (putB v ++ rest) 0 rest hc hi (fun c h => by
    rcases List.mem_append.1 h with h | h
    · exact putB_lt v 0 hc c h
    · exact hb c h) hl (by simp) (by omega)
  apply wire_Get_fn
  simp [wire_Get]
  simp at hv
  refine aCallF_of [1] hv rfl (by simp [renF]) (by simp) (by simp [framed, renF]) (by simp [AV.under, AV.under1]) (by simp [Ob.below, AV.under1]) ?_
  simp [renF, frameH, setAll]
  exact gives_pure (by simp [AV.pur, toTs])

theorem Get_er (v : Va) (m : Nat) (hc : checkV v 0 = 0) (hi : V64 v) (hm : m < (putB v).length) (hl : (putB v).length ≤ 100000000) : Abs.Fn Tryd.prog wire_Get_i [] [.p (.slice (byT ((putB v).take m)))] (.tup [.p (encV zeroV), .p (.int .i64 0), .p (.int .i64 3)]) [] := by
  obtain ⟨r, a, hv⟩ := value_er v 0 ((putB v).take m) 0 m hc hi (fun c h => putB_lt v 0 hc c (List.mem_of_mem_take h)) (by simp; omega) (by simp) hm (by simp) (by omega)
  apply wire_Get_fn
  simp [wire_Get]
  simp at hv
  refine aCallF_of [1] hv rfl (by simp [renF]) (by simp) (by simp [framed, renF]) (by simp [AV.under, AV.under1]) (by simp [Ob.below, AV.under1]) ?_
  simp [renF, frameH, setAll]
  exact gives_pure (by simp [AV.pur, toTs])

theorem numB300 : numB 300 = [172, 2] := by rw [num_step (by omega), num_end (by omega)]
theorem numB2 : numB 2 = [2] := num_end (by omega)
theorem numB5 : numB 5 = [5] := num_end (by omega)

/-- A tuple: minus three, two letters. -/
abbrev kV : Va := .mk 4 0 false [] [.mk 1 (-3) false [] [], .mk 3 0 false [97, 98] []]
theorem kV_bytes : putB kV = [4, 2, 1, 5, 3, 2, 97, 98] := by
  have h5 : zig (-3) = 5 := by rfl
  simp [putB, putBs, h5, numB5, numB2]
theorem kV_64 : V64 kV := .mk _ _ _ _ _ (by omega) (by
  intro v hv
  simp only [List.mem_cons, List.not_mem_nil, or_false] at hv
  rcases hv with rfl | rfl
  · exact .mk _ _ _ _ _ (by omega) (by simp)
  · exact .mk _ _ _ _ _ (by omega) (by simp))

mutual
theorem put_len : ∀ (v : Va) (n : Nat) (d : Int), checkV v d = 0 → V64 v → d + n = 5 → (putB v).length ≤ 300 * 10 ^ n
  | .mk k i b s t, n, d, hc, hi, hd => by
    cases hi with
    | mk _ _ _ _ _ hr ho =>
    have z1 := zig_lt hr
    have h1 : 1 ≤ 10 ^ n := Nat.one_le_pow _ _ (by omega)
    rcases good_cases hc with ⟨rfl, rfl, rfl, rfl⟩ | ⟨rfl, rfl, rfl, rfl⟩ | ⟨rfl, rfl, rfl, rfl, hsl⟩ | ⟨rfl, rfl, rfl, rfl, hrow, hck⟩
    · have := numB_len64 z1
      simp [putB]; omega
    · simp [putB]; omega
    · have := numB_len64 (n := s.length) (by omega)
      simp [putB]; omega
    · have hlen := row_len hrow
      have hd4 : d ≤ 4 := by
        unfold rowE at hrow
        repeat' split at hrow
        all_goals omega
      obtain ⟨n, rfl⟩ : ∃ m, n = m + 1 := ⟨n - 1, by omega⟩
      have hs := puts_len t n (d + 1) hck ho (by omega)
      have h2 : t.length * (300 * 10 ^ n) ≤ 8 * (300 * 10 ^ n) := Nat.mul_le_mul_right _ (by omega)
      have h3 : 1 ≤ 10 ^ n := Nat.one_le_pow _ _ (by omega)
      rw [Nat.pow_succ]
      simp [putB]
      omega
theorem puts_len : ∀ (l : List Va) (n : Nat) (d : Int), checkVs l d = 0 → (∀ v ∈ l, V64 v) → d + n = 5 → (putBs l).length ≤ l.length * (300 * 10 ^ n)
  | [], n, d, hc, hi, hd => by simp [putBs]
  | v :: r, n, d, hc, hi, hd => by
    have c1 := checkVs_zero.1 hc
    have h1 := put_len v n d (c1 v (by simp)) (hi v (by simp)) hd
    have h2 := puts_len r n d (checkVs_zero.2 fun v hv => c1 v (by simp [hv])) (fun v hv => hi v (by simp [hv])) hd
    simp only [putBs, List.length_append, List.length_cons, Nat.add_mul, Nat.one_mul]
    omega
end

end Go.Proofs.YtgfnodmghaghpaaDoor
