/- What val.Text, and the document's, answer, over trees. -/
import Derived.Test.YtijnpcociedigaaGreatDoorZSpItoaQ
import Derived.Test.YtijnpcociedigaaGreatDoorZSpTypD
set_option linter.unusedVariables false
set_option linter.unusedSimpArgs false
namespace Go.Proofs.YtijnpcociedigaaGreatDoor
open Go Go.Abs
attribute [local irreducible] Abs.Fn

theorem decW_len : ∀ (n : Nat) (r : List UInt8), r.length ≤ (decW n r).length := by
  intro n
  induction n using Nat.strongRecOn with
  | ind n ih =>
    intro r
    rw [decW]
    split
    · omega
    · have := ih (n / 10) (by omega) (UInt8.ofNat (48 + n / 10 % 10) :: r)
      rw [List.length_cons] at this
      omega

theorem decimal_nat (n : Nat) (h : n ≤ 9223372036854775807) : Abs.Fn Tryz.prog runnelref6_Decimal_i [] [.p (.int .i64 n)] (.p (.str (Lib.decDigits n))) [] := by
  apply runnelref6_Decimal_fn
  simp [runnelref6_Decimal]
  refine ⟨fun h => by omega, ?_⟩
  have hm : ∀ k : Nat, k ≤ 9223372036854775807 → IntKind.u8.wrap (IntKind.i64.wrap (48 + ((k : Int)).tmod 10)) = ((48 + k % 10 : Nat) : Int) := by
    intro k hk
    rw [show ((k : Int)).tmod 10 = ((k % 10 : Nat) : Int) by rw [Int.tmod_eq_emod_of_nonneg (by omega)]; omega, IntWalk.i64_in _ (by omega), IntWalk.u8_in _ (by omega)]
    omega
  rw [hm n h]
  simp [aBytesStr, AV.elems, bytesOf]
  have hlen : (Lib.decDigits n).length ≤ 19 := decDigits_len 19 n (by omega) (by have : (10:Nat)^19 = 10000000000000000000 := by decide
                                                                                 omega)
  have hd : decW n [UInt8.ofNat (48 + n % 10)] = Lib.decDigits n := by rw [decW_eq]; simp
  refine loop_by (σ := Nat × List UInt8) (n := 0) (fun q => [.p (.int .i64 q.1), .p (.str q.2)]) (fun _ => []) (fun q => q.1 ≤ 9223372036854775807 ∧ decW q.1 q.2 = Lib.decDigits n) (fun q => q.1) [] (n, [UInt8.ofNat (48 + n % 10)]) (fun _ => rfl) ?_ ⟨by simpa using h, hd⟩ (fun q B hq hB => ?_)
  · have e : (48 + (n : Int) % 10).toNat = 48 + n % 10 := by omega
    rw [e]
    exact ⟨rfl, rfl⟩
  obtain ⟨m, acc⟩ := q
  obtain ⟨h1, h2⟩ := hq
  simp only at h1 h2
  have hl := decW_len m acc
  simp [runnelref6_Decimal_L1]
  constructor
  · intro hge
    rw [decW, dif_neg (by omega)] at h2
    have e1 : IntKind.i64.wrap ((m : Int) / 10) = ((m / 10 : Nat) : Int) := by rw [IntWalk.i64_in _ (by omega)]; omega
    rw [e1, hm _ (by omega)]
    simp [aBytesStr, AV.elems, bytesOf]
    have hl2 := decW_len (m / 10) (UInt8.ofNat (48 + m / 10 % 10) :: acc)
    rw [h2, List.length_cons] at hl2
    have e : (48 + (m : Int) / 10 % 10).toNat = 48 + m / 10 % 10 := by omega
    rw [e]
    refine ⟨by unfold maxLen; omega, ?_⟩
    have := hB (m / 10, UInt8.ofNat (48 + m / 10 % 10) :: acc) [] ⟨by simp only; omega, h2⟩ (by simp only; omega) rfl rfl (Nat.zero_le _) rfl
    simpa using this
  · intro hlt
    rw [decW, dif_pos (by omega)] at h2
    exact gives_p (by simp [h2])

theorem decimal_spec (n : Int) (h : I64 n) : Abs.Fn Tryz.prog runnelref6_Decimal_i [] [.p (.int .i64 n)] (.p (.str (Lib.itoa n))) [] := by
  rcases Int.lt_or_le n 0 with hn | hn
  · apply runnelref6_Decimal_fn
    obtain ⟨h0, h1⟩ := h
    simp [runnelref6_Decimal]
    refine ⟨fun hl => gives_p ?_, fun hl => ⟨fun _ => ?_, fun hx => by omega⟩⟩
    · subst hl
      have : Lib.decDigits 9223372036854775808 = [57, 50, 50, 51, 51, 55, 50, 48, 51, 54, 56, 53, 52, 55, 55, 53, 56, 48, 56] := by
        simp [Lib.decDigits]
      simp [Lib.itoa, this]
    · rw [IntWalk.i64_in _ (by omega)]
      have e : -n = ((n.natAbs : Nat) : Int) := by omega
      have hd := decDigits_len 19 n.natAbs (by omega) (by have : (10:Nat)^19 = 10000000000000000000 := by decide
                                                          omega)
      rw [e]
      refine aCall_p rfl (decimal_nat n.natAbs (by omega)) ?_
      simp
      refine ⟨by unfold maxLen; omega, gives_p ?_⟩
      simp [Lib.itoa, hn]
  · have := decimal_nat n.toNat (by have := h.2; omega)
    rw [show ((n.toNat : Nat) : Int) = n by omega] at this
    rw [show Lib.itoa n = Lib.decDigits n.toNat by unfold Lib.itoa; rw [if_neg (by omega)]]
    exact this

theorem join_take_le (sep : List UInt8) (l : List (List UInt8)) (i : Nat) : (TJ.join sep (l.take i)).length ≤ (TJ.join sep l).length := by
  cases l with
  | nil => simp
  | cons x r =>
    cases i with
    | zero => simp [TJ.join]
    | succ i =>
      simp only [List.take_succ_cons, TJ.join, List.length_append]
      have := TJ.tail_le sep r i
      omega

theorem join_snoc (sep : List UInt8) (l : List (List UInt8)) (i : Nat) (h : i < l.length) : TJ.join sep (l.take (i + 1)) = if i = 0 then l[i] else TJ.join sep (l.take i) ++ sep ++ l[i] := by
  cases l with
  | nil => simp at h
  | cons x r =>
    cases i with
    | zero => simp [TJ.join, TJ.tail]
    | succ i =>
      simp only [List.length_cons] at h
      rw [if_neg (by omega)]
      simp only [List.take_succ_cons, TJ.join]
      rw [TJ.tail_step sep r i r[i] (by simp)]
      simp

end Go.Proofs.YtijnpcociedigaaGreatDoor

