/- Values in words; numbers in words: what they are, how long they may be. -/
import Derived.Test.YtgfnodmghaghpaaGreatDoorZSpRowEQ
import Derived.Test.YtgfnodmghaghpaaGreatDoorZSpValBQ
import Derived.Test.YtgfnodmghaghpaaGreatDoorZJoinLib
import Derived.Lib.ItoaNum
set_option linter.unusedVariables false
namespace Go.Proofs.YtgfnodmghaghpaaGreatDoor
open Go Go.Abs

def hexC (n : Nat) : UInt8 := ([48, 49, 50, 51, 52, 53, 54, 55, 56, 57, 97, 98, 99, 100, 101, 102] : List UInt8).getD n 0
def plainC (c : UInt8) : Bool := decide (32 ≤ c.toNat) && decide (c.toNat ≤ 126) && decide (c.toNat ≠ 34) && decide (c.toNat ≠ 92)
def escC (c : UInt8) : List UInt8 := if plainC c then [c] else [92, hexC (c.toNat / 16), hexC (c.toNat % 16)]
def quoteS (s : List UInt8) : List UInt8 := 34 :: (s.flatMap escC ++ [34])

mutual
def textV : Va → List UInt8
  | .mk k i b s t => if k = 1 then Lib.itoa i else if k = 2 then (if b then [116, 114, 117, 101] else [102, 97, 108, 115, 101]) else if k = 3 then quoteS s else 40 :: (TJ.join [44] (textVs t) ++ [41])
def textVs : List Va → List (List UInt8)
  | [] => []
  | v :: r => textV v :: textVs r
end

theorem textVs_eq (l : List Va) : textVs l = l.map textV := by induction l <;> simp_all [textVs]

theorem decDigits_len : ∀ (k u : Nat), 0 < k → u < 10 ^ k → (Lib.decDigits u).length ≤ k := by
  intro k
  induction k with
  | zero => omega
  | succ k ih =>
    intro u _ hu
    rw [Lib.decDigits]
    split
    · simp
    · rename_i h
      have hk : 0 < k := by
        rcases Nat.eq_zero_or_pos k with rfl | h2
        · simp at hu; omega
        · exact h2
      have := ih (u / 10) hk (by rw [Nat.pow_succ] at hu; omega)
      simp
      omega

theorem itoa_len {n : Int} (h : I64 n) : (Lib.itoa n).length ≤ 20 := by
  obtain ⟨h0, h1⟩ := h
  unfold Lib.itoa
  split
  · have := decDigits_len 19 n.natAbs (by omega) (by have : (10:Nat)^19 = 10000000000000000000 := by decide
                                                     omega)
    simp
    omega
  · have := decDigits_len 19 n.toNat (by omega) (by have : (10:Nat)^19 = 10000000000000000000 := by decide
                                                    omega)
    omega

theorem escC_len (c : UInt8) : (escC c).length ≤ 3 := by unfold escC; split <;> simp

theorem esc_len : ∀ s : List UInt8, (s.flatMap escC).length ≤ 3 * s.length
  | [] => by simp
  | c :: r => by
    have h1 := esc_len r
    have h2 := escC_len c
    simp only [List.flatMap_cons, List.length_append, List.length_cons]
    omega

theorem quote_len (s : List UInt8) : (quoteS s).length ≤ 3 * s.length + 2 := by
  have := esc_len s
  simp only [quoteS, List.length_cons, List.length_append, List.length_nil]
  omega

mutual
theorem budV_text : ∀ (v : Va) (d l : Int), RgV v → 0 < budV v d l → ((textV v).length : Int) ≤ 2000 * (l - budV v d l)
  | .mk k i b s t, d, l, hr, h => by
    obtain ⟨_, _, _, _, _, hk, hi, hs0, ht0, ho⟩ := hr
    simp only [budV] at h ⊢
    split at h
    · omega
    · rename_i hc
      rw [if_neg hc]
      have h1 := budVs_text t (d - 1) (l - 1) ho h
      have h2 := budVs_le t (d - 1) (l - 1) (by have := budVs_pos t _ _ h; omega)
      have h3 := itoa_len hi
      have h4 := quote_len s
      simp only [textV, textVs_eq]
      split
      · omega
      · split
        · split <;> simp <;> omega
        · split
          · omega
          · simp only [List.length_cons, List.length_append, List.length_nil]
            cases hm : t.map textV with
            | nil => simp [TJ.join]; omega
            | cons x r =>
              rw [TJ.join_length]
              have e1 : (t.map textV).length = t.length := by simp
              rw [hm] at e1 h1
              simp only [List.length_cons, List.length_nil] at e1 ⊢
              omega
theorem budVs_text : ∀ (r : List Va) (d l : Int), (∀ v ∈ r, RgV v) → 0 < budVs r d l → (TJ.lens (r.map textV) : Int) ≤ 2000 * (l - budVs r d l)
  | [], d, l, _, h => by simp [budVs, TJ.lens]
  | v :: r, d, l, hr, h => by
    have hpos := budVs_pos (v :: r) d l h
    simp only [budVs] at h ⊢
    split at h
    · omega
    · rename_i hc
      rw [if_neg hc]
      have hp := budVs_pos r d _ h
      have h1 := budV_text v d l (hr v (by simp)) hp
      have h2 := budVs_text r d (budV v d l) (fun x hx => hr x (by simp [hx])) h
      simp only [List.map_cons, TJ.lens]
      omega
end

theorem fewV_text {v : Va} (h : fewV v = true) (hr : RgV v) : (textV v).length ≤ 600000 := by
  have h1 : 0 < budV v 12 300 := by simpa [fewV] using h
  have := budV_text v 12 300 hr h1
  have := (budV_le v 12 300 (by omega)).1
  omega

/-- The document's way to a number's digits. -/
def decW (n : Nat) (s : List UInt8) : List UInt8 :=
  if h : n < 10 then s else decW (n / 10) (UInt8.ofNat (48 + n / 10 % 10) :: s)
termination_by n
decreasing_by omega

theorem decW_eq : ∀ (n : Nat) (r : List UInt8), decW n (UInt8.ofNat (48 + n % 10) :: r) = Lib.decDigits n ++ r := by
  intro n
  induction n using Nat.strongRecOn with
  | ind n ih =>
    intro r
    rw [decW, Lib.decDigits]
    split
    · rename_i h
      rw [Nat.mod_eq_of_lt h]; simp
    · rw [ih (n / 10) (by omega)]
      simp

end Go.Proofs.YtgfnodmghaghpaaGreatDoor
