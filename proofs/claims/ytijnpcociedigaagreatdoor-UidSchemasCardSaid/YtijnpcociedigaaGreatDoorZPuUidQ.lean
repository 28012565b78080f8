/- Values in words; numbers in words: what they are, how long they may be. -/
import Derived.Test.YtijnpcociedigaaGreatDoorZSpRowNQ
import Derived.Test.YtijnpcociedigaaGreatDoorZSpValBQ
import Derived.Test.YtijnpcociedigaaGreatDoorZJoinLib
import Derived.Lib.ItoaNum

section
/- Values in words; numbers in words: what they are, how long they may be. -/
set_option linter.unusedVariables false
namespace Go.Proofs.YtijnpcociedigaaGreatDoor
open Go Go.Abs

def hexC (n : Nat) : UInt8 := ([48, 49, 50, 51, 52, 53, 54, 55, 56, 57, 97, 98, 99, 100, 101, 102] : List UInt8).getD n 0
def plainC (c : UInt8) : Bool := decide (32 ≤ c.toNat) && decide (c.toNat ≤ 126) && decide (c.toNat ≠ 34) && decide (c.toNat ≠ 92)
def escC (c : UInt8) : List UInt8 := if plainC c then [c] else [92, hexC (c.toNat / 16), hexC (c.toNat % 16)]
def quoteS (s : List UInt8) : List UInt8 := 34 :: (s.flatMap escC ++ [34])

mutual
def textV : Va → List UInt8
  | .mk k i b s t => if k = 1 then Lib.itoa i else if k = 2 then (if b then [116, 114, 117, 101] else [102, 97, 108, 115, 101]) else if k = 3 then quoteS s else 40 :: (TJ.join [44] (textVs t) ++ [41])
def textVs : List Va → List (List UInt8)
  | [] => []
  | v :: r => textV v :: textVs r
end

theorem textVs_eq (l : List Va) : textVs l = l.map textV := by induction l <;> simp_all [textVs]

theorem decDigits_len : ∀ (k u : Nat), 0 < k → u < 10 ^ k → (Lib.decDigits u).length ≤ k := by
  intro k
  induction k with
  | zero => omega
  | succ k ih =>
    intro u _ hu
    rw [Lib.decDigits]
    split
    · simp
    · rename_i h
      have hk : 0 < k := by
        rcases Nat.eq_zero_or_pos k with rfl | h2
        · simp at hu; omega
        · exact h2
      have := ih (u / 10) hk (by rw [Nat.pow_succ] at hu; omega)
      simp
      omega

theorem itoa_len {n : Int} (h : I64 n) : (Lib.itoa n).length ≤ 20 := by
  obtain ⟨h0, h1⟩ := h
  unfold Lib.itoa
  split
  · have := decDigits_len 19 n.natAbs (by omega) (by have : (10:Nat)^19 = 10000000000000000000 := by decide
                                                     omega)
    simp
    omega
  · have := decDigits_len 19 n.toNat (by omega) (by have : (10:Nat)^19 = 10000000000000000000 := by decide
                                                    omega)
    omega

theorem escC_len (c : UInt8) : (escC c).length ≤ 3 := by unfold escC; split <;> simp

theorem esc_len : ∀ s : List UInt8, (s.flatMap escC).length ≤ 3 * s.length
  | [] => by simp
  | c :: r => by
    have h1 := esc_len r
    have h2 := escC_len c
    simp only [List.flatMap_cons, List.length_append, List.length_cons]
    omega

end Go.Proofs.YtijnpcociedigaaGreatDoor
end

section
/- Names of nodes. No program in sight. -/
set_option linter.unusedSimpArgs false
set_option linter.unusedVariables false
namespace Go.Proofs.YtijnpcociedigaaGreatDoor
open Go Go.Abs

def plainB (c : UInt8) : Bool := decide (c ≠ 40) && decide (c ≠ 41) && decide (c ≠ 44)
end Go.Proofs.YtijnpcociedigaaGreatDoor
end
