/- Values in words; numbers in words: what they are, how long they may be. -/
import Derived.Test.YtdmgbhamigegfaaGreatDoorZSpRowNQ
import Derived.Test.YtdmgbhamigegfaaGreatDoorZSpValBQ
import Derived.Test.YtdmgbhamigegfaaGreatDoorZJoinLib
import Derived.Lib.ItoaNum

section
/- Values in words; numbers in words: what they are, how long they may be. -/
set_option linter.unusedVariables false
namespace Go.Proofs.YtdmgbhamigegfaaGreatDoor
open Go Go.Abs
theorem decDigits_len:∀ (k u:Nat),0 < k→u < 10 ^ k→(Lib.decDigits u).length ≤ k:=by
 intro k
 induction k with
 | zero=>omega
 | succ k ih =>
  intro u _ hu
  rw [Lib.decDigits]
  split
  ·simp
  ·rename_i h
   have hk:0 < k:=by
    rcases Nat.eq_zero_or_pos k with rfl | h2
    ·simp at hu; omega
    ·exact h2
   have:=ih (u / 10) hk (by rw [Nat.pow_succ] at hu; omega)
   simp
   omega
theorem itoa_len {n:Int} (h:I64 n):(Lib.itoa n).length ≤ 20:=by
 obtain ⟨h0,h1⟩:=h
 unfold Lib.itoa
 split
 ·have:=decDigits_len 19 n.natAbs (by omega) (by
                           have:(10:Nat)^19 = 10000000000000000000:=by decide
                           omega)
  simp
  omega
 ·have:=decDigits_len 19 n.toNat (by omega) (by
                          have:(10:Nat)^19 = 10000000000000000000:=by decide
                          omega)
  omega
end Go.Proofs.YtdmgbhamigegfaaGreatDoor
end

section
/- Names of nodes. No program in sight. -/
set_option linter.unusedSimpArgs false
set_option linter.unusedVariables false
namespace Go.Proofs.YtdmgbhamigegfaaGreatDoor
open Go Go.Abs
end Go.Proofs.YtdmgbhamigegfaaGreatDoor
end
