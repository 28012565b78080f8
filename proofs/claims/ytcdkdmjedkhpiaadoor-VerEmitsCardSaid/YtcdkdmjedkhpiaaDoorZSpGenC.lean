/- The package gen over trees: operators' programs. -/
import Derived.Test.YtcdkdmjedkhpiaaDoorZSpGenR
set_option linter.unusedSimpArgs false
set_option linter.unusedVariables false
namespace Go.Proofs.YtcdkdmjedkhpiaaDoor
open Go Go.Abs

attribute [local irreducible] Abs.Fn

def oEmit : List UInt8 := [101, 109, 105, 116]
def oRet : List UInt8 := [114, 101, 116]
def emitsI (n : Int) : List In := [oneI oEmit n, oneI oRet 0]

theorem emits_closed {n : Int} : closedI (emitsI n) := by
  intro x hx hj
  simp only [emitsI, List.mem_cons, List.not_mem_nil, or_false] at hx
  rcases hx with rfl | rfl <;> exact absurd hj (by simp [jumpI, oneI, oEmit, oRet, oJmp, oJf])

theorem emits_mv (n b : Int) : (emitsI n).map (mvI b) = emitsI n := by
  simp [emitsI, mvI_one (show oRet ≠ oJmp by decide) (show oRet ≠ oJf by decide), mvI_one (show oEmit ≠ oJmp by decide) (show oEmit ≠ oJf by decide)]

/-- An operator's key's program. -/
def genKey (e : Ex) : List In := genE e ++ emitsI 1

/-- An operator's program. -/
def genOf (k : Int) (es : List Ex) : List In :=
  if k = 2 ∨ k = 4 ∨ k = 5 then joinI (genEs es) ++ emitsI es.length
  else if k = 3 then joinI (genEs es) ++ oneI oJf ((joinI (genEs es)).length + 3) :: oneI oX 0 :: emitsI 1
  else oneI oX 0 :: emitsI 1

end Go.Proofs.YtcdkdmjedkhpiaaDoor
