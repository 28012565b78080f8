/- What an operator lets out of a row. No program in sight. -/
import Derived.Test.YtmnmiiifilfcmaaGreatZPuOp
set_option linter.unusedSimpArgs false
set_option linter.unusedVariables false
namespace Go.Proofs.YtmnmiiifilfcmaaGreat
open Go Go.Abs

/-- What an operator lets out of a row. -/
def applyO (o : Opr) (x : Va) : Option (R (List Va)) :=
  if o.k = 2 ∨ o.k = 4 then evL o.es x
  else if o.k = 3 then (match evL o.es x with
    | none => none
    | some (.er f) => some (.er f)
    | some (.ok l) => some (.ok (if (l.getD 0 zeroV).truth then [x] else [])))
  else some (.ok [x])

end Go.Proofs.YtmnmiiifilfcmaaGreat
