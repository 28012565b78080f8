/- The document's operators: which may be, what type goes out, over trees. -/
import Derived.Test.YtijnpcociedigaaGreatDoorZPuOp
import Derived.Test.YtijnpcociedigaaGreatDoorZSpBudTQ
import Derived.Test.YtijnpcociedigaaGreatDoorS1
set_option linter.unusedSimpArgs false
set_option linter.unusedVariables false
namespace Go.Proofs.YtijnpcociedigaaGreatDoor
open Go Go.Abs

attribute [local irreducible] Abs.Fn

/-- The cells of an operator's variable. -/
def boxO (o : Opr) : List AV := (encO o).cells.map .p
@[simp] theorem boxO_eq {o : Opr} : boxO o = [.p (.int .i64 o.k), .p (.str o.name), .p (.int .i64 o.t.kind), .p (.slice (o.t.of.map encT)), .p (.slice (o.es.map encE)), .p (.str o.key.op), .p (.int .i64 o.key.v.k), .p (.int .i64 o.key.v.i), .p (.bool o.key.v.b), .p (.str o.key.v.s), .p (.slice (o.key.v.t.map encV)), .p (.int .i64 o.key.n), .p (.slice (o.key.a.map encE)), .p (.int .i64 o.f), .p (.int .i64 o.n)] := id rfl

theorem checkE_er {e : Ex} {t : Ty} {f : Int} (h : checkE e t = .er f) : f ≠ 0 := by
  unfold checkE at h
  split at h
  · cases h; decide
  · split at h
    · cases h; decide
    · exact ckE_er _ _ _ _ h

end Go.Proofs.YtijnpcociedigaaGreatDoor

