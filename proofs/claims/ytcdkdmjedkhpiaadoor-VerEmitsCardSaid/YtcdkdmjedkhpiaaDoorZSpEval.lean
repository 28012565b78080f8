/- What the functions of the package eval answer, over trees. -/
import Derived.Test.YtcdkdmjedkhpiaaDoorZSpValB
import Derived.Test.YtcdkdmjedkhpiaaDoorZPuEvalB

set_option linter.unusedSimpArgs false
set_option linter.unusedVariables false
namespace Go.Proofs.YtcdkdmjedkhpiaaDoor
open Go Go.Abs

/- Tables. -/
def lookT (name : List UInt8) : List (List UInt8 × T) → Option T
  | [] => none
  | p :: r => if p.1 = name then some p.2 else lookT name r

def encP (p : List UInt8 × T) : T := .agg [.str p.1, p.2]
def findR (o : Option T) : AV :=
  match o with
  | some f => .tup [.p f, .p (.bool true)]
  | none => .tup [.p (.raw .nilFunc), .p (.bool false)]

theorem lookT_drop (name : List UInt8) (l : List (List UInt8 × T)) (i : Nat) (h : i < l.length) : lookT name (l.drop i) = if l[i].1 = name then some l[i].2 else lookT name (l.drop (i + 1)) := by
  rw [List.drop_eq_getElem_cons h]
  simp [lookT]

/- The ops of one. -/
/- The ops of two. -/
/-- What an op of two answers. -/
def twoR (r : R Va) : AV := .tup [.p (encV (r.get zeroV)), .p (.int .i64 r.num)]

theorem twoR_gives {r : R Va} {vs : List AV} {H : List Ob} (h : toTs vs = some [encV (r.get zeroV), .int .i64 r.num]) : Gives 0 (.tup vs) H (twoR r) [] := gives_pure (pur_tup h)

def bothR (r : R Va) : AV := .tup [.p (encV (r.get zeroV)), .p (.int .i64 r.num), .p (.bool true)]

end Go.Proofs.YtcdkdmjedkhpiaaDoor
