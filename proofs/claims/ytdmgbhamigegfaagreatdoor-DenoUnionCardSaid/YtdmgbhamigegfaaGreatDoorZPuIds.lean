/- The names that last, of a job's nodes; whose are alike. No program in sight. -/
import Derived.Test.YtdmgbhamigegfaaGreatDoorZPuUidQ
import Derived.Test.YtdmgbhamigegfaaGreatDoorZPuGraphO
set_option linter.unusedSimpArgs false
set_option linter.unusedVariables false
namespace Go.Proofs.YtdmgbhamigegfaaGreatDoor
open Go Go.Abs
def baseU (n:Nd) (out:List (List UInt8)):List UInt8 :=
 if n.uid=[] then 97::58::(Lib.itoa n.op.k++58::(n.op.name++40::(TJ.join [44] (n.ins.map fun i=>out.getD i.toNat [])++[41]))) else 117::58::n.uid
def sufU (k:Nat):List UInt8:=if k=0 then [] else 35::Lib.decDigits k
def fullU (s:List UInt8) (k:Nat):List UInt8:=s++sufU k
def idsGo (out bare:List (List UInt8)):List Nd→List (List UInt8)×List (List UInt8)
 | []=>(out,bare)
 | n::r=>idsGo (out++[fullU (baseU n out) (bare.count (baseU n out))]) (bare++[baseU n out]) r
def idsU (g:List Nd):List (List UInt8):=(idsGo [] [] g).1
def bareU (g:List Nd):List (List UInt8):=(idsGo [] [] g).2
theorem zt4:∀ (a:List Nd) (o r:List (List UInt8)),(idsGo o r a).1.length=o.length + a.length∧(idsGo o r a).2.length=r.length + a.length
 | [],o,r=>⟨rfl,rfl⟩
 | n::a,o,r=>by
  have:=zt4 a (o++[fullU (baseU n o) (r.count (baseU n o))]) (r++[baseU n o])
  simp only [idsGo,List.length_append,List.length_cons,List.length_nil] at this ⊢
  omega
@[simp] theorem idsU_length (g:List Nd):(idsU g).length=g.length:=by simpa [idsU] using (zt4 g [] []).1
@[simp] theorem zGv (g:List Nd):(bareU g).length=g.length:=by simpa [bareU] using (zt4 g [] []).2
end Go.Proofs.YtdmgbhamigegfaaGreatDoor
