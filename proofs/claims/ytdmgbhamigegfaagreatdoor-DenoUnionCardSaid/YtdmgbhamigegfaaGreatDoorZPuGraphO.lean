/- The document's look at a job; who reads whom, told both ways. No program in sight. -/
import Derived.Test.YtdmgbhamigegfaaGreatDoorZPuGraph
set_option linter.unusedSimpArgs false
set_option linter.unusedVariables false
namespace Go.Proofs.YtdmgbhamigegfaaGreatDoor
open Go Go.Abs
def lastG (r:R Ty) (w:Int) (n:Nd) (twice:Bool):Int :=
 match r with
 | .er e=>e
 | .ok t=>if 64 < w then 10 else if (n.op.k=1∨n.op.k=9)∧twice=true then 7 else 0
def nodeG (ahead:List Nd) (ts:List Ty) (n:Nd):Int :=
 if (n.uid≠[]∧nameS n.uid=false)∨nameS n.grp=false then 6
 else if n.uid≠[]∧ahead.any (fun o=>decide (o.uid=n.uid))=true then 7
 else if n.par < 1∨4 < n.par∨n.mx < n.par∨16 < n.mx then 1
 else if zcS ahead [] n.ins=false then 1
 else lastG (outO n.op (n.ins.map (fun i=>ts.getD i.toNat (.mk 0 [])))) (wtN (wtsG [] ahead) n) n (ahead.any (fun o=>decide (o.op.k=n.op.k) && decide (o.op.name=n.op.name)))
def zd5 (ts:List Ty):List Nd→List Ty
 | []=>ts
 | n::r=>zd5 (ts++[(outO n.op (n.ins.map (fun i=>ts.getD i.toNat (.mk 0 [])))).get (.mk 0 [])]) r
def goR (ahead:List Nd):List Nd→Option (Nat×Int)
 | []=>none
 | n::r=>if nodeG ahead (zd5 [] ahead) n≠0 then some (ahead.length,nodeG ahead (zd5 [] ahead) n) else goR (ahead++[n]) r
def zlK (g:List Nd):Int×Int :=
 if g=[] then (0,3) else if 16 < g.length then (0,10)
 else match goR [] g with
  | some (i,e)=>(i,e)
  | none=>match zcH g 0 g with
   | some i=>(i,1)
   | none=>(0,0)
end Go.Proofs.YtdmgbhamigegfaaGreatDoor
