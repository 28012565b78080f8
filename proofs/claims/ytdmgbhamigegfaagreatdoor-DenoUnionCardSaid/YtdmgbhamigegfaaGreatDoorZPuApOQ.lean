/- The type that goes out of an operator, as the program finds it. No program in sight. -/
import Derived.Test.YtdmgbhamigegfaaGreatDoorZPuOp

section
/- The type that goes out of an operator, as the program finds it. No program in sight. -/
set_option linter.unusedSimpArgs false
set_option linter.unusedVariables false
namespace Go.Proofs.YtdmgbhamigegfaaGreatDoor
open Go Go.Abs
def noT:Ty:=.mk 0 []
def fitsO (o:Opr) (ts ins:List Ty):Bool :=
 if o.k=3 then decide ((ts.getD 0 noT).kind=2) else if o.k=4 then ts.all (fun t=>sameT t (ts.getD 0 noT)) else if o.k=5 then decide ((ts.getD 0 noT).kind=1) else if o.k=8 then ins.all (fun t=>sameT t (ins.getD 0 noT)) else true
def goesO (o:Opr) (key:Ty) (ts ins:List Ty):Ty :=
 if o.k=1 then o.t else if o.k=2∨o.k=4 then ts.getD 0 noT else if o.k=5∨o.k=6 then .mk 4 [key,.mk 1 []] else if o.k=7 then key else ins.getD 0 noT
def lastO (o:Opr) (key:Ty) (ts ins:List Ty):R Ty :=
 if fitsO o ts ins=false then .er 5 else if zI (goesO o key ts ins) 0≠0 then .er (zI (goesO o key ts ins) 0) else .ok (goesO o key ts ins)
def outP (o:Opr) (ins:List Ty):R Ty :=
 if o.k < 1∨9 < o.k then .er 6
 else if (o.k=1∨o.k=9)∧nameS o.name=false then .er 6
 else if zeA o=false∨insO o.k ins.length=false then .er 1
 else if ins.any (fun t=>decide (zI t 0≠0))=true∨(o.k=1∧zI o.t 0≠0) then .er 5
 else match (if zas o.k then zaL o.key (ins.getD 0 noT) else .ok noT) with
  | .er x=>.er x
  | .ok key=>match ckO (ins.getD 0 noT) o.es with
   | .er x=>.er x
   | .ok ts=>lastO o key ts ins
end Go.Proofs.YtdmgbhamigegfaaGreatDoor
end

section
/- What an operator lets out of a row. No program in sight. -/
set_option linter.unusedSimpArgs false
set_option linter.unusedVariables false
namespace Go.Proofs.YtdmgbhamigegfaaGreatDoor
open Go Go.Abs
def zeM (o:Opr) (x:Va):Option (R (List Va)) :=
 if o.k=2∨o.k=4 then evL o.es x
 else if o.k=3 then (match evL o.es x with
  | none=>none
  | some (.er f)=>some (.er f)
  | some (.ok l)=>some (.ok (if (l.getD 0 zeroV).truth then [x] else [])))
 else some (.ok [x])
end Go.Proofs.YtdmgbhamigegfaaGreatDoor
end
