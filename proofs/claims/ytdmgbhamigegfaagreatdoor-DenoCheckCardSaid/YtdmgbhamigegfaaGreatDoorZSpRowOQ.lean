/- The type that goes out of an operator, as the program finds it. No program in sight. -/
import Derived.Test.YtdmgbhamigegfaaGreatDoorZPuOp
import Derived.Test.YtdmgbhamigegfaaGreatDoorZSpRowTQ

section
/- The type that goes out of an operator, as the program finds it. No program in sight. -/
set_option linter.unusedSimpArgs false
set_option linter.unusedVariables false
namespace Go.Proofs.YtdmgbhamigegfaaGreatDoor
open Go Go.Abs
def noT:Ty:=.mk 0 []
def fitsO (o:Opr) (ts ins:List Ty):Bool :=
 if o.k=3 then decide ((ts.getD 0 noT).kind=2) else if o.k=4 then ts.all (fun t=>sameT t (ts.getD 0 noT)) else if o.k=5 then decide ((ts.getD 0 noT).kind=1) else if o.k=8 then ins.all (fun t=>sameT t (ins.getD 0 noT)) else true
def goesO (o:Opr) (key:Ty) (ts ins:List Ty):Ty :=
 if o.k=1 then o.t else if o.k=2∨o.k=4 then ts.getD 0 noT else if o.k=5∨o.k=6 then .mk 4 [key,.mk 1 []] else if o.k=7 then key else ins.getD 0 noT
def lastO (o:Opr) (key:Ty) (ts ins:List Ty):R Ty :=
 if fitsO o ts ins=false then .er 5 else if zD (goesO o key ts ins) 0≠0 then .er (zD (goesO o key ts ins) 0) else .ok (goesO o key ts ins)
def outP (o:Opr) (ins:List Ty):R Ty :=
 if o.k < 1∨9 < o.k then .er 6
 else if (o.k=1∨o.k=9)∧nameS o.name=false then .er 6
 else if zbe o=false∨insO o.k ins.length=false then .er 1
 else if ins.any (fun t=>decide (zD t 0≠0))=true∨(o.k=1∧zD o.t 0≠0) then .er 5
 else match (if zae o.k then zaa o.key (ins.getD 0 noT) else .ok noT) with
  | .er x=>.er x
  | .ok key=>match ckO (ins.getD 0 noT) o.es with
   | .er x=>.er x
   | .ok ts=>lastO o key ts ins
end Go.Proofs.YtdmgbhamigegfaaGreatDoor
end

section
/- What an operator lets out of a row. No program in sight. -/
set_option linter.unusedSimpArgs false
set_option linter.unusedVariables false
namespace Go.Proofs.YtdmgbhamigegfaaGreatDoor
open Go Go.Abs
def zgJ (o:Opr) (x:Va):Option (R (List Va)) :=
 if o.k=2∨o.k=4 then evL o.es x
 else if o.k=3 then (match evL o.es x with
  | none=>none
  | some (.er f)=>some (.er f)
  | some (.ok l)=>some (.ok (if (l.getD 0 zeroV).truth then [x] else [])))
 else some (.ok [x])
end Go.Proofs.YtdmgbhamigegfaaGreatDoor
end

section
/- Arguments that are operators: which trees they are. -/
set_option linter.unusedVariables false
namespace Go.Proofs.YtdmgbhamigegfaaGreatDoor
open Go Go.Abs
structure RgO (o:Opr):Prop where
 k:I64 o.k
 name:o.name.length≤maxLen
 t:RgT o.t
 es:o.es.length≤maxLen ∧ ∀ e∈o.es,RgE e
 key:RgE o.key
 f:I64 o.f
 n:I64 o.n
set_option maxRecDepth 100000 in
theorem typ_O (n:Nat) (cs:List T) (h:Typ Tryz.prog n 47 cs):∃ o,cs=(encO o).cells∧elemT Tryz.prog 47 cs=encO o∧RgO o:=by
 obtain ⟨m,rfl,he,hs⟩:=zh1 Tryz.underlying47 h
 obtain ⟨_,_,rfl,h0,_,_,rfl,h1,_,_,rfl,h2,_,_,rfl,h3,_,_,rfl,h4,_,_,rfl,h5,_,_,rfl,h6,rfl⟩:=hs
 obtain ⟨k,rfl,_,wk⟩:=zhe Tryz.underlying3 h0
 obtain ⟨name,rfl,_,wn⟩:=zqn Tryz.underlying9 h1
 obtain ⟨t,rfl,_,wt⟩:=typ_T _ _ h2
 obtain ⟨m',es,rfl,rfl,_,hl,hes⟩:=zgZ Tryz.underlying28 h3
 obtain ⟨vs,g1,g2,g3⟩:=zjV (q:=RgE) (enc:=encE) (f:=elemT Tryz.prog 30) es hes (fun x hx=>by
  obtain ⟨v,_,h5,h6⟩:=typ_E m' x hx
  exact ⟨v,h5,h6⟩)
 obtain ⟨key,rfl,_,wkey⟩:=typ_E _ _ h4
 obtain ⟨f,rfl,_,wf⟩:=zhe Tryz.underlying3 h5
 obtain ⟨n',rfl,_,wn'⟩:=zhe Tryz.underlying3 h6
 have hes2:vs.length≤maxLen:=by rw [g2]; exact hl
 refine ⟨⟨k,name,t,vs,key,f,n'⟩, ?_, ?_,{ k:=zrO wk,name:=wn,t:=wt,es:=⟨hes2,g3⟩,key:=wkey,f:=zrO wf,n:=zrO wn' }⟩
 ·simp [g1]
 ·rw [he]
  simp [g1]
end Go.Proofs.YtdmgbhamigegfaaGreatDoor
end
