/- Operators as trees. No program in sight. -/
import Derived.Test.YtdmgbhamigegfaaGreatDoorZSpDec
set_option linter.unusedSimpArgs false
set_option linter.unusedVariables false
namespace Go.Proofs.YtdmgbhamigegfaaGreatDoor
open Go Go.Abs
structure Opr where
 k:Int
 name:List UInt8
 t:Ty
 es:List Ex
 key:Ex
 f:Int
 n:Int
def encO (o:Opr):T:=.agg [.int .i64 o.k,.str o.name,.int .i64 o.t.kind,.slice (o.t.of.map encT),.slice (o.es.map encE),.str o.key.op,.int .i64 o.key.v.k,.int .i64 o.key.v.i,.bool o.key.v.b,.str o.key.v.s,.slice (o.key.v.t.map encV),.int .i64 o.key.n,.slice (o.key.a.map encE),.int .i64 o.f,.int .i64 o.n]
@[simp] theorem zgb {o:Opr}:encO o=.agg [.int .i64 o.k,.str o.name,.int .i64 o.t.kind,.slice (o.t.of.map encT),.slice (o.es.map encE),.str o.key.op,.int .i64 o.key.v.k,.int .i64 o.key.v.i,.bool o.key.v.b,.str o.key.v.s,.slice (o.key.v.t.map encV),.int .i64 o.key.n,.slice (o.key.a.map encE),.int .i64 o.f,.int .i64 o.n]:=id rfl
class IsO (t:T) (o:outParam Opr):Prop where h:t=encO o
instance {o:Opr}:IsO (encO o) o:=⟨rfl⟩
instance {k tk:Int} {name:List UInt8} {tof es:List T} {op:List UInt8} {vk vi:Int} {vb:Bool} {vs:List UInt8} {vt:List T} {m:Int} {a:List T} {f n:Int} {ts:List Ty} {xs:List Ex} {ws:List Va} {ys:List Ex}
  [h1:IsTs tof ts] [h2:IsEs es xs] [h3:IsVs vt ws] [h4:IsEs a ys] :
  IsO (.agg [.int .i64 k,.str name,.int .i64 tk,.slice tof,.slice es,.str op,.int .i64 vk,.int .i64 vi,.bool vb,.str vs,.slice vt,.int .i64 m,.slice a,.int .i64 f,.int .i64 n]) ⟨k,name,.mk tk ts,xs,.mk op (.mk vk vi vb vs ws) m ys,f,n⟩:=⟨by simp [h1.h,h2.h,h3.h,h4.h]⟩
instance {k tk:Int} {name:List UInt8} {tof es:List T} {op:List UInt8} {vk vi:Int} {vb:Bool} {vs:List UInt8} {vt:List T} {m:Int} {a:List T} {f n:Int} {ts:List Ty} {xs:List Ex} {ws:List Va} {ys:List Ex}
  [h1:IsTs tof ts] [h2:IsEs es xs] [h3:IsVs vt ws] [h4:IsEs a ys] :
  Fold (.agg [.int .i64 k,.str name,.int .i64 tk,.slice tof,.slice es,.str op,.int .i64 vk,.int .i64 vi,.bool vb,.str vs,.slice vt,.int .i64 m,.slice a,.int .i64 f,.int .i64 n]) (encO ⟨k,name,.mk tk ts,xs,.mk op (.mk vk vi vb vs ws) m ys,f,n⟩):=⟨by simp [h1.h,h2.h,h3.h,h4.h]⟩
instance (priority:=2000) {o:Opr}:Fold (.agg [.int .i64 o.k,.str o.name,.int .i64 o.t.kind,.slice (o.t.of.map encT),.slice (o.es.map encE),.str o.key.op,.int .i64 o.key.v.k,.int .i64 o.key.v.i,.bool o.key.v.b,.str o.key.v.s,.slice (o.key.v.t.map encV),.int .i64 o.key.n,.slice (o.key.a.map encE),.int .i64 o.f,.int .i64 o.n]) (encO o):=⟨by simp⟩
@[simp] theorem encO_cells (o:Opr):(encO o).cells.length=15:=id rfl
def zeroE:Ex:=.mk [] (.mk 0 0 false [] []) 0 []
@[simp] theorem zeroE_eq:zeroE=.mk [] (.mk 0 0 false [] []) 0 []:=id rfl
def bareE (e:Ex):Bool:=decide (e.op=[]) && decide (cmpV e.v zeroV=0) && decide (e.n=0) && decide (e.a.length=0)
def nameC (c:UInt8):Bool:=(decide (97≤c.toNat) && decide (c.toNat≤122)) || ((decide (48≤c.toNat) && decide (c.toNat≤57)) || decide (c.toNat=95))
def nameS (s:List UInt8):Bool:=match s with
 | []=>false
 | c::r=>decide (r.length≤15) && (decide (97≤c.toNat) && decide (c.toNat≤122)) && (c::r).all nameC
def zas (k:Int):Bool:=decide (k=5∨k=6∨k=7)
def zeA (o:Opr):Bool :=
 (decide (o.k=1∨o.k=9) || decide (o.name=[])) && (decide (o.k=1) || decide (o.t.kind=0∧o.t.of.length=0)) &&
 (if o.k=2∨o.k=3∨o.k=5 then decide (o.es.length=1) else if o.k=4 then decide (1≤o.es.length∧o.es.length≤4) else decide (o.es.length=0)) &&
 (zas o.k || bareE o.key) && (if o.k=5 then decide (1≤o.f∧o.f≤4) else decide (o.f=0)) && (if o.k=6 then decide (1≤o.n∧o.n≤1000) else decide (o.n=0))
def insO (k:Int) (m:Nat):Bool:=if k=1 then decide (m=0) else if k=8 then decide (2≤m∧m≤4) else decide (m=1)
def madeO (o:Opr) (ins:List Ty) (key:Ty) (ts:List Ty):R Ty :=
 if o.k=2 then .ok (ts.getD 0 (.mk 0 []))
 else if o.k=3 then (if (ts.getD 0 (.mk 0 [])).kind=2 then .ok (ins.getD 0 (.mk 0 [])) else .er 5)
 else if o.k=4 then (if ts.all (fun t=>sameT t (ts.getD 0 (.mk 0 []))) then .ok (ts.getD 0 (.mk 0 [])) else .er 5)
 else if o.k=5∨o.k=6 then
  (
   if o.k=5∧(ts.getD 0 (.mk 0 [])).kind≠1 then .er 5
   else if zI (.mk 4 [key,.mk 1 []]) 0≠0 then .er (zI (.mk 4 [key,.mk 1 []]) 0) else .ok (.mk 4 [key,.mk 1 []]))
 else if o.k=7 then .ok key
 else if o.k=8 then (if ins.all (fun t=>sameT t (ins.getD 0 (.mk 0 []))) then .ok (ins.getD 0 (.mk 0 [])) else .er 5)
 else .ok (ins.getD 0 (.mk 0 []))
def ckO (t:Ty):List Ex→R (List Ty)
 | []=>.ok []
 | e::r=>match zaL e t with
  | .er x=>.er x
  | .ok u=>match ckO t r with
   | .er x=>.er x
   | .ok l=>.ok (u::l)
def outO (o:Opr) (ins:List Ty):R Ty :=
 if o.k < 1∨9 < o.k then .er 6
 else if (o.k=1∨o.k=9)∧nameS o.name=false then .er 6
 else if zeA o=false∨insO o.k ins.length=false then .er 1
 else if ins.any (fun t=>decide (zI t 0≠0)) then .er 5
 else if o.k=1 then (if zI o.t 0≠0 then .er 5 else .ok o.t)
 else match (if zas o.k then zaL o.key (ins.getD 0 (.mk 0 [])) else .ok (.mk 0 [])) with
  | .er x=>.er x
  | .ok key=>match ckO (ins.getD 0 (.mk 0 [])) o.es with
   | .er x=>.er x
   | .ok ts=>madeO o ins key ts
end Go.Proofs.YtdmgbhamigegfaaGreatDoor
