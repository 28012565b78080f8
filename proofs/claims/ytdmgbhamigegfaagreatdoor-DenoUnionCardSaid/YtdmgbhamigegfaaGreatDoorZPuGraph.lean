/- Jobs as trees: what is wrong with one, who reads whom. No program in sight. -/
import Derived.Test.YtdmgbhamigegfaaGreatDoorZPuApOQ
import Derived.Test.YtdmgbhamigegfaaGreatDoorZSpBudTQ
set_option linter.unusedSimpArgs false
set_option linter.unusedVariables false
namespace Go.Proofs.YtdmgbhamigegfaaGreatDoor
open Go Go.Abs
structure Nd where
 uid:List UInt8
 op:Opr
 ins:List Int
 par:Int
 mx:Int
 grp:List UInt8
 alone:Bool
def encN (x:Nd):T:=.agg [.str x.uid,.int .i64 x.op.k,.str x.op.name,.int .i64 x.op.t.kind,.slice (x.op.t.of.map encT),.slice (x.op.es.map encE),.str x.op.key.op,.int .i64 x.op.key.v.k,.int .i64 x.op.key.v.i,.bool x.op.key.v.b,.str x.op.key.v.s,.slice (x.op.key.v.t.map encV),.int .i64 x.op.key.n,.slice (x.op.key.a.map encE),.int .i64 x.op.f,.int .i64 x.op.n,.slice (x.ins.map (T.int .i64)),.int .i64 x.par,.int .i64 x.mx,.str x.grp,.bool x.alone]
@[simp] theorem zsJ {x:Nd}:encN x=.agg [.str x.uid,.int .i64 x.op.k,.str x.op.name,.int .i64 x.op.t.kind,.slice (x.op.t.of.map encT),.slice (x.op.es.map encE),.str x.op.key.op,.int .i64 x.op.key.v.k,.int .i64 x.op.key.v.i,.bool x.op.key.v.b,.str x.op.key.v.s,.slice (x.op.key.v.t.map encV),.int .i64 x.op.key.n,.slice (x.op.key.a.map encE),.int .i64 x.op.f,.int .i64 x.op.n,.slice (x.ins.map (T.int .i64)),.int .i64 x.par,.int .i64 x.mx,.str x.grp,.bool x.alone]:=id rfl
@[simp] theorem encN_cells (x:Nd):(encN x).cells.length=21:=id rfl
def zeroO:Opr:=⟨0,[],.mk 0 [],[],zeroE,0,0⟩
def noN:Nd:=⟨[],zeroO,[],0,0,[],false⟩
def zcS (ahead:List Nd):List Int→List Int→Bool
 | _,[]=>true
 | s,i::r=>if i < 0∨(ahead.length:Int)≤i∨(ahead.getD i.toNat noN).op.k=9∨i∈s then false else zcS ahead (s++[i]) r
def sumW (ws:List Int):Int→List Int→Int
 | w,[]=>w
 | w,i::r=>sumW ws (IntKind.i64.wrap (w + ws.getD i.toNat 0)) r
def wtN (ws:List Int) (n:Nd):Int :=
 if n.op.k=1 then 1 else if n.op.k=4 then IntKind.i64.wrap (sumW ws 0 n.ins * n.op.es.length) else sumW ws 0 n.ins
def wtsG (ws:List Int):List Nd→List Int
 | []=>ws
 | n::r=>wtsG (ws++[wtN ws n]) r
theorem zmZ (n:Nd):∀ (l:List Nd) (ws:List Int),wtsG ws (l++[n])=wtsG ws l++[wtN (wtsG ws l) n]
 | [],ws=>rfl
 | m::r,ws=>by simp only [List.cons_append,wtsG]; exact zmZ n r _
theorem zjt:∀ (l:List Nd) (ws:List Int),(wtsG ws l).length=ws.length + l.length
 | [],ws=>by simp [wtsG]
 | m::r,ws=>by simp only [wtsG]; rw [zjt r]; simp; omega
def nodeN (ahead:List Nd) (ts:List Ty) (n:Nd):Ty×Int :=
 if (n.uid≠[]∧nameS n.uid=false)∨nameS n.grp=false then (.mk 0 [],6)
 else if n.uid≠[]∧ahead.any (fun o=>decide (o.uid=n.uid))=true then (.mk 0 [],7)
 else if n.par < 1∨4 < n.par∨n.mx < n.par∨16 < n.mx∨zcS ahead [] n.ins=false then (.mk 0 [],1)
 else match outP n.op (n.ins.map (fun i=>ts.getD i.toNat (.mk 0 []))) with
  | .er e=>(.mk 0 [],e)
  | .ok t=>if 64 < wtN (wtsG [] ahead) n then (t,10) else if n.op.name≠[]∧ahead.any (fun o=>decide (o.op.k=n.op.k) && decide (o.op.name=n.op.name))=true then (t,7) else (t,0)
inductive Gr
 | bad (i:Nat) (e:Int)
 | ok (ts:List Ty)
def goG (ahead:List Nd) (ts:List Ty):List Nd→Gr
 | []=>.ok ts
 | n::r=>if (nodeN ahead ts n).2≠0 then .bad ahead.length (nodeN ahead ts n).2 else goG (ahead++[n]) (ts++[(nodeN ahead ts n).1]) r
def zc6 (i:Int) (k:Nat):List Nd→List Int
 | []=>[]
 | n::r=>if i∈n.ins then (k:Int)::zc6 i (k + 1) r else zc6 i (k + 1) r
def zbH (i:Int) (k:Nat):List Nd→List Int
 | []=>[]
 | n::r=>if n.op.k=i then (k:Int)::zbH i (k + 1) r else zbH i (k + 1) r
def zcH (g:List Nd) (i:Nat):List Nd→Option Nat
 | []=>none
 | n::r=>if n.op.k≠9∧zc6 i 0 g=[] then some i else zcH g (i + 1) r
def zlJ (g:List Nd):Int×Int :=
 if g=[] then (0,3) else if 16 < g.length then (0,10)
 else match goG [] [] g with
  | .bad i e=>(i,e)
  | .ok _=>match zcH g 0 g with
   | some i=>(i,1)
   | none=>(0,0)
abbrev grpG:List UInt8:=[103]
abbrev srcG (p m:Int):Nd:=⟨[],⟨1,[115],.mk 1 [],[],zeroE,0,0⟩,[],p,m,grpG,false⟩
abbrev sinkG (i p m:Int):Nd:=⟨[],⟨9,[97],.mk 0 [],[],zeroE,0,0⟩,[i],p,m,grpG,false⟩
end Go.Proofs.YtdmgbhamigegfaaGreatDoor
