/- The document's look at a job; who reads whom, told both ways. No program in sight. -/
import Derived.Test.YtdmgbhamigegfaaGreatDoorZPuGraph
import Derived.Test.YtdmgbhamigegfaaGreatDoorZSpRowOQ

section
/- The document's look at a job; who reads whom, told both ways. No program in sight. -/
set_option linter.unusedSimpArgs false
set_option linter.unusedVariables false
namespace Go.Proofs.YtdmgbhamigegfaaGreatDoor
open Go Go.Abs
def lastG (r:R Ty) (w:Int) (n:Nd) (twice:Bool):Int :=
 match r with
 | .er e=>e
 | .ok t=>if 64 < w then 10 else if (n.op.k=1∨n.op.k=9)∧twice=true then 7 else 0
def nodeG (ahead:List Nd) (ts:List Ty) (n:Nd):Int :=
 if (n.uid≠[]∧nameS n.uid=false)∨nameS n.grp=false then 6
 else if n.uid≠[]∧ahead.any (fun o=>decide (o.uid=n.uid))=true then 7
 else if n.par < 1∨4 < n.par∨n.mx < n.par∨16 < n.mx then 1
 else if zcO ahead [] n.ins=false then 1
 else lastG (outO n.op (n.ins.map (fun i=>ts.getD i.toNat (.mk 0 [])))) (wtN (wtsG [] ahead) n) n (ahead.any (fun o=>decide (o.op.k=n.op.k) && decide (o.op.name=n.op.name)))
def zcd (ts:List Ty):List Nd→List Ty
 | []=>ts
 | n::r=>zcd (ts++[(outO n.op (n.ins.map (fun i=>ts.getD i.toNat (.mk 0 [])))).get (.mk 0 [])]) r
def goR (ahead:List Nd):List Nd→Option (Nat×Int)
 | []=>none
 | n::r=>if nodeG ahead (zcd [] ahead) n≠0 then some (ahead.length,nodeG ahead (zcd [] ahead) n) else goR (ahead++[n]) r
def zjh (g:List Nd):Int×Int :=
 if g=[] then (0,3) else if 16 < g.length then (0,10)
 else match goR [] g with
  | some (i,e)=>(i,e)
  | none=>match zcF g 0 g with
   | some i=>(i,1)
   | none=>(0,0)
end Go.Proofs.YtdmgbhamigegfaaGreatDoor
end

section
/- Arguments that are jobs: which trees they are. -/
set_option linter.unusedVariables false
namespace Go.Proofs.YtdmgbhamigegfaaGreatDoor
open Go Go.Abs
theorem typ_Is (n:Nat) (cs:List T) (h:Typ Tryz.prog n 53 cs):∃ l:List Int,cs=[.slice (l.map (.int .i64))]:=by
 obtain ⟨m',es,rfl,rfl,he,hl,hes⟩:=zgZ Tryz.underlying53 h
 obtain ⟨vs,g1,g2,g3⟩:=zjV (q:=fun x:Int=>True) (enc:=T.int .i64) (f:=elemT Tryz.prog 3) es hes (fun x hx=>by
  obtain ⟨v,_,h5,h6⟩:=zhe Tryz.underlying3 hx
  exact ⟨v,h5,trivial⟩)
 exact ⟨vs,by rw [g1]⟩
set_option maxRecDepth 100000 in
theorem typ_G (n:Nat) (cs:List T) (h:Typ Tryz.prog n 41 cs):∃ g:List Nd,elemT Tryz.prog 41 cs=.slice (g.map encN)∧g.length≤maxLen:=by
 obtain ⟨m',es,rfl,rfl,he,hl,hes⟩:=zgZ Tryz.underlying41 h
 obtain ⟨vs,g1,g2,g3⟩:=zjV (q:=fun _=>True) (enc:=encN) (f:=elemT Tryz.prog 55) es hes (fun x hx=>by
  obtain ⟨m,rfl,he,hs⟩:=zh1 Tryz.underlying55 hx
  obtain ⟨_,_,rfl,h0,_,_,rfl,h1,_,_,rfl,h2,_,_,rfl,h3,_,_,rfl,h4,_,_,rfl,h5,_,_,rfl,h6,rfl⟩:=hs
  obtain ⟨uid,rfl,_,_⟩:=zqn Tryz.underlying9 h0
  obtain ⟨o,rfl,_,_⟩:=typ_O _ _ h1
  obtain ⟨ins,rfl⟩:=typ_Is _ _ h2
  obtain ⟨par,rfl,_,_⟩:=zhe Tryz.underlying3 h3
  obtain ⟨mx,rfl,_,_⟩:=zhe Tryz.underlying3 h4
  obtain ⟨grp,rfl,_,_⟩:=zqn Tryz.underlying9 h5
  obtain ⟨al,rfl,_⟩:=zAO Tryz.underlying4 h6
  refine ⟨⟨uid,o,ins,par,mx,grp,al⟩, ?_,trivial⟩
  rw [he]
  simp)
 exact ⟨vs,by rw [he,g1],by omega⟩
end Go.Proofs.YtdmgbhamigegfaaGreatDoor
end
