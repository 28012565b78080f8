/- The objects of a front; what an operator that goes by keys wants. -/
import Derived.Test.YtdmgbhamigegfaaGreatDoorZPuDeno
import Derived.Test.YtdmgbhamigegfaaGreatDoorZSpEvalCQ
import Derived.Test.YtdmgbhamigegfaaGreatDoorZSpRowTQ
import Derived.Test.YtdmgbhamigegfaaGreatDoorZSpRepQ
import Derived.Test.YtdmgbhamigegfaaGreatDoorS1

section
/- The objects of a front; what an operator that goes by keys wants. -/
set_option linter.unusedSimpArgs false
set_option linter.unusedVariables false
namespace Go.Proofs.YtdmgbhamigegfaaGreatDoor
open Go Go.Abs
abbrev frH (g:List Nd) (outs:List T) (no:Nat) (bads:List (Int×Va)) (last:Bool):List Ob:=[.box [.p (.slice (g.map encN)),.own 1 outs,.own 2 (bads.map encW),.p (.bool last)],.row no 1,.row bads.length 6]
structure KeyOk (o:Opr) (rows:List Va):Prop where
 len:rows.length≤100000
 key:We 1000000000 o.key
 row:∀ x∈rows,Wv 1000000000 x
 int:∀ x∈rows,∀ k,evE o.key x=some (.ok k)→I64 k.i
 red:o.k=5→∃ e,o.es=[e]∧We 1000000000 e
 tal:o.k=6→o.n≠0
end Go.Proofs.YtdmgbhamigegfaaGreatDoor
end

section
/- deno's Whole over trees. -/
set_option linter.unusedSimpArgs false
set_option linter.unusedVariables false
namespace Go.Proofs.YtdmgbhamigegfaaGreatDoor
open Go Go.Abs
attribute [local irreducible] Abs.Fn
def endT:T:=.slice (List.replicate 16 (.int .i64 1000))
theorem zB7 {gt it:T} {n:Nat} {ts:List T} (hit:it=.slice ts) (hts:ts.length=n) (hn:n≤1000) {a b:T} (hfr:Abs.Fn Tryz.prog zfl [] [.p gt,.p it,.p (.slice (List.replicate n endT)),.p (.bool true)] (.p (.agg [a,b])) []) :
  Abs.Fn Tryz.prog zjR [] [.p gt,.p it] (.p (.agg [a,b])) []:=by
 subst hit
 apply zxY
 simp [zr6]
 intro hml
 refine zA (σ:=Nat) (n:=2) (fun j=>[.own 1 (List.replicate j endT),.p (.int .i64 j)]) (fun j=>[.box [.full [],.full []],.row j 1]) (fun j=>j≤n) (fun j=>n - j) [.slot 0 1] 0 (fun _=>rfl) ?_ (by simp) (fun j B hj hB=>?_)
 ·simp [zbN,ghost]
 simp [zqV,hts]
 refine ⟨fun hlt=>?_,fun hge=>?_⟩
 ·refine zo rfl rfl (zAn 1000) ?_
  simp
  refine ⟨⟨fun e he=>?_,by simp [T.cells],by simp; omega⟩, ?_⟩
  ·rw [List.eq_of_mem_replicate he]; rfl
  rw [IntWalk.i64_in _ (by omega)]
  have e:List.replicate j endT++[T.slice [.int .i64 1000,.int .i64 1000,.int .i64 1000,.int .i64 1000,.int .i64 1000,.int .i64 1000,.int .i64 1000,.int .i64 1000,.int .i64 1000,.int .i64 1000,.int .i64 1000,.int .i64 1000,.int .i64 1000,.int .i64 1000,.int .i64 1000,.int .i64 1000]]=List.replicate (j + 1) endT:=by
   rw [List.replicate_succ']; rfl
  rw [e]
  exact hB (j + 1) _ (by omega) (by omega) (by simp) (by simp [Ob.below,AV.under1]) (by simp) (by simp [AV.under,AV.under1])
 ·obtain rfl:j=n:=by omega
  refine zmH [] hfr rfl (by simp [treeQ]) (by simp) (by simp [zcC]) (by simp [AV.under,AV.under1]) (by simp) ?_
  simp [zfP,renF,zcM]
  exact zi (by simp [AV.pur,toTs])
end Go.Proofs.YtdmgbhamigegfaaGreatDoor
end

section
/- Arguments that are inputs of jobs: which trees they are. -/
set_option linter.unusedVariables false
namespace Go.Proofs.YtdmgbhamigegfaaGreatDoor
open Go Go.Abs
theorem typ_Vc (n:Nat) (cs:List T) (h:Typ Tryz.prog n 25 cs):∃ vs:List Va,cs=[.slice (vs.map encV)]:=by
 obtain ⟨m',es,rfl,rfl,he,hl,hes⟩:=zgZ Tryz.underlying25 h
 obtain ⟨vs,g1,g2,g3⟩:=zjV (q:=RgV) (enc:=encV) (f:=elemT Tryz.prog 27) es hes (fun x hx=>by
  obtain ⟨v,_,h5,h6⟩:=typ_V m' x hx
  exact ⟨v,h5,h6⟩)
 exact ⟨vs,by rw [g1]⟩
theorem typ_D (n:Nat) (cs:List T) (h:Typ Tryz.prog n 48 cs):∃ l:List InD,elemT Tryz.prog 48 cs=.slice (l.map encI)∧l.length≤maxLen:=by
 obtain ⟨m',es,rfl,rfl,he,hl,hes⟩:=zgZ Tryz.underlying48 h
 obtain ⟨vs,g1,g2,g3⟩:=zjV (q:=fun _=>True) (enc:=encI) (f:=elemT Tryz.prog 92) es hes (fun x hx=>by
  obtain ⟨m,rfl,he,hs⟩:=zh1 Tryz.underlying92 hx
  obtain ⟨_,_,rfl,h0,_,_,rfl,h1,rfl⟩:=hs
  obtain ⟨nm,rfl,_,_⟩:=zqn Tryz.underlying9 h0
  obtain ⟨ws,rfl⟩:=typ_Vc _ _ h1
  refine ⟨⟨nm,ws⟩, ?_,trivial⟩
  rw [he]
  simp [encI])
 exact ⟨vs,by rw [he,g1],by omega⟩
end Go.Proofs.YtdmgbhamigegfaaGreatDoor
end
