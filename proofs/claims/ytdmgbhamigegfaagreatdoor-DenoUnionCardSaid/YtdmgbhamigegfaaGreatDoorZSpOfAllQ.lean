/- val.TypeOf, val.Is, over trees. -/
import Derived.Test.YtdmgbhamigegfaaGreatDoorZSpValBQ
import Derived.Test.YtdmgbhamigegfaaGreatDoorZSpDec
import Derived.Test.YtdmgbhamigegfaaGreatDoorZSpRepQ

section
/- val.TypeOf, val.Is, over trees. -/
set_option linter.unusedSimpArgs false
set_option linter.unusedVariables false
namespace Go.Proofs.YtdmgbhamigegfaaGreatDoor
open Go Go.Abs
attribute [local irreducible] Abs.Fn
theorem zFI (v:Va) (t:Ty) (h:Wv 1000000000 v):Abs.Fn Tryz.prog zx2 [] [.p (encV v),.p (encT t)] (.p (.bool (isV v t))) []:=by
 apply zE5
 have hc:=zbT v
 have hk:=zkn h
 have hs:=zcX (kindV v) t
 simp [zDG]
 (first | refine zn rfl ?_ | refine zl rfl ?_)
 (first | refine zx (hc) ?_ | refine zq (hc) ?_ | refine zr (hc) ?_ | refine zd (hc) rfl ?_ | refine zd (hc) (by simp [AV.pur]; rfl) ?_)
 try simp
 refine ⟨fun he=>?_,fun hne=>zg (by simp [isV,hne])⟩
 (first | refine zn rfl ?_ | refine zl rfl ?_)
 (first | refine zx (hk) ?_ | refine zq (hk) ?_ | refine zr (hk) ?_ | refine zd (hk) rfl ?_ | refine zd (hk) (by simp [AV.pur]; rfl) ?_)
 try simp
 (first | refine zn rfl ?_ | refine zl rfl ?_)
 (first | refine zx (hs) ?_ | refine zq (hs) ?_ | refine zr (hs) ?_ | refine zd (hs) rfl ?_ | refine zd (hs) (by simp [AV.pur]; rfl) ?_)
 try simp
 exact zg (by simp [isV,he])
end Go.Proofs.YtdmgbhamigegfaaGreatDoor
end

section
/- Rows of values as the document's, and back. -/
set_option linter.unusedSimpArgs false
set_option linter.unusedVariables false
namespace Go.Proofs.YtdmgbhamigegfaaGreatDoor
open Go Go.Abs
attribute [local irreducible] Abs.Fn
theorem zvE (l:List Va) (hw:∀ v∈l,Wv 1000000000 v) (hl:l.length≤1000000):Abs.Fn Tryz.prog zdP [] [.p (.slice (l.map encV))] (.p (.slice (l.map encV))) []:=by
 apply zqP
 simp [ziv]
 refine zA (σ:=Nat) (n:=1) (fun i=>[.own 0 ((l.take i).map encV),.p (.int .i64 i)]) (fun i=>[.row i 5]) (fun i=>i≤l.length) (fun i=>l.length - i) [.slot 0 5] 0 (fun _=>rfl) ?_ (by simp) (fun i B hi hB=>?_)
 ·simp [zbo,ghost]
 simp [zjR]
 intro hml
 refine ⟨fun hlt=>?_,fun hge=>?_⟩
 ·have h2:=zkJ (hw _ (List.getElem_mem hlt))
  simp only [zd7] at h2
  simp [hlt]
  refine zo rfl rfl h2 ?_
  simp [hlt]
  refine ⟨by omega,⟨fun e he=>?_,by simp [T.cells],by simp; omega⟩, ?_⟩
  ·obtain ⟨y,_,rfl⟩:=List.mem_map.1 (List.mem_of_mem_take he); simp
  rw [IntWalk.i64_in _ (by omega)]
  have hs:=zag (l:=l.map encV) (i:=i) (by simpa using hlt)
  simp only [List.getElem_map,zd7] at hs
  rw [hs,← List.map_take]
  exact hB (i + 1) _ (by omega) (by omega) (by simp) (by simp [Ob.below,AV.under1]) (by simp) (by simp [AV.under,AV.under1])
 ·rw [List.take_of_length_le (by simpa using hge)]
  exact zj (by simp [AV.pur])
end Go.Proofs.YtdmgbhamigegfaaGreatDoor
end
