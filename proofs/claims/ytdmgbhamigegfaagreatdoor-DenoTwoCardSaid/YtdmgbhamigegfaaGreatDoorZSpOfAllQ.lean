/- val.TypeOf, val.Is, over trees. -/
import Derived.Test.YtdmgbhamigegfaaGreatDoorZSpValBQ
import Derived.Test.YtdmgbhamigegfaaGreatDoorZSpDec
import Derived.Test.YtdmgbhamigegfaaGreatDoorZSpRepQ

section
/- val.TypeOf, val.Is, over trees. -/
set_option linter.unusedSimpArgs false
set_option linter.unusedVariables false
namespace Go.Proofs.YtdmgbhamigegfaaGreatDoor
open Go Go.Abs
attribute [local irreducible] Abs.Fn
theorem is2_spec (v:Va) (t:Ty) (h:Wv 1000000000 v):Abs.Fn Tryz.prog val_Is_i [] [.p (encV v),.p (encT t)] (.p (.bool (isV v t))) []:=by
 apply val_Is_fn
 have hc:=Checkv_spec v
 have hk:=kind_spec h
 have hs:=same_spec (kindV v) t
 simp [val_Is]
 (first | refine aCall_fold rfl ?_ | refine aCallT_fold rfl ?_)
 (first | refine aCallU_p (hc) ?_ | refine aCallTU_p (hc) ?_ | refine aCallU_of (hc) ?_ | refine aCallTU_of (hc) rfl ?_ | refine aCallTU_of (hc) (by simp [AV.pur]; rfl) ?_)
 try simp
 refine ⟨fun he=>?_,fun hne=>gives_p (by simp [isV,hne])⟩
 (first | refine aCall_fold rfl ?_ | refine aCallT_fold rfl ?_)
 (first | refine aCallU_p (hk) ?_ | refine aCallTU_p (hk) ?_ | refine aCallU_of (hk) ?_ | refine aCallTU_of (hk) rfl ?_ | refine aCallTU_of (hk) (by simp [AV.pur]; rfl) ?_)
 try simp
 (first | refine aCall_fold rfl ?_ | refine aCallT_fold rfl ?_)
 (first | refine aCallU_p (hs) ?_ | refine aCallTU_p (hs) ?_ | refine aCallU_of (hs) ?_ | refine aCallTU_of (hs) rfl ?_ | refine aCallTU_of (hs) (by simp [AV.pur]; rfl) ?_)
 try simp
 exact gives_p (by simp [isV,he])
end Go.Proofs.YtdmgbhamigegfaaGreatDoor
end

section
/- Rows of values as the document's, and back. -/
set_option linter.unusedSimpArgs false
set_option linter.unusedVariables false
namespace Go.Proofs.YtdmgbhamigegfaaGreatDoor
open Go Go.Abs
attribute [local irreducible] Abs.Fn
theorem OfAll_spec (l:List Va) (hw:∀ v ∈ l,Wv 1000000000 v) (hl:l.length ≤ 1000000):Abs.Fn Tryz.prog runnellaw2_OfAll_i [] [.p (.slice (l.map encV))] (.p (.slice (l.map encV))) []:=by
 apply runnellaw2_OfAll_fn
 simp [runnellaw2_OfAll]
 refine loop_by (σ:=Nat) (n:=1) (fun i=>[.own 0 ((l.take i).map encV),.p (.int .i64 i)]) (fun i=>[.row i 5]) (fun i=>i ≤ l.length) (fun i=>l.length - i) [.slot 0 5] 0 (fun _=>rfl) ?_ (by simp) (fun i B hi hB=>?_)
 ·simp [ghosts,ghost]
 simp [runnellaw2_OfAll_L1]
 intro hml
 refine ⟨fun hlt=>?_,fun hge=>?_⟩
 ·have h2:=of2_spec (hw _ (List.getElem_mem hlt))
  simp only [encV_eta] at h2
  simp [hlt]
  refine aCallW_of rfl rfl h2 ?_
  simp [hlt]
  refine ⟨by omega,⟨fun e he=>?_,by simp [T.cells],by simp; omega⟩, ?_⟩
  ·obtain ⟨y,_,rfl⟩:=List.mem_map.1 (List.mem_of_mem_take he); simp
  rw [IntWalk.i64_in _ (by omega)]
  have hs:=take_snoc (l:=l.map encV) (i:=i) (by simpa using hlt)
  simp only [List.getElem_map,encV_eta] at hs
  rw [hs,← List.map_take]
  exact hB (i + 1) _ (by omega) (by omega) (by simp) (by simp [Ob.below,AV.under1]) (by simp) (by simp [AV.under,AV.under1])
 ·rw [List.take_of_length_le (by simpa using hge)]
  exact gives_pure (by simp [AV.pur])
theorem To2V_spec {v:Va} (h:Wv 1000000000 v):Abs.Fn Tryz.prog runnellaw2_To_i [] [.p (encV v)] (.p (encV v)) []:=by
 induction h with
 | mk k i b s t hs hl ho ih =>
  apply runnellaw2_To_fn
  simp [runnellaw2_To]
  refine loop_by (σ:=Nat) (n:=4) (fun j=>[.p (.int .i64 j)]) (fun j=>[.box [.p (.int .i64 k),.p (.int .i64 i),.p (.bool b),.p (.str s),.p (.slice (t.map encV))],.box [.p (.int .i64 0),.p (.int .i64 0),.p (.bool false),.p (.str []),.full []],
   .box [.p (.int .i64 k),.p (.int .i64 i),.p (.bool b),.p (.str s),.own 3 ((t.map encV).take j)],.row j 5])
   (fun j=>j ≤ t.length) (fun j=>t.length - j) [.cell 2 4 5] 0 (fun _=>rfl) ⟨rfl,rfl⟩ (by simp) (fun j B hj hB=>?_)
  simp [runnellaw2_To_L1]
  intro _
  refine ⟨fun hlt=>?_,fun hge=>?_⟩
  ·have hi:=ih t[j] (by simp)
   simp only [encV_eta] at hi
   simp [hlt]
   refine aCallT_of rfl hi rfl ?_
   simp
   refine ⟨by omega,⟨encV_sizeT t j,by simp,by simp; omega⟩, ?_⟩
   simp (disch:=omega) only [IntWalk.i64_in]
   have:=take_snoc (l:=t.map encV) (i:=j) (by simpa using hlt)
   simp only [List.getElem_map,encV_eta] at this
   rw [this]
   exact hB (j + 1) _ (by omega) (by omega) (by simp) (by simp [Ob.below,AV.under1]) (by simp) (by simp [AV.under,AV.under1])
  ·rw [List.take_of_length_le (by simpa using hge)]
   exact gives_pure (by simp [AV.pur,Function.comp_def])
theorem ToAll_spec (l:List Va) (hw:∀ v ∈ l,Wv 1000000000 v) (hl:l.length ≤ 1000000):Abs.Fn Tryz.prog runnellaw2_ToAll_i [] [.p (.slice (l.map encV))] (.p (.slice (l.map encV))) []:=by
 apply runnellaw2_ToAll_fn
 simp [runnellaw2_ToAll]
 refine loop_by (σ:=Nat) (n:=1) (fun i=>[.own 0 ((l.take i).map encV),.p (.int .i64 i)]) (fun i=>[.row i 5]) (fun i=>i ≤ l.length) (fun i=>l.length - i) [.slot 0 5] 0 (fun _=>rfl) ?_ (by simp) (fun i B hi hB=>?_)
 ·simp [ghosts,ghost]
 simp [runnellaw2_ToAll_L1]
 intro hml
 refine ⟨fun hlt=>?_,fun hge=>?_⟩
 ·have h2:=To2V_spec (hw _ (List.getElem_mem hlt))
  simp only [encV_eta] at h2
  simp [hlt]
  refine aCallW_of rfl rfl h2 ?_
  simp [hlt]
  refine ⟨by omega,⟨fun e he=>?_,by simp [T.cells],by simp; omega⟩, ?_⟩
  ·obtain ⟨y,_,rfl⟩:=List.mem_map.1 (List.mem_of_mem_take he); simp
  rw [IntWalk.i64_in _ (by omega)]
  have hs:=take_snoc (l:=l.map encV) (i:=i) (by simpa using hlt)
  simp only [List.getElem_map,encV_eta] at hs
  rw [hs,← List.map_take]
  exact hB (i + 1) _ (by omega) (by omega) (by simp) (by simp [Ob.below,AV.under1]) (by simp) (by simp [AV.under,AV.under1])
 ·rw [List.take_of_length_le (by simpa using hge)]
  exact gives_pure (by simp [AV.pur])
end Go.Proofs.YtdmgbhamigegfaaGreatDoor
end
