/- val.TypeOf, val.Is, over trees. -/
import Derived.Test.YtdmgbhamigegfaaGreatDoorZSpValBQ
import Derived.Test.YtdmgbhamigegfaaGreatDoorZSpDec
set_option linter.unusedSimpArgs false
set_option linter.unusedVariables false
namespace Go.Proofs.YtdmgbhamigegfaaGreatDoor
open Go Go.Abs
attribute [local irreducible] Abs.Fn
theorem is2_spec (v:Va) (t:Ty) (h:Wv 1000000000 v):Abs.Fn Tryz.prog val_Is_i [] [.p (encV v),.p (encT t)] (.p (.bool (isV v t))) []:=by
 apply val_Is_fn
 have hc:=Checkv_spec v
 have hk:=kind_spec h
 have hs:=same_spec (kindV v) t
 simp [val_Is]
 (first | refine aCall_fold rfl ?_ | refine aCallT_fold rfl ?_)
 (first | refine aCallU_p (hc) ?_ | refine aCallTU_p (hc) ?_ | refine aCallU_of (hc) ?_ | refine aCallTU_of (hc) rfl ?_ | refine aCallTU_of (hc) (by simp [AV.pur]; rfl) ?_)
 try simp
 refine ⟨fun he=>?_,fun hne=>gives_p (by simp [isV,hne])⟩
 (first | refine aCall_fold rfl ?_ | refine aCallT_fold rfl ?_)
 (first | refine aCallU_p (hk) ?_ | refine aCallTU_p (hk) ?_ | refine aCallU_of (hk) ?_ | refine aCallTU_of (hk) rfl ?_ | refine aCallTU_of (hk) (by simp [AV.pur]; rfl) ?_)
 try simp
 (first | refine aCall_fold rfl ?_ | refine aCallT_fold rfl ?_)
 (first | refine aCallU_p (hs) ?_ | refine aCallTU_p (hs) ?_ | refine aCallU_of (hs) ?_ | refine aCallTU_of (hs) rfl ?_ | refine aCallTU_of (hs) (by simp [AV.pur]; rfl) ?_)
 try simp
 exact gives_p (by simp [isV,he])
end Go.Proofs.YtdmgbhamigegfaaGreatDoor
