/- An operator as the document's, as short. -/
import Derived.Test.YtdmgbhamigegfaaGreatDoorZSpOut
import Derived.Test.YtdmgbhamigegfaaGreatDoorZPuOp
import Derived.Test.YtdmgbhamigegfaaGreatDoorS1

section
/- An operator as the document's, as short. -/
set_option linter.unusedSimpArgs false
set_option linter.unusedVariables false
namespace Go.Proofs.YtdmgbhamigegfaaGreatDoor
open Go Go.Abs
attribute [local irreducible] Abs.Fn
theorem zFW {o:Opr} (ht:Wd 1000000000 o.t) (hk:We 1000000000 o.key) (hes:∀ e∈o.es,We 1000000000 e) (hl:o.es.length≤1000000):Abs.Fn Tryz.prog zjB [] [.p (encO o)] (.p (encO o)) []:=by
 have h1:=zFV ht
 have h4:=zBC hk
 simp only [zc2,zhn] at h1 h4
 apply zup
 simp [zl5]
 refine zF rfl h1 rfl ?_
 simp
 refine zF rfl h4 rfl ?_
 simp
 refine zA (σ:=Nat) (n:=4) (fun i=>[.p (.int .i64 i)]) (fun i=>[.box (boxO o),.box [.p (.int .i64 0),.p (.str []),.p (.int .i64 0),.full [],.full [],.p (.str []),.p (.int .i64 0),.p (.int .i64 0),.p (.bool false),.p (.str []),.full [],.p (.int .i64 0),.full [],.p (.int .i64 0),.p (.int .i64 0)],
   .box ((boxO o).set 4 (.own 3 ((o.es.map encE).take i))),.row i 8])
  (fun i=>i≤o.es.length) (fun i=>o.es.length - i) [.cell 2 4 8] 0 (fun _=>rfl) (by simp [zbo,ghost]) (by simp) (fun i B hi hB=>?_)
 simp [zmK]
 intro _
 refine ⟨fun hlt=>?_,fun hge=>?_⟩
 ·have hfo:=zBC (hes o.es[i] (by simp))
  simp only [zhn] at hfo
  simp [hlt]
  refine zF rfl hfo rfl ?_
  simp
  refine ⟨by omega,⟨zwn _ _,by simp,by simp; omega⟩, ?_⟩
  rw [IntWalk.i64_in _ (by omega)]
  have:=zag (l:=o.es.map encE) (i:=i) (by simpa using hlt)
  simp only [List.getElem_map,zhn] at this
  rw [this]
  exact hB (i + 1) _ (by omega) (by omega) (by simp) (by simp [Ob.below,AV.under1]) (by simp) (by simp [AV.under,AV.under1])
 ·rw [List.take_of_length_le (by simpa using hge)]
  exact zj (by simp [AV.pur,Function.comp_def])
def fewO (o:Opr):Bool:=decide (o.name.length≤50) && fewT o.t && decide (o.es.length≤8) && fewE o.key && o.es.all fewE
theorem zEC (o:Opr):Abs.Fn Tryz.prog zix [] [.p (encO o)] (.p (.bool (fewO o))) []:=by
 have h1:=zEB o.t
 have h4:=zy0 o.key
 simp only [zc2,zhn] at h1 h4
 apply ztr
 simp [zk0]
 intro _
 refine zz (!fewT o.t) (fun _=>?_) ?_
 ·refine zo rfl rfl h1 ?_
  simp
 simp
 refine zz (!fewE o.key) (fun _=>?_) ?_
 ·refine zo rfl rfl h4 ?_
  simp
 simp
 refine ⟨fun h=>zg ?_,fun q1 q2 q3 q4=>?_⟩
 ·have:fewO o=false:=by
   simp only [fewO]
   grind
  rw [this]
 ·have hf:fewO o=o.es.all fewE:=by simp only [fewO]; simp; grind
  rw [hf]
  refine zA (σ:=Nat) (n:=1) (fun i=>[.p (.int .i64 i)]) (fun i=>[.box (boxO o)]) (fun i=>i≤o.es.length∧(o.es.drop i).all fewE=o.es.all fewE) (fun i=>o.es.length - i) [] 0 (fun _=>rfl) ⟨rfl,by simp⟩ (by simp) (fun i B hi hB=>?_)
  obtain ⟨g1,g2⟩:=hi
  generalize hA:o.es.all fewE=A at *
  simp [zlz]
  intro _
  refine ⟨fun hlt=>?_,fun hge=>?_⟩
  ·have hd:=zkt fewE o.es i hlt
   have hfe:=zy0 o.es[i]
   simp only [zhn] at hfe
   rw [g2] at hd
   simp [hlt]
   refine zo rfl rfl hfe ?_
   simp
   refine ⟨fun hz=>zg (by rw [hd,hz]; rfl),fun hz=>?_⟩
   rw [IntWalk.i64_in _ (by omega)]
   exact hB (i + 1) _ ⟨by omega,by rw [hd,hz]; rfl⟩ (by omega) (by simp) (by simp [Ob.below,AV.under1]) (by simp) (by simp [AV.under,AV.under1])
  ·rw [List.drop_of_length_le hge] at g2
   exact zg (by rw [← g2]; rfl)
end Go.Proofs.YtdmgbhamigegfaaGreatDoor
end

section
/- What an operator that may be has. -/
set_option linter.unusedSimpArgs false
set_option linter.unusedVariables false
namespace Go.Proofs.YtdmgbhamigegfaaGreatDoor
open Go Go.Abs
attribute [local irreducible] Abs.Fn
theorem zCT {o:Opr} (h:fewO o=true):Wd 1000000000 o.t∧(We 1000000000 o.key∧sizeE o.key≤400)∧(∀ e∈o.es,We 1000000000 e∧sizeE e≤400)∧o.es.length≤8:=by
 simp only [fewO,Bool.and_eq_true,decide_eq_true_eq,List.all_eq_true] at h
 obtain ⟨⟨⟨⟨_,h2⟩,h3⟩,h4⟩,h5⟩:=h
 have hk:=zw0 h4
 exact ⟨zCU h2,⟨hk.1.mono (by omega),hk.2⟩,fun e he=>by have:=zw0 (h5 e he); exact ⟨this.1.mono (by omega),this.2⟩,h3⟩
theorem zFs {t:Ty}:∀ {a:List Ex} {f:Int},ckO t a=.er f→f≠0
 | [],f,h=>by simp [ckO] at h
 | x::r,f,h=>by
  simp only [ckO] at h
  cases hx:zaL x t with
  | er g=>rw [hx] at h; simp only at h; cases h; exact zmj hx
  | ok u =>
   rw [hx] at h
   simp only at h
   cases hr:ckO t r with
   | er g=>rw [hr] at h; simp only at h; cases h; exact zFs hr
   | ok m=>rw [hr] at h; simp at h
theorem zFR {o:Opr} {ins:List Ty} {key:Ty} {ts:List Ty} {f:Int} (h:madeO o ins key ts=.er f):f≠0:=by
 unfold madeO at h
 repeat' split at h
 all_goals first
  | (simp at h; done)
  | (cases h; decide)
  | (cases h; assumption)
theorem outO_er {o:Opr} {ins:List Ty} {f:Int} (h:outO o ins=.er f):f≠0:=by
 unfold outO at h
 split at h
 ·cases h; decide
 split at h
 ·cases h; decide
 split at h
 ·cases h; decide
 split at h
 ·cases h; decide
 split at h
 ·split at h
  ·cases h; decide
  ·simp at h
 split at h
 ·rename_i hx
  cases h
  split at hx
  ·exact zmj hx
  ·simp at hx
 ·split at h
  ·rename_i hx
   cases h
   exact zFs hx
  ·exact zFR h
end Go.Proofs.YtdmgbhamigegfaaGreatDoor
end
