/- The law DenoCheck. -/
import Derived.Test.YtdmgbhamigegfaaGreatDoorZSpLaw10Q
import Derived.Test.YtdmgbhamigegfaaGreatDoorZSpChkIn
import Derived.Test.YtdmgbhamigegfaaGreatDoorZSpOutsQ
set_option linter.unusedSimpArgs false
set_option linter.unusedVariables false
namespace Go.Proofs.YtdmgbhamigegfaaGreatDoor
open Go Go.Abs
attribute [local irreducible] Abs.Fn
theorem zFN:∀ (r ahead:List Nd),goR ahead r=none→∀ n∈r,1≤n.mx
 | [],ahead,h,n,hn=>by simp at hn
 | x::r,ahead,h,n,hn=>by
  rw [goR] at h
  split at h
  ·simp at h
  ·rename_i h0
   have h1:nodeG ahead (zcd [] ahead) x=0:=by omega
   rcases List.mem_cons.1 hn with rfl | hn
   ·unfold nodeG at h1
    split at h1
    ·simp at h1
    split at h1
    ·simp at h1
    split at h1
    ·simp at h1
    omega
   ·exact zFN r _ h n hn
theorem zFg:∀ (r ahead:List Nd) (i:Nat) (e:Int),goR ahead r=some (i,e)→e≠0
 | [],ahead,i,e,h=>by simp [goR] at h
 | n::r,ahead,i,e,h=>by
  rw [goR] at h
  split at h
  ·simp at h; rename_i h0; rw [← h.2]; exact h0
  ·exact zFg r _ i e h
theorem zEE {g:List Nd} (h:(zjh g).2=0):∀ n∈g,1≤n.mx:=by
 unfold zjh at h
 split at h
 ·simp at h
 split at h
 ·simp at h
 cases hg:goR [] g with
 | some p =>
  obtain ⟨i,e⟩:=p
  rw [hg] at h
  exact absurd h (zFg _ _ i e hg)
 | none=>exact zFN g [] hg
set_option maxRecDepth 100000 in
theorem zwG (g:List Nd) (ins:List InD) (r:Int) (hr:0≤r∧r≤65535):Abs.Fn Tryz.prog zgY [] [.p (.slice (g.map encN)),.p (.slice (ins.map encI)),.p (.int .u16 r)] (.p (.bool true)) []:=by
 apply zlM
 simp [zeb]
 refine zo rfl rfl zyZ ?_
 simp
 refine zo rfl rfl (zEg g) ?_
 simp
 refine zz (!fewI ins) (fun _=>?_) ?_
 ·refine zo rfl rfl (zDS ins) ?_
  simp
 simp
 refine ⟨fun _=>zg rfl,fun hfg hfi=>?_⟩
 obtain ⟨hgl,hg⟩:=fewG_ok hfg
 obtain ⟨hil,hi⟩:=fewI_ok hfi
 have hok:∀ n∈g,OkN n:=fun n hn=>(hg n hn).1
 have hwv:∀ x∈ins,∀ v∈x.rows,Wv 1000000000 v:=fun x hx v hv=>Wv.mono (by omega) ((hi x hx).2 v hv)
 refine zo rfl rfl (zE2 g hg (by omega)) ?_
 simp
 refine zo rfl rfl (zzJ ins (by omega) fun x hx=>⟨by have:=(hi x hx).1; omega,hwv x hx⟩) ?_
 simp
 refine zo rfl rfl (ztH g hok (by omega) ins (by omega) (fun x hx=>by have:=(hi x hx).1; omega) hwv) ?_
 simp
 refine zo rfl rfl (zpZ g hok (by omega) ins (by omega) (fun x hx=>by have:=(hi x hx).1; omega) hwv) ?_
 simp
 refine zo rfl rfl (zuM g 1 (by omega)) ?_
 simp
 have hlt:∀ x∈zas 1 0 g,0≤x∧x < (g.length:Int):=fun x hx=>by
  have a:=zgW g 0 x hx
  have b:=ziM g 0 x hx
  exact ⟨by omega,by simpa using b⟩
 have hcd:zky g ins=0→∀ n∈g,1≤n.mx:=fun h=>by
  refine zEE ?_
  rw [← zyN]
  unfold zky at h
  by_cases h0:(zia g).2=0
  ·exact h0
  ·rw [if_pos h0] at h; exact absurd h h0
 generalize zas 1 0 g=src at *
 generalize zky g ins=E at *
 refine ⟨fun _=>zg rfl,fun hE hne=>?_⟩
 have hsl:0 < src.length:=List.length_pos_iff.2 hne
 obtain ⟨m,hm⟩:∃ m:Nat,src[0]=m:=⟨src[0].toNat,by have:=hlt _ (List.getElem_mem hsl); omega⟩
 have hmg:m < g.length:=by have:=hlt _ (List.getElem_mem hsl); omega
 have hmx:=hcd hE _ (List.getElem_mem hmg)
 have hw:IntKind.i64.wrap r=r:=IntWalk.i64_in _ (by omega)
 have hsp:=zrT g m hmg r (by omega)
 simp [hsl,hm,hmg,hw]
 refine zH rfl hsp rfl ?_
 simp [hsl,hm,hmg,hw]
 exact ⟨by omega,zg rfl⟩
end Go.Proofs.YtdmgbhamigegfaaGreatDoor
