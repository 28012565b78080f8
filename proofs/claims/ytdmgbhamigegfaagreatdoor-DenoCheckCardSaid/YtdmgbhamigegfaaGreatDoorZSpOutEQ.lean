/- An operator as the document's, as short. -/
import Derived.Test.YtdmgbhamigegfaaGreatDoorZSpOut
import Derived.Test.YtdmgbhamigegfaaGreatDoorZPuOp
import Derived.Test.YtdmgbhamigegfaaGreatDoorS1
import Derived.Test.YtdmgbhamigegfaaGreatDoorZSpBudTQ
import Derived.Test.YtdmgbhamigegfaaGreatDoorZSpRowOQ

section
/- An operator as the document's, as short. -/
set_option linter.unusedSimpArgs false
set_option linter.unusedVariables false
namespace Go.Proofs.YtdmgbhamigegfaaGreatDoor
open Go Go.Abs
attribute [local irreducible] Abs.Fn
theorem zES {o:Opr} (ht:Wd 1000000000 o.t) (hk:We 1000000000 o.key) (hes:∀ e∈o.es,We 1000000000 e) (hl:o.es.length≤1000000):Abs.Fn Tryz.prog zjj [] [.p (encO o)] (.p (encO o)) []:=by
 have h1:=zFc ht
 have h4:=zBf hk
 simp only [zcI,zhb] at h1 h4
 apply zub
 simp [zlD]
 refine zH rfl h1 rfl ?_
 simp
 refine zH rfl h4 rfl ?_
 simp
 refine zA (σ:=Nat) (n:=4) (fun i=>[.p (.int .i64 i)]) (fun i=>[.box (boxO o),.box [.p (.int .i64 0),.p (.str []),.p (.int .i64 0),.full [],.full [],.p (.str []),.p (.int .i64 0),.p (.int .i64 0),.p (.bool false),.p (.str []),.full [],.p (.int .i64 0),.full [],.p (.int .i64 0),.p (.int .i64 0)],
   .box ((boxO o).set 4 (.own 3 ((o.es.map encE).take i))),.row i 8])
  (fun i=>i≤o.es.length) (fun i=>o.es.length - i) [.cell 2 4 8] 0 (fun _=>rfl) (by simp [zbN,ghost]) (by simp) (fun i B hi hB=>?_)
 simp [zmn]
 intro _
 refine ⟨fun hlt=>?_,fun hge=>?_⟩
 ·have hfo:=zBf (hes o.es[i] (by simp))
  simp only [zhb] at hfo
  simp [hlt]
  refine zH rfl hfo rfl ?_
  simp
  refine ⟨by omega,⟨zwT _ _,by simp,by simp; omega⟩, ?_⟩
  rw [IntWalk.i64_in _ (by omega)]
  have:=zal (l:=o.es.map encE) (i:=i) (by simpa using hlt)
  simp only [List.getElem_map,zhb] at this
  rw [this]
  exact hB (i + 1) _ (by omega) (by omega) (by simp) (by simp [Ob.below,AV.under1]) (by simp) (by simp [AV.under,AV.under1])
 ·rw [List.take_of_length_le (by simpa using hge)]
  exact zi (by simp [AV.pur,Function.comp_def])
def fewO (o:Opr):Bool:=decide (o.name.length≤50) && fewT o.t && decide (o.es.length≤8) && fewE o.key && o.es.all fewE
theorem zEm (o:Opr):Abs.Fn Tryz.prog zh5 [] [.p (encO o)] (.p (.bool (fewO o))) []:=by
 have h1:=zEz o.t
 have h4:=zyU o.key
 simp only [zcI,zhb] at h1 h4
 apply zs6
 simp [zkN]
 intro _
 refine zz (!fewT o.t) (fun _=>?_) ?_
 ·refine zo rfl rfl h1 ?_
  simp
 simp
 refine zz (!fewE o.key) (fun _=>?_) ?_
 ·refine zo rfl rfl h4 ?_
  simp
 simp
 refine ⟨fun h=>zg ?_,fun q1 q2 q3 q4=>?_⟩
 ·have:fewO o=false:=by
   simp only [fewO]
   grind
  rw [this]
 ·have hf:fewO o=o.es.all fewE:=by simp only [fewO]; simp; grind
  rw [hf]
  refine zA (σ:=Nat) (n:=1) (fun i=>[.p (.int .i64 i)]) (fun i=>[.box (boxO o)]) (fun i=>i≤o.es.length∧(o.es.drop i).all fewE=o.es.all fewE) (fun i=>o.es.length - i) [] 0 (fun _=>rfl) ⟨rfl,by simp⟩ (by simp) (fun i B hi hB=>?_)
  obtain ⟨g1,g2⟩:=hi
  generalize hA:o.es.all fewE=A at *
  simp [zlg]
  intro _
  refine ⟨fun hlt=>?_,fun hge=>?_⟩
  ·have hd:=zkk fewE o.es i hlt
   have hfe:=zyU o.es[i]
   simp only [zhb] at hfe
   rw [g2] at hd
   simp [hlt]
   refine zo rfl rfl hfe ?_
   simp
   refine ⟨fun hz=>zg (by rw [hd,hz]; rfl),fun hz=>?_⟩
   rw [IntWalk.i64_in _ (by omega)]
   exact hB (i + 1) _ ⟨by omega,by rw [hd,hz]; rfl⟩ (by omega) (by simp) (by simp [Ob.below,AV.under1]) (by simp) (by simp [AV.under,AV.under1])
  ·rw [List.drop_of_length_le hge] at g2
   exact zg (by rw [← g2]; rfl)
end Go.Proofs.YtdmgbhamigegfaaGreatDoor
end

section
/- What an operator that may be has. -/
set_option linter.unusedSimpArgs false
set_option linter.unusedVariables false
namespace Go.Proofs.YtdmgbhamigegfaaGreatDoor
open Go Go.Abs
attribute [local irreducible] Abs.Fn
theorem zzH (t:Ty):∀ (a:List Ex) (l:List Ty),ckO t a=.ok l→∀ e∈a,∃ u,zaa e t=.ok u
 | [],l,h,e,he=>by simp at he
 | x::r,l,h,e,he=>by
  simp only [ckO] at h
  cases hx:zaa x t with
  | er f=>rw [hx] at h; simp at h
  | ok u =>
   rw [hx] at h
   simp only at h
   cases hr:ckO t r with
   | er f=>rw [hr] at h; simp at h
   | ok m =>
    rcases List.mem_cons.1 he with rfl | he
    ·exact ⟨u,hx⟩
    ·exact zzH t r m hr e he
theorem zoW {o:Opr} (h:zbe o=true):(o.k=2∨o.k=3∨o.k=5→o.es.length=1)∧(o.k=4→1≤o.es.length∧o.es.length≤4)∧(¬ (o.k=2∨o.k=3∨o.k=5)→o.k≠4→o.es=[]):=by
 simp only [zbe,Bool.and_eq_true] at h
 have:=h.1.1.1.2
 refine ⟨fun hk=>?_,fun hk=>?_,fun h1 h2=>?_⟩
 ·rw [if_pos hk] at this; simpa using this
 ·rw [if_neg (by omega),if_pos hk] at this; simpa using this
 ·rw [if_neg h1,if_neg h2] at this; simpa using this
theorem outO_ok {o:Opr} {ins:List Ty} {r:Ty} (h:outO o ins=.ok r):zbe o=true∧insO o.k ins.length=true∧(1≤o.k∧o.k≤9)∧(∀ e∈o.es,∃ u,zaa e (ins.getD 0 (.mk 0 []))=.ok u)∧(zae o.k=true→∃ u,zaa o.key (ins.getD 0 (.mk 0 []))=.ok u):=by
 unfold outO at h
 by_cases h1:o.k < 1∨9 < o.k
 ·rw [if_pos h1] at h; simp at h
 rw [if_neg h1] at h
 by_cases h2:(o.k=1∨o.k=9)∧nameS o.name=false
 ·rw [if_pos h2] at h; simp at h
 rw [if_neg h2] at h
 by_cases h3:zbe o=false∨insO o.k ins.length=false
 ·rw [if_pos h3] at h; simp at h
 rw [if_neg h3] at h
 have hf:zbe o=true:=by cases hh:zbe o <;> simp_all
 have hi:insO o.k ins.length=true:=by cases hh:insO o.k ins.length <;> simp_all
 refine ⟨hf,hi,by omega, ?_⟩
 by_cases h4:ins.any (fun t=>decide (zD t 0≠0))=true
 ·rw [if_pos h4] at h; simp at h
 rw [if_neg h4] at h
 by_cases h5:o.k=1
 ·refine ⟨fun e he=>?_,fun hk=>?_⟩
  ·rw [(zoW hf).2.2 (by omega) (by omega)] at he; simp at he
  ·simp [zae,h5] at hk
 ·rw [if_neg h5] at h
  by_cases h6:zae o.k=true
  ·rw [if_pos h6] at h
   cases hk:zaa o.key (ins.getD 0 (.mk 0 [])) with
   | er f=>rw [hk] at h; simp at h
   | ok u =>
    rw [hk] at h
    simp only at h
    cases hc:ckO (ins.getD 0 (.mk 0 [])) o.es with
    | er f=>rw [hc] at h; simp at h
    | ok l=>exact ⟨zzH _ _ l hc,fun _=>⟨u,rfl⟩⟩
  ·rw [if_neg h6] at h
   simp only at h
   cases hc:ckO (ins.getD 0 (.mk 0 [])) o.es with
   | er f=>rw [hc] at h; simp at h
   | ok l=>exact ⟨zzH _ _ l hc,fun hh=>absurd hh h6⟩
theorem zDe {o:Opr} (h:fewO o=true):Wd 1000000000 o.t∧(We 1000000000 o.key∧sizeE o.key≤400)∧(∀ e∈o.es,We 1000000000 e∧sizeE e≤400)∧o.es.length≤8:=by
 simp only [fewO,Bool.and_eq_true,decide_eq_true_eq,List.all_eq_true] at h
 obtain ⟨⟨⟨⟨_,h2⟩,h3⟩,h4⟩,h5⟩:=h
 have hk:=zv0 h4
 exact ⟨zCn h2,⟨hk.1.mono (by omega),hk.2⟩,fun e he=>by have:=zv0 (h5 e he); exact ⟨this.1.mono (by omega),this.2⟩,h3⟩
theorem zFa {t:Ty}:∀ {a:List Ex} {f:Int},ckO t a=.er f→f≠0
 | [],f,h=>by simp [ckO] at h
 | x::r,f,h=>by
  simp only [ckO] at h
  cases hx:zaa x t with
  | er g=>rw [hx] at h; simp only at h; cases h; exact zmG hx
  | ok u =>
   rw [hx] at h
   simp only at h
   cases hr:ckO t r with
   | er g=>rw [hr] at h; simp only at h; cases h; exact zFa hr
   | ok m=>rw [hr] at h; simp at h
theorem zFr {o:Opr} {ins:List Ty} {key:Ty} {ts:List Ty} {f:Int} (h:madeO o ins key ts=.er f):f≠0:=by
 unfold madeO at h
 repeat' split at h
 all_goals first
  | (simp at h; done)
  | (cases h; decide)
  | (cases h; assumption)
theorem outO_er {o:Opr} {ins:List Ty} {f:Int} (h:outO o ins=.er f):f≠0:=by
 unfold outO at h
 split at h
 ·cases h; decide
 split at h
 ·cases h; decide
 split at h
 ·cases h; decide
 split at h
 ·cases h; decide
 split at h
 ·split at h
  ·cases h; decide
  ·simp at h
 split at h
 ·rename_i hx
  cases h
  split at hx
  ·exact zmG hx
  ·simp at hx
 ·split at h
  ·rename_i hx
   cases h
   exact zFa hx
  ·exact zFr h
end Go.Proofs.YtdmgbhamigegfaaGreatDoor
end

section
/- The types that go out of operators, as the program and as the document find them, are the same. -/
set_option linter.unusedSimpArgs false
set_option linter.unusedVariables false
namespace Go.Proofs.YtdmgbhamigegfaaGreatDoor
open Go Go.Abs
theorem zsG {e:Ex} {t u:Ty} (h:zaa e t=.ok u):zD u 0=0:=by
 unfold zaa at h
 split at h
 ·simp at h
 split at h
 ·simp at h
 ·rename_i h1 _
  exact zyX e t 0 u h (Classical.not_not.1 h1)
theorem zyW {t:Ty}:∀ {es:List Ex} {ts:List Ty},ckO t es=.ok ts→ts.length=es.length ∧ ∀ u∈ts,zD u 0=0
 | [],ts,h=>by
  simp only [ckO,R.ok.injEq] at h
  subst h
  simp
 | e::r,ts,h=>by
  simp only [ckO] at h
  split at h
  ·simp at h
  ·rename_i u hu
   split at h
   ·simp at h
   ·rename_i l hl
    simp only [R.ok.injEq] at h
    subst h
    obtain ⟨h1,h2⟩:=zyW hl
    refine ⟨by simp [h1],fun v hv=>?_⟩
    rcases List.mem_cons.1 hv with rfl | hv
    ·exact zsG hu
    ·exact h2 v hv
theorem zkU {l:List Ty} (h:∀ u∈l,zD u 0=0) (hl:0 < l.length):zD (l.getD 0 (.mk 0 [])) 0=0:=by
 cases l with
 | nil=>simp at hl
 | cons a r=>exact h a (by simp)
theorem outP_of {o:Opr} {ins:List Ty} {t:Ty} (h:outO o ins=.ok t):outP o ins=.ok t:=by
 unfold outO at h
 unfold outP
 by_cases h1:o.k < 1∨9 < o.k
 ·rw [if_pos h1] at h; simp at h
 rw [if_neg h1] at h ⊢
 by_cases h2:(o.k=1∨o.k=9)∧nameS o.name=false
 ·rw [if_pos h2] at h; simp at h
 rw [if_neg h2] at h ⊢
 by_cases h3:zbe o=false∨insO o.k ins.length=false
 ·rw [if_pos h3] at h; simp at h
 rw [if_neg h3] at h ⊢
 have hf:zbe o=true:=by cases hh:zbe o <;> simp_all
 have hi:insO o.k ins.length=true:=by cases hh:insO o.k ins.length <;> simp_all
 by_cases h4:ins.any (fun t=>decide (zD t 0≠0))=true
 ·rw [if_pos h4] at h; simp at h
 rw [if_neg h4] at h
 have hv:∀ u∈ins,zD u 0=0:=by
  intro u hu
  by_cases hz:zD u 0=0
  ·exact hz
  ·exact absurd (List.any_eq_true.2 ⟨u,hu,by simpa using hz⟩) h4
 by_cases h5:o.k=1
 ·rw [if_pos h5] at h
  split at h
  ·simp at h
  ·rename_i ht
   have ht:=Classical.not_not.1 ht
   rw [if_neg (by simp only [not_or,not_and]; exact ⟨h4,fun _=>Classical.not_not.2 ht⟩)]
   have hk:zae o.k=false:=by simp [zae,h5]
   have hes:o.es=[]:=(zoW hf).2.2 (by omega) (by omega)
   simp only [hk,hes,ckO,Bool.false_eq_true,if_false]
   have hfit:fitsO o [] ins=true:=by simp [fitsO,h5]
   have hg:goesO o noT [] ins=o.t:=by simp [goesO,h5]
   rw [lastO,hfit,hg,if_neg (by simp),if_neg (by simpa using ht)]
   exact h
 ·rw [if_neg h5] at h
  rw [if_neg (by simp only [not_or,not_and]; exact ⟨h4,fun e=>absurd e h5⟩)]
  split at h
  ·simp at h
  ·rename_i key hkey
   have hkey':(if zae o.k=true then zaa o.key (ins.getD 0 noT) else .ok noT)=R.ok key:=hkey
   rw [hkey']
   simp only
   have hkv:zae o.k=true→zD key 0=0:=by
    intro hk
    rw [if_pos hk] at hkey
    exact zsG hkey
   split at h
   ·simp at h
   ·rename_i ts hts
    obtain ⟨hl,htv⟩:=zyW hts
    have hts':ckO (ins.getD 0 noT) o.es=.ok ts:=hts
    rw [hts']
    simp only
    unfold madeO at h
    unfold lastO
    have hlen:=zoW hf
    have fin:∀ u,fitsO o ts ins=true→goesO o key ts ins=u→zD u 0=0→R.ok u=R.ok t→(if fitsO o ts ins=false then R.er 5 else if zD (goesO o key ts ins) 0≠0 then .er (zD (goesO o key ts ins) 0) else .ok (goesO o key ts ins))=R.ok t:=by
     intro u a b c d
     rw [a,b,if_neg (by simp),if_neg (by simpa using c)]
     exact d
    have hn:(∀ k,noT=Ty.mk k []→k=0):=fun k e=>by simp only [noT,Ty.mk.injEq] at e; exact e.1.symm
    by_cases k2:o.k=2
    ·rw [if_pos k2] at h
     exact fin _ (by simp [fitsO,k2]) (by simp only [goesO]; rw [if_neg h5,if_pos (.inl k2)]; rfl) (zkU htv (by have:=hlen.1 (by omega); omega)) h
    rw [if_neg k2] at h
    by_cases k3:o.k=3
    ·rw [if_pos k3] at h
     split at h
     ·rename_i hb
      have hb':(ts.getD 0 noT).kind=2:=hb
      refine fin _ (by simp only [fitsO]; rw [if_pos k3]; simpa using hb') (by simp only [goesO]; rw [if_neg h5,if_neg (by omega),if_neg (by omega),if_neg (by omega)]; rfl) (zkU hv ?_) h
      simp [insO,k3] at hi
      omega
     ·simp at h
    rw [if_neg k3] at h
    by_cases k4:o.k=4
    ·rw [if_pos k4] at h
     split at h
     ·rename_i hb
      have hb':ts.all (fun t=>sameT t (ts.getD 0 noT))=true:=hb
      exact fin _ (by simp only [fitsO]; rw [if_neg k3,if_pos k4]; exact hb') (by simp only [goesO]; rw [if_neg h5,if_pos (.inr k4)]; rfl) (zkU htv (by have:=(hlen.2.1 k4).1; omega)) h
     ·simp at h
    rw [if_neg k4] at h
    by_cases k56:o.k=5∨o.k=6
    ·rw [if_pos k56] at h
     split at h
     ·simp at h
     ·rename_i hb
      split at h
      ·simp at h
      ·rename_i hc
       have hc:=Classical.not_not.1 hc
       refine fin _ ?_ (by simp only [goesO]; rw [if_neg h5,if_neg (by omega),if_pos k56]) hc h
       simp only [fitsO]
       rw [if_neg k3,if_neg k4]
       by_cases k5:o.k=5
       ·rw [if_pos k5]
        have:(ts.getD 0 noT).kind=1:=Classical.not_not.1 fun hne=>hb ⟨k5,hne⟩
        simpa using this
       ·rw [if_neg k5,if_neg (by omega)]
    rw [if_neg k56] at h
    by_cases k7:o.k=7
    ·rw [if_pos k7] at h
     exact fin _ (by simp only [fitsO]; rw [if_neg k3,if_neg k4,if_neg (by omega),if_neg (by omega)]) (by simp only [goesO]; rw [if_neg h5,if_neg (by omega),if_neg k56,if_pos k7]) (hkv (by simp [zae,k7])) h
    rw [if_neg k7] at h
    by_cases k8:o.k=8
    ·rw [if_pos k8] at h
     split at h
     ·rename_i hb
      have hb':ins.all (fun t=>sameT t (ins.getD 0 noT))=true:=hb
      refine fin _ (by simp only [fitsO]; rw [if_neg k3,if_neg k4,if_neg (by omega),if_pos k8]; exact hb') (by simp only [goesO]; rw [if_neg h5,if_neg (by omega),if_neg k56,if_neg k7]; rfl) (zkU hv ?_) h
      simp [insO,k8] at hi
      omega
     ·simp at h
    rw [if_neg k8] at h
    refine fin _ (by simp only [fitsO]; rw [if_neg k3,if_neg k4,if_neg (by omega),if_neg k8]) (by simp only [goesO]; rw [if_neg h5,if_neg (by omega),if_neg k56,if_neg k7]; rfl) (zkU hv ?_) h
    simp [insO,h5,k8] at hi
    omega
end Go.Proofs.YtdmgbhamigegfaaGreatDoor
end
