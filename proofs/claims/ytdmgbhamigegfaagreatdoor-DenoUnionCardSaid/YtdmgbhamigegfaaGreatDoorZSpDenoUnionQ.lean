/- The law DenoUnion. -/
import Derived.Test.YtdmgbhamigegfaaGreatDoorZSpLaw10Q
import Derived.Test.YtdmgbhamigegfaaGreatDoorZSpOutDQ
import Derived.Test.YtdmgbhamigegfaaGreatDoorZSpOutsQ

section
/- The law DenoUnion. -/
set_option linter.unusedSimpArgs false
set_option linter.unusedVariables false
namespace Go.Proofs.YtdmgbhamigegfaaGreatDoor
open Go Go.Abs
attribute [local irreducible] Abs.Fn
abbrev negX:Ex:=.mk oNeg zeroV 0 [eX]
theorem we_neg:We 1000000000 negX:=.mk _ _ _ _ (by simp) (by simp) (by simp [we_x])
abbrev srcU:Nd:=⟨[],⟨1,[115],.mk 1 [],[],zeroE,0,0⟩,[],1,3,[103],false⟩
abbrev opU:Opr:=⟨2,[],.mk 0 [],[negX],zeroE,0,0⟩
abbrev mapU:Nd:=⟨[],opU,[0],1,1,[103],false⟩
abbrev uniU:Nd:=⟨[],⟨8,[],.mk 0 [],[],zeroE,0,0⟩,[0,1],1,1,[103],false⟩
abbrev sinkU:Nd:=⟨[],⟨9,[97],.mk 0 [],[],zeroE,0,0⟩,[2],1,1,[103],false⟩
def zbj:List Nd:=[srcU,mapU,uniU,sinkU]
theorem zE2:fewG zbj=true:=by rfl
theorem zB8:zlK zbj=(0,0):=by rfl
theorem applyU (x:Int) (hx:-128≤x∧x≤127):zeM opU (intV x)=some (.ok [intV (0 - x)]):=by
 have h0:w64 (0 - x)=0 - x:=IntWalk.i64_in _ (by omega)
 have h1:evE negX (intV x)=some (.ok (intV (w64 (0 - x)))):=rfl
 unfold zeM
 rw [if_pos (by simp)]
 simp only [evL,h1,h0]
theorem zDN:∀ l:List Int,(∀ x∈l,-128≤x∧x≤127)→zcC opU (l.map intV)=some (l.map (fun x=>intV (0 - x)),[])
 | [],_=>rfl
 | x::r,h=>by
  simp only [List.map_cons,zcC,applyU x (h x (by simp)),zDN r (fun y hy=>h y (by simp [hy]))]
  rfl
def rowsU (l:List Int):List Va:=l.map intV++l.map (fun x=>intV (0 - x))
def allU (l:List Int):List Va:=l.flatMap fun x=>[intV x,intV (0 - x)]
theorem zmi:∀ l:List Int,(rowsU l).Perm (allU l)
 | []=>.refl _
 | x::r=>by
  have ih:=zmi r
  unfold rowsU allU at *
  simp only [List.map_cons,List.flatMap_cons,List.cons_append,List.nil_append]
  refine List.Perm.cons _ ?_
  exact List.perm_middle.trans (List.Perm.cons _ ih)
theorem zEk (l:List Int) (j:Nat) (h:j < l.length):allU (l.take (j + 1))=allU (l.take j)++[intV l[j],intV (-l[j])]:=by
 rw [List.take_succ_eq_append_getElem h]
 simp only [allU,List.flatMap_append,List.flatMap_cons,List.flatMap_nil,List.append_nil,Int.zero_sub]
theorem zEl (l:List Int):sortO cmpV (rowsU l)=sortO cmpV (allU l):=zxM ordV (znJ ordV _) ((zla ordV _).trans (zmi l))
theorem zuf (l:List Int):(rowsU l).length=2 * l.length:=by simp [rowsU]; omega
theorem zF4 (l:List Int):∀ v∈l.map intV,Wv 1000000000 v:=fun v hv=>by
 obtain ⟨x,_,rfl⟩:=List.mem_map.1 hv; exact zme _
theorem zxG (l:List Int):∀ v∈rowsU l,Wv 1000000000 v:=fun v hv=>by
 unfold rowsU at hv
 rcases List.mem_append.1 hv with hv | hv
 ·obtain ⟨x,_,rfl⟩:=List.mem_map.1 hv; exact zme _
 ·obtain ⟨x,_,rfl⟩:=List.mem_map.1 hv; exact zme _
section
variable {l:List Int} {e:List Int} (hc:cameD 3 e 0 (l.map intV)=l.map intV) (h8:∀ x∈l,-128≤x∧x≤127)
include hc
theorem zEd:zav true [inN l] [e] ⟨0,[],[],[]⟩ [srcU]=some ⟨1,[l.map intV],[],[]⟩:=by
 simp [zav,stepD,nodeD,inN,hc]
include h8
theorem zEe:zav true [inN l] [e] ⟨0,[],[],[]⟩ [srcU,mapU]=some ⟨1,[l.map intV,l.map (fun x=>intV (0 - x))],[],[]⟩:=by
 have h1:zav true [inN l] [e] ⟨0,[],[],[]⟩ ([srcU]++[mapU])=_:=zfk true [inN l] [e] [srcU] [mapU] _
 rw [zEd hc] at h1
 rw [show [srcU,mapU]=[srcU]++[mapU] from rfl,h1]
 have hn:nodeD true [inN l] [e] 1 [l.map intV] mapU=some (l.map (fun x=>intV (0 - x)),[]):=by
  unfold nodeD
  rw [if_neg (by simp),if_neg (by simp)]
  simpa using zDN l h8
 simp only [zav,stepD,hn]
 simp
theorem zEf:zav true [inN l] [e] ⟨0,[],[],[]⟩ [srcU,mapU,uniU]=some ⟨1,[l.map intV,l.map (fun x=>intV (0 - x)),rowsU l],[],[]⟩:=by
 have h1:zav true [inN l] [e] ⟨0,[],[],[]⟩ ([srcU,mapU]++[uniU])=_:=zfk true [inN l] [e] [srcU,mapU] [uniU] _
 rw [zEe hc h8] at h1
 rw [show [srcU,mapU,uniU]=[srcU,mapU]++[uniU] from rfl,h1]
 have hn:nodeD true [inN l] [e] 1 [l.map intV,l.map (fun x=>intV (0 - x))] uniU=some (rowsU l,[]):=by
  unfold nodeD
  rw [if_neg (by simp),if_neg (by simp)]
  simp [rowsU]
  exact zm1 (by simp) (by simp) (by simp) _
 simp only [zav,stepD,hn]
 simp
theorem union_4:zav true [inN l] [e] ⟨0,[],[],[]⟩ zbj=some ⟨1,[l.map intV,l.map (fun x=>intV (0 - x)),rowsU l,rowsU l],[],[rowsU l]⟩:=by
 have h1:zav true [inN l] [e] ⟨0,[],[],[]⟩ ([srcU,mapU,uniU]++[sinkU])=_:=zfk true [inN l] [e] [srcU,mapU,uniU] [sinkU] _
 rw [zEf hc h8] at h1
 rw [show zbj=[srcU,mapU,uniU]++[sinkU] from rfl,h1]
 have hn:nodeD true [inN l] [e] 1 [l.map intV,l.map (fun x=>intV (0 - x)),rowsU l] sinkU=some (rowsU l,[]):=by
  unfold nodeD
  rw [if_neg (by simp),if_neg (by simp)]
  simp
  exact zm1 (by simp) (by simp) (by simp) _
 simp only [zav,stepD,hn]
 simp
end
set_option maxRecDepth 100000 in
theorem whole_U (l:List Int) (hl:l.length≤60) (h8:∀ x∈l,-128≤x∧x≤127) :
  Abs.Fn Tryz.prog zfr [] [.p (.slice (zbj.map encN)),.p (.slice ([inN l].map encI))] (.p (encD ⟨[sortO cmpV (rowsU l)],[]⟩)) []:=by
 have hc:=zvY 3 (by omega) (by omega) (l.map intV) (by simp; omega)
 have hrl:=zuf l
 refine zvH (n:=1) rfl (by simp) (by omega) ?_
 have:=zvC zbj [inN l] [List.replicate 16 1000] true (by simp [zbj]) (fun k hk h=>?_) (fun k s hk hs=>?_) (union_4 hc h8) (fun q hq=>by simp at hq; subst hq; omega) (by simp)
 ·exact this
 ·have:k=0∨k=1∨k=2∨k=3:=by simp [zbj] at hk; omega
  rcases this with rfl | rfl | rfl | rfl <;> simp [zbj,zas] at h
 have:k=0∨k=1∨k=2∨k=3:=by simp [zbj] at hk; omega
 rcases this with rfl | rfl | rfl | rfl
 ·simp only [List.take_zero,zav,Option.some.injEq] at hs
  subst hs
  refine ⟨by simp [zbj],by simp [zbj],by simp,fun _=>⟨by simp [zbj],by simp,by simp,by simp [inN]; omega,by simp⟩,fun h=>?_,fun h=>absurd rfl h⟩
  simp [zbj,zas] at h
 ·rw [show zbj.take 1=[srcU] from rfl,zEd hc] at hs
  simp only [Option.some.injEq] at hs
  subst hs
  refine ⟨by simp [zbj],fun k=>?_,by simp,fun h=>by simp [zbj] at h,fun h=>by simp [zbj,zas] at h,fun _ h=>?_⟩
  ·simp only [zbj,List.getElem_cons_succ,List.getElem_cons_zero]
   cases k <;> simp; omega
  ·have hr:rowsF ⟨1,[l.map intV],[],[]⟩ mapU=l.map intV:=by simp [rowsF]
   show ApplyOk mapU.op (rowsF ⟨1,[l.map intV],[],[]⟩ mapU)
   rw [hr]
   exact ⟨by simp; omega,fun e he=>by simp only [List.mem_cons,List.not_mem_nil,or_false] at he; subst he; exact we_neg,zF4 l,by simp,by simp⟩
 ·rw [show zbj.take 2=[srcU,mapU] from rfl,zEe hc h8] at hs
  simp only [Option.some.injEq] at hs
  subst hs
  have hr:rowsF ⟨1,[l.map intV,l.map (fun x=>intV (0 - x))],[],[]⟩ uniU=rowsU l:=by simp [rowsF,rowsU]
  refine ⟨by simp [zbj],fun k=>?_,by simp,fun h=>by simp [zbj] at h,fun h=>by simp [zbj,zas] at h,fun _ h=>?_⟩
  ·simp only [zbj,List.getElem_cons_succ,List.getElem_cons_zero]
   rcases k with _ | _ | k <;> simp <;> omega
  ·show ApplyOk uniU.op (rowsF ⟨1,[l.map intV,l.map (fun x=>intV (0 - x))],[],[]⟩ uniU)
   rw [hr]
   exact ⟨by omega,by simp,zxG l,by simp,by simp⟩
 ·rw [show zbj.take 3=[srcU,mapU,uniU] from rfl,zEf hc h8] at hs
  simp only [Option.some.injEq] at hs
  subst hs
  have hr:rowsF ⟨1,[l.map intV,l.map (fun x=>intV (0 - x)),rowsU l],[],[]⟩ sinkU=rowsU l:=by simp [rowsF]
  refine ⟨by simp [zbj],fun k=>?_,by simp,fun h=>by simp [zbj] at h,fun h=>by simp [zbj,zas] at h,fun _ h=>?_⟩
  ·simp only [zbj,List.getElem_cons_succ,List.getElem_cons_zero]
   cases k <;> simp; omega
  ·show ApplyOk sinkU.op (rowsF ⟨1,[l.map intV,l.map (fun x=>intV (0 - x)),rowsU l],[],[]⟩ sinkU)
   rw [hr]
   exact ⟨by omega,by simp,zxG l,by simp,by simp⟩
end Go.Proofs.YtdmgbhamigegfaaGreatDoor
end

section
/- The law DenoUnion: the walk. -/
set_option linter.unusedSimpArgs false
set_option linter.unusedVariables false
namespace Go.Proofs.YtdmgbhamigegfaaGreatDoor
open Go Go.Abs
attribute [local irreducible] Abs.Fn
set_option maxRecDepth 100000 in
theorem zvB (l:List Int) (h8:∀ x∈l,-128≤x∧x≤127):Abs.Fn Tryz.prog zg7 [] [.p (.slice (l.map (.int .i8)))] (.p (.bool true)) []:=by
 apply zl0
 simp [zel]
 refine zo rfl rfl zzY ?_
 simp
 intro hml
 refine ⟨fun _=>zg rfl,fun h60=>?_⟩
 have hl60:l.length≤60:=by omega
 have hW:=whole_U l hl60 h8
 have hR:=zDw l (by omega) h8
 have hG:=zC7 zbj
 rw [zE2,zB8] at hG
 have hlen:=zuf l
 have hso:=zEl l
 have hAl:(allU l).length≤120:=by
  have:=(zmi l).length_eq
  omega
 have hAw:∀ v∈allU l,Wv 1000000000 v:=fun v hv=>zxG l v ((zmi l).mem_iff.2 hv)
 have hOA:=zvE (allU l) hAw (by omega)
 have hSR:=zzn (allU l) (by omega)
 rw [hso] at hW
 have hSw:∀ v∈sortO cmpV (allU l),Wv 1000000000 v:=fun v hv=>hAw v ((zla ordV _).mem_iff.1 hv)
 have hSl:=zdG ordV (allU l)
 generalize sortO cmpV (allU l)=S at *
 have hOO:=zyc ⟨[S],[]⟩ (by simp) (by simp) (fun q hq=>by simp at hq; subst hq; exact ⟨by omega,hSw⟩) (by simp)
 have hSO:=zvi ⟨[S],[]⟩ ⟨[S],[]⟩ (by simp) (by simp) (fun q hq=>by simp at hq; subst hq; omega)
 have hsame:sameD ⟨[S],[]⟩ ⟨[S],[]⟩=true:=by simp [sameD]
 rw [hsame] at hSO
 generalize [inN l].map encI=iT at *
 simp only [encD,encL,List.map_cons,List.map_nil] at hW hOO hSO
 simp [zbj] at hW hG
 refine zo rfl rfl ztD ?_
 simp
 refine zo rfl rfl (zmf oNeg [eX]) ?_
 simp
 refine zo rfl rfl hR ?_
 simp
 refine zo rfl rfl hW ?_
 simp
 try intro _
 have halen:∀ j,(allU (l.take j)).length≤120:=fun j=>by
  have:=(zmi (l.take j)).length_eq
  rw [zuf] at this
  have h2:(l.take j).length≤60:=by simp; omega
  omega
 refine zA (σ:=Nat) (n:=2) (fun j=>[.own 1 ((allU (l.take j)).map encV),.p (.int .i64 j)]) (fun j=>[.box [.p (.slice [.slice (S.map encV)]),.p (.slice [])],.row (allU (l.take j)).length 5]) (fun j=>j≤l.length) (fun j=>l.length - j) [.slot 0 5] 0 (fun _=>rfl) ?_ (by simp) (fun j B hj hB=>?_)
 ·simp [zbo,ghost,allU]
 simp [zgj]
 intro _
 refine ⟨fun hlt=>?_,fun hge=>?_⟩
 ·have hx:=h8 _ (List.getElem_mem hlt)
  have hs:=zEk l j hlt
  have hl1:=halen (j + 1)
  have hBn:=hB (j + 1)
  have w1:IntKind.i64.wrap l[j]=l[j]:=IntWalk.i64_in _ (by omega)
  have w2:IntKind.i64.wrap (-l[j]) = -l[j]:=IntWalk.i64_in _ (by omega)
  simp [hlt]
  rw [w1]
  refine zF rfl (za3 _) rfl ?_
  simp [hlt]
  rw [w1,w2]
  refine zF rfl (za3 _) rfl ?_
  simp [intV]
  rw [hs] at hBn hl1
  simp only [List.length_append,List.length_cons,List.length_nil] at hl1
  refine ⟨⟨fun e he=>by obtain ⟨y,_,rfl⟩:=List.mem_map.1 he; simp,by simp [T.cells],by simp; omega⟩, ?_⟩
  rw [IntWalk.i64_in _ (by omega)]
  have:=hBn [.box [.p (.slice [.slice (S.map encV)]),.p (.slice [])],.row ((allU (l.take j)).length + 2) 5] (by omega) (by omega) (by simp) (by simp [Ob.below,AV.under1]) (by simp) (by simp [AV.under,AV.under1])
  simpa [intV] using this
 ·rw [List.take_of_length_le hge]
  refine zo rfl rfl hG ?_
  simp
  refine zz true (fun _=>?_) ?_
  ·refine zo rfl rfl hOO ?_
   simp
   refine zo rfl rfl hOA ?_
   simp
   refine zo rfl rfl hSR ?_
   simp
   refine zo rfl rfl hSO ?_
   simp
  simp
  exact zg rfl
end Go.Proofs.YtdmgbhamigegfaaGreatDoor
end
