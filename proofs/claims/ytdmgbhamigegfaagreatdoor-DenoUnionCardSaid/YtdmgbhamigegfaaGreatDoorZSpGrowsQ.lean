/- The package graph over trees: a node; what is wrong with it. -/
import Derived.Test.YtdmgbhamigegfaaGreatDoorZSpGraph
import Derived.Test.YtdmgbhamigegfaaGreatDoorZSpBudTQ

section
/- The package graph over trees: a node; what is wrong with it. -/
set_option linter.unusedSimpArgs false
set_option linter.unusedVariables false
namespace Go.Proofs.YtdmgbhamigegfaaGreatDoor
open Go Go.Abs
attribute [local irreducible] Abs.Fn
theorem zFF (n:Nd) (ahead:List Nd):Abs.Fn Tryz.prog zio [] [.p (encN n),.p (.slice (ahead.map encN))] (.p (.bool (zcS ahead [] n.ins))) []:=by
 apply zsW
 simp [zkG]
 intro hml
 refine zA (σ:=Nat) (n:=1) (fun i=>[.p (.int .i64 i)]) (fun _=>[.box (boxN n)]) (fun i=>i≤n.ins.length∧zcS ahead (n.ins.take i) (n.ins.drop i)=zcS ahead [] n.ins) (fun i=>n.ins.length - i) [] 0 (fun _=>rfl) ⟨rfl,by simp⟩ (by simp) (fun i B hi hB=>?_)
 obtain ⟨h1,h2⟩:=hi
 generalize hA:zcS ahead [] n.ins=A at *
 simp [zlp]
 refine ⟨fun hlt=>?_,fun hge=>?_⟩
 ·rw [List.drop_eq_getElem_cons hlt,zcS] at h2
  simp [hlt]
  by_cases hb:0≤n.ins[i]∧n.ins[i] < ahead.length
  ·obtain ⟨g1,g2⟩:=hb
   have g3:n.ins[i].toNat < ahead.length:=by omega
   have g4:¬ n.ins[i] < 0:=by omega
   have g5:¬ (ahead.length:Int)≤n.ins[i]:=by omega
   have gD:ahead.getD n.ins[i].toNat noN=ahead[n.ins[i].toNat]:=by simp [List.getD_eq_getElem?_getD,g3]
   have ht:=zag hlt
   rw [gD,ht] at h2
   refine ⟨fun _ _=>by simp [g3],fun _ _=>by simp [g3], ?_⟩
   simp [g3,g4,g5]
   refine zz (decide (n.ins[i]∈n.ins.take i)) (fun _=>?_) ?_
   ·simp [zbU,zih]
    refine ⟨by omega, ?_⟩
    have hc:=zoX (n.ins.take i) n.ins[i]
    simp only [isT,List.map_take] at hc
    refine zo rfl rfl hc ?_
    simp
   ·simp
    refine ⟨fun h=>zg ?_,fun h h'=>?_⟩
    ·rw [if_pos] at h2
     ·rw [h2]
     ·simp only [g4,g5,false_or]; exact h
    ·rw [if_neg] at h2
     ·rw [IntWalk.i64_in _ (by simp [maxLen] at hml; omega)]
      exact hB (i + 1) _ ⟨by omega,h2⟩ (by omega) (by simp) (by simp [Ob.below,AV.under1]) (by simp) (by simp [AV.under,AV.under1])
     ·simp only [g4,g5,false_or,not_or]; exact ⟨h,h'⟩
  ·refine ⟨fun _ _=>by omega,fun _ _=>by omega, ?_⟩
   rw [if_pos (by omega)] at h2
   rcases (by omega:n.ins[i] < 0∨(ahead.length:Int)≤n.ins[i]) with hz | hz
   all_goals
    simp [hz]
    subst h2
    refine zz true (fun h=>by simp at h) ?_
    refine zz true (fun h=>by simp at h) ?_
    simp
    exact zg rfl
 ·rw [List.drop_of_length_le hge] at h2
  exact zg (by rw [← h2]; rfl)
theorem of_spec (ts:List Ty) (ins:List Int) (h:∀ i∈ins,0≤i∧i < ts.length) (hl:ins.length≤1000000):Abs.Fn Tryz.prog zr2 [] [.p (.slice (ts.map encT)),.p (.slice (isT ins))] (.p (.slice ((ins.map fun i=>ts.getD i.toNat (.mk 0 [])).map encT))) []:=by
 have hlm:(ins.map fun i=>ts.getD i.toNat (.mk 0 [])).length=ins.length:=by simp
 have hmj:∀ j (hj:j < ins.length) (g:ins[j].toNat < ts.length),(ins.map fun i=>ts.getD i.toNat (.mk 0 []))[j]? = some ts[ins[j].toNat]:=by
  intro j hj g
  simp [hj,g]
 generalize (ins.map fun i=>ts.getD i.toNat (.mk 0 []))=m at *
 apply zBp
 simp [zxb]
 intro hml
 refine zA (σ:=Nat) (n:=1) (fun j=>[.own 0 ((m.take j).map encT),.p (.int .i64 j)]) (fun j=>[.row j 2]) (fun j=>j≤ins.length) (fun j=>ins.length - j) [.slot 0 2] 0 (fun _=>rfl) ⟨rfl,rfl⟩ (by simp) (fun j B hj hB=>?_)
 simp [zuU]
 refine ⟨fun hlt=>?_,fun hge=>?_⟩
 ·obtain ⟨g1,g2⟩:=h ins[j] (List.getElem_mem hlt)
  have g3:ins[j].toNat < ts.length:=by omega
  have hm:=hmj j hlt g3
  rw [List.getElem?_eq_getElem (by omega),Option.some.injEq] at hm
  have hsn:=zag (l:=m.map encT) (i:=j) (by simp; omega)
  simp only [List.getElem_map,hm,zc2] at hsn
  simp [hlt,g1,g2,g3]
  refine ⟨by omega,⟨fun e he=>?_,by simp,by simp; omega⟩, ?_⟩
  ·obtain ⟨x,hx,rfl⟩:=List.mem_map.1 (List.mem_of_mem_take he); simp
  rw [IntWalk.i64_in _ (by omega),hsn,← List.map_take]
  exact hB (j + 1) _ (by omega) (by omega) (by simp) (by simp [Ob.below,AV.under1]) (by simp) (by simp [AV.under,AV.under1])
 ·rw [List.take_of_length_le (by simp; omega)]
  exact zj (by simp [AV.pur])
theorem zA4 (l:List Nd) (h:l.length≤1000000):Abs.Fn Tryz.prog zK [] [.p (.slice (l.map encN))] (.own 0 (l.map encN)) [.row l.length 21]:=by
 refine zsR (fun he=>?_) ?_
 ·apply zb3
  simp [zau]
  have:l=[]:=by simpa using he
  subst this
  exact zyu
 ·apply zb3
  simp [zau]
  refine ⟨⟨by simp,zyY l,by simp; omega⟩, ?_⟩
  have:=zEG (id:=0) (n:=l.length) (s:=21) (es:=l.map encN) (H:=[.row l.length 21]) rfl
  simpa using this
theorem zCf (a:List Nd) (n:Nd) (hl:a.length≤1000000) (hi:∀ k (hk:k < (a++[n]).length),(∀ i∈(a++[n])[k].ins,0≤i∧i < k)∧(a++[n])[k].ins.length≤1000000):Abs.Fn Tryz.prog zbY [] [.p (.slice ((a++[n]).map encN))] (.p (.int .i64 (wtN (wtsG [] a) n))) []:=by
 have hlast:∀ l,l=a++[n]→wtsG [] l=wtsG [] a++[wtN (wtsG [] a) n]:=by rintro l rfl; exact zmZ _ _ _
 have hlen:(a++[n]).length≤1000001:=by simp; omega
 have hpos:0 < (a++[n]).length:=by simp
 have hw:wtN (wtsG [] a) n=(wtsG [] (a++[n])).getD ((a++[n]).length - 1) 0:=by
  rw [hlast _ rfl]
  have:(wtsG [] a).length=a.length:=by rw [zjt]; simp
  simp [List.getD_eq_getElem?_getD,this]
 rw [hw]
 generalize a++[n]=l at *
 clear hlast hw hl
 apply zvs
 simp [znt]
 intro hml
 refine zA (σ:=Nat) (n:=1) (fun i=>[.own 0 (isT (wtsG [] (l.take i))),.p (.int .i64 i)]) (fun i=>[.row i 1]) (fun i=>i≤l.length) (fun i=>l.length - i) [.slot 0 1] 0 (fun _=>rfl) ⟨rfl,rfl⟩ (by simp) (fun i B hlei hB=>?_)
 have hwl:(wtsG [] (l.take i)).length=i:=by rw [zjt]; simp [hlei]
 simp [zod]
 refine ⟨fun hlt=>?_,fun hge=>?_⟩
 ·obtain ⟨hx,hxl⟩:=hi i hlt
  have hnext:wtsG [] (l.take (i + 1))=wtsG [] (l.take i)++[wtN (wtsG [] (l.take i)) l[i]]:=by rw [← zag hlt,zmZ]
  generalize hws:wtsG [] (l.take i)=ws at *
  simp [hlt]
  intro hml2
  refine zA (σ:=Nat×Int) (n:=2) (fun q=>[.p (.int .i64 q.2),.p (.int .i64 q.1)]) (fun _=>[.row i 1,.box (boxN l[i])]) (fun q=>q.1≤l[i].ins.length∧sumW ws q.2 (l[i].ins.drop q.1)=sumW ws 0 l[i].ins) (fun q=>l[i].ins.length - q.1) [] (0,0) (fun _=>rfl) ⟨rfl,by simp⟩ (by simp) (fun q B2 hq hB2=>?_)
  obtain ⟨j,w⟩:=q
  obtain ⟨h1,h2⟩:=hq
  simp only at h1 h2
  generalize hA:sumW ws 0 l[i].ins=A at *
  simp [zoe]
  refine ⟨fun hltj=>?_,fun hgej=>?_⟩
  ·rw [List.drop_eq_getElem_cons hltj,sumW] at h2
   obtain ⟨g1,g2⟩:=hx l[i].ins[j] (List.getElem_mem hltj)
   have g3:l[i].ins[j].toNat < ws.length:=by omega
   have gD:ws.getD l[i].ins[j].toNat 0=ws[l[i].ins[j].toNat]:=by simp [List.getD_eq_getElem?_getD,g3]
   rw [gD] at h2
   simp [hltj,g1,g2,g3,hwl]
   rw [IntWalk.i64_in (j + 1) (by omega)]
   exact hB2 (j + 1,_) _ ⟨by simp only; omega,h2⟩ (by simp only; omega) (by simp) (by simp [Ob.below,AV.under1]) (by simp) (by simp [AV.under,AV.under1])
  ·rw [List.drop_of_length_le hgej] at h2
   have h2:w=A:=h2
   have hwt:wtN ws l[i]=if l[i].op.k=1 then 1 else if l[i].op.k=4 then IntKind.i64.wrap (w * l[i].op.es.length) else w:=by rw [wtN,hA,h2]
   have fin:∀ v:Int,v=wtN ws l[i]→B [AV.own 0 (isT ws++[T.int .i64 v]),AV.p (T.int .i64 (IntKind.i64.wrap (i + 1)))] [Ob.row (i + 1) 1,Ob.box (boxN l[i])]:=by
    rintro v rfl
    rw [IntWalk.i64_in _ (by omega),show isT ws++[T.int .i64 (wtN ws l[i])]=isT (wtsG [] (l.take (i + 1))) by rw [hnext]; simp [isT]]
    exact hB (i + 1) _ (by omega) (by omega) (by simp) (by simp [Ob.below,AV.under1]) (by simp) (by simp [AV.under,AV.under1])
   simp only [zzs] at fin
   have app:∀ v:Int,zbv 1 8 (isT ws) [T.int .i64 v]:=fun v=>⟨fun e he=>by obtain ⟨x,_,rfl⟩:=List.mem_map.1 he; rfl,by simp,by simp; omega⟩
   exact ⟨fun h1=>⟨hwl.symm,app _,fin 1 (by rw [hwt,if_pos h1])⟩,fun h1=>⟨fun h4 _=>⟨hwl.symm,app _,fin _ (by rw [hwt,if_neg h1,if_pos h4])⟩,fun h4=>⟨hwl.symm,app _,fin w (by rw [hwt,if_neg h1,if_neg h4])⟩⟩⟩
 ·have:i=l.length:=by omega
  subst this
  rw [List.take_length] at hwl ⊢
  have e1:IntKind.i64.wrap (((wtsG [] l).length:Int) - 1)=((l.length - 1:Nat):Int):=by rw [hwl,IntWalk.i64_in _ (by omega)]; omega
  have e2:l.length - 1 < (wtsG [] l).length:=by omega
  rw [e1]
  intro _
  refine ⟨⟨by omega,by omega⟩, ?_⟩
  simp [e2]
  exact zg rfl
end Go.Proofs.YtdmgbhamigegfaaGreatDoor
end

section
/- The package graph over trees: a node's check. -/
set_option linter.unusedSimpArgs false
set_option linter.unusedVariables false
namespace Go.Proofs.YtdmgbhamigegfaaGreatDoor
open Go Go.Abs
attribute [local irreducible] Abs.Fn
theorem outP_er {o:Opr} {ins:List Ty} {f:Int} (h:outP o ins=.er f):f≠0:=by
 unfold outP at h
 split at h
 ·cases h; decide
 split at h
 ·cases h; decide
 split at h
 ·cases h; decide
 split at h
 ·cases h; decide
 split at h
 ·rename_i hx
  cases h
  split at hx
  ·exact zqo hx
  ·simp at hx
 ·split at h
  ·rename_i hx
   cases h
   exact zCH _ _ _ hx
  ·unfold lastO at h
   split at h
   ·cases h; decide
   ·split at h
    ·cases h; assumption
    ·simp at h
structure OkN (n:Nd):Prop where
 es:∀ e∈n.op.es,We 1000000000 e∧sizeE e≤1000000000
 key:We 1000000000 n.op.key∧sizeE n.op.key≤1000000000
 len:n.op.es.length≤1000000
 ins:n.ins.length≤1000000
def OkA (l:List Nd):Prop:=∀ k (hk:k < l.length),(∀ i∈l[k].ins,0≤i∧i < k)∧l[k].ins.length≤1000000
theorem zs8 {l:List Nd} {n:Nd} (h:OkA l) (hn:∀ i∈n.ins,0≤i∧i < l.length) (hl:n.ins.length≤1000000):OkA (l++[n]):=by
 intro k hk
 rcases Nat.lt_or_ge k l.length with g | g
 ·rw [List.getElem_append_left g]
  exact h k g
 ·have:k=l.length:=by simp at hk; omega
  subst this
  simp
  exact ⟨hn,hl⟩
theorem zmW (ahead:List Nd):∀ (r s:List Int),zcS ahead s r=true→∀ i∈r,0≤i∧i < ahead.length
 | [],s,h,i,hi=>by simp at hi
 | x::r,s,h,i,hi=>by
  simp only [zcS] at h
  split at h
  ·simp at h
  ·rcases List.mem_cons.1 hi with rfl | hi
   ·omega
   ·exact zmW ahead r _ h i hi
set_option maxRecDepth 100000 in
set_option maxHeartbeats 1000000 in
theorem zvh (n:Nd) (ahead:List Nd) (ts:List Ty) (hn:OkN n) (ha:OkA ahead) (hal:ahead.length≤1000) (hts:ts.length=ahead.length) :
  Abs.Fn Tryz.prog zgG [] [.p (encN n),.p (.slice (ahead.map encN)),.p (.slice (ts.map encT))] (.tup [.p (encT (nodeN ahead ts n).1),.p (.int .i64 (nodeN ahead ts n).2)]) []:=by
 have c1:=zoW (zzt n) ahead
 have c2:=zoW (zzu n) ahead
 have hins:=zFF n ahead
 simp only [zsJ] at hins
 have r6:((n.uid≠[]∧nameS n.uid=false)∨nameS n.grp=false)→nodeN ahead ts n=(.mk 0 [],6):=fun h=>by rw [nodeN,if_pos h]
 have r7:¬ ((n.uid≠[]∧nameS n.uid=false)∨nameS n.grp=false)→(n.uid≠[]∧ahead.any (fun o=>decide (o.uid=n.uid))=true)→nodeN ahead ts n=(.mk 0 [],7):=fun h h'=>by rw [nodeN,if_neg h,if_pos h']
 have r1:¬ ((n.uid≠[]∧nameS n.uid=false)∨nameS n.grp=false)→¬ (n.uid≠[]∧ahead.any (fun o=>decide (o.uid=n.uid))=true)→(n.par < 1∨4 < n.par∨n.mx < n.par∨16 < n.mx∨zcS ahead [] n.ins=false)→nodeN ahead ts n=(.mk 0 [],1):=fun h h' h''=>by rw [nodeN,if_neg h,if_neg h',if_pos h'']
 have r0:¬ ((n.uid≠[]∧nameS n.uid=false)∨nameS n.grp=false)→¬ (n.uid≠[]∧ahead.any (fun o=>decide (o.uid=n.uid))=true)→¬ (n.par < 1∨4 < n.par∨n.mx < n.par∨16 < n.mx∨zcS ahead [] n.ins=false)→nodeN ahead ts n=(match outP n.op (n.ins.map (fun i=>ts.getD i.toNat (.mk 0 []))) with
  | .er e=>(.mk 0 [],e)
  | .ok t=>if 64 < wtN (wtsG [] ahead) n then (t,10) else if n.op.name≠[]∧ahead.any (fun o=>decide (o.op.k=n.op.k) && decide (o.op.name=n.op.name))=true then (t,7) else (t,0)):=fun h h' h''=>by rw [nodeN,if_neg h,if_neg h',if_neg h'']; rfl
 generalize nodeN ahead ts n=r at *
 generalize (ahead.any fun o=>decide (o.uid=n.uid))=A1 at *
 generalize (ahead.any fun o=>decide (o.op.k=n.op.k) && decide (o.op.name=n.op.name))=A2 at *
 obtain ⟨i26,hi26,hs26⟩:∃ i,Tryz.prog.info? 45=some i∧i.size=2:=by
  have h:(Tryz.prog.info? 45).map (·.size)=some 2:=by kernel_rfl
  exact Option.map_eq_some_iff.1 h
 apply zqL
 unfold zcg
 simp -implicitDefEqProofs
 rw [znl]
 unfold zfI
 simp -implicitDefEqProofs
 rw [znm]
 unfold zfJ
 simp -implicitDefEqProofs
 rw [znn]
 unfold zfK
 simp -implicitDefEqProofs
 refine zz (!nameS n.uid) (fun _=>?_) ?_
 ·refine zo rfl rfl (zgH n.uid) ?_
  simp -implicitDefEqProofs
 simp -implicitDefEqProofs
 rw [zno]
 unfold zfL
 simp -implicitDefEqProofs
 refine ⟨fun h1 h2=>?_,fun hu=>?_⟩
 ·rw [zhv]
  unfold zdm
  simp -implicitDefEqProofs
  rw [r6 (.inl ⟨h1,h2⟩)]
  simp -implicitDefEqProofs [aRes,tupOf,hi26,hs26,aggD]
  exact zj (by simp [AV.pur])
 refine zo rfl rfl (zgH n.grp) ?_
 simp -implicitDefEqProofs
 rw [zhv]
 unfold zdm
 simp -implicitDefEqProofs
 refine ⟨fun h2=>?_,fun hgp=>?_⟩
 ·rw [r6 (.inr h2)]
  simp -implicitDefEqProofs [aRes,tupOf,hi26,hs26,aggD]
  exact zj (by simp [AV.pur])
 have n6:¬ ((n.uid≠[]∧nameS n.uid=false)∨nameS n.grp=false):=by
  rintro (⟨q1,q2⟩ | q)
  ·rw [hu q1] at q2; simp at q2
  ·rw [hgp] at q; simp at q
 refine zz A1 (fun _=>?_) ?_
 ·refine zo rfl rfl c1 ?_
  simp -implicitDefEqProofs
 simp -implicitDefEqProofs
 rw [znp]
 unfold zfM
 simp -implicitDefEqProofs
 refine ⟨fun h1 h2=>?_,fun hA=>?_⟩
 ·rw [r7 n6 ⟨h1,h2⟩]
  simp -implicitDefEqProofs [aRes,tupOf,hi26,hs26,aggD]
  exact zj (by simp [AV.pur])
 have n7:¬ (n.uid≠[]∧A1=true):=fun ⟨q1,q2⟩=>by rw [hA q1] at q2; simp at q2
 have r1':=r1 n6 n7
 have r0':=r0 n6 n7
 rw [znq]
 unfold zfN
 simp -implicitDefEqProofs
 refine ⟨fun q1=>?_,fun nq1=>?_⟩
 ·rw [zbl]
  unfold zaT
  simp -implicitDefEqProofs
  rw [r1' (by first | exact .inl q1 | exact .inr (.inl q1) | exact .inr (.inr (.inl q1)) | exact .inr (.inr (.inr (.inl q1))))]
  simp -implicitDefEqProofs [aRes,tupOf,hi26,hs26,aggD]
  exact zj (by simp [AV.pur])
 rw [zmq]
 unfold zeT
 simp -implicitDefEqProofs
 refine ⟨fun q2=>?_,fun nq2=>?_⟩
 ·rw [zbl]
  unfold zaT
  simp -implicitDefEqProofs
  rw [r1' (by first | exact .inl q2 | exact .inr (.inl q2) | exact .inr (.inr (.inl q2)) | exact .inr (.inr (.inr (.inl q2))))]
  simp -implicitDefEqProofs [aRes,tupOf,hi26,hs26,aggD]
  exact zj (by simp [AV.pur])
 rw [zmr]
 unfold zeU
 simp -implicitDefEqProofs
 refine ⟨fun q3=>?_,fun nq3=>?_⟩
 ·rw [zbl]
  unfold zaT
  simp -implicitDefEqProofs
  rw [r1' (by first | exact .inl q3 | exact .inr (.inl q3) | exact .inr (.inr (.inl q3)) | exact .inr (.inr (.inr (.inl q3))))]
  simp -implicitDefEqProofs [aRes,tupOf,hi26,hs26,aggD]
  exact zj (by simp [AV.pur])
 rw [zms]
 unfold zeV
 simp -implicitDefEqProofs
 refine ⟨fun q4=>?_,fun nq4=>?_⟩
 ·rw [zbl]
  unfold zaT
  simp -implicitDefEqProofs
  rw [r1' (by first | exact .inl q4 | exact .inr (.inl q4) | exact .inr (.inr (.inl q4)) | exact .inr (.inr (.inr (.inl q4))))]
  simp -implicitDefEqProofs [aRes,tupOf,hi26,hs26,aggD]
  exact zj (by simp [AV.pur])
 refine zo rfl rfl hins ?_
 simp -implicitDefEqProofs
 rw [zbl]
 unfold zaT
 simp -implicitDefEqProofs
 refine ⟨fun q5=>?_,fun hseen=>?_⟩
 ·rw [r1' (.inr (.inr (.inr (.inr q5))))]
  simp -implicitDefEqProofs [aRes,tupOf,hi26,hs26,aggD]
  exact zj (by simp [AV.pur])
 have n1:¬ (n.par < 1∨4 < n.par∨n.mx < n.par∨16 < n.mx∨zcS ahead [] n.ins=false):=by
  rw [hseen]; simp; omega
 have r0'':=r0' n1
 have hin:=zmW ahead n.ins [] hseen
 have hof:=of_spec ts n.ins (fun i hi=>by have:=hin i hi; omega) hn.ins
 have hout:=zEh n.op (n.ins.map (fun i=>ts.getD i.toNat (.mk 0 []))) hn.es hn.key hn.len (by simpa using hn.ins)
 have hw:=zCf ahead n (by omega) (zs8 ha hin hn.ins)
 have hcl:=zA4 ahead (by omega)
 generalize (n.ins.map (fun i=>ts.getD i.toNat (.mk 0 [])))=m at *
 generalize wtN (wtsG [] ahead) n=w at *
 simp only [zgb] at hout
 simp only [List.map_append,List.map_cons,List.map_nil,zsJ] at hw
 rw [zmt]
 unfold zeW
 simp -implicitDefEqProofs
 refine zF rfl hof rfl ?_
 simp -implicitDefEqProofs
 cases hr:outP n.op m with
 | er f =>
  have hf:=outP_er hr
  rw [hr] at hout r0''
  simp only at r0''
  refine zF rfl hout (by simp [AV.pur,tyR]; rfl) ?_
  simp -implicitDefEqProofs [tyR,R.get,R.num]
  rw [zg6]
  unfold zc3
  simp -implicitDefEqProofs [hf]
  rw [r0'']
  rw [zdw]
  unfold zbX
  simp -implicitDefEqProofs [hf]
  refine zz false (fun h=>by simp at h) ?_
  simp -implicitDefEqProofs
  rw [zca]
  unfold zbk
  simp -implicitDefEqProofs [aRes,tupOf,hi26,hs26,aggD]
  exact zj (by simp [AV.pur])
 | ok t =>
  rw [hr] at hout r0''
  simp only at r0''
  refine zF rfl hout (by simp [AV.pur,tyR]; rfl) ?_
  simp -implicitDefEqProofs [tyR,R.get,R.num]
  rw [zg6]
  unfold zc3
  simp -implicitDefEqProofs
  refine ⟨?_, ?_, ?_⟩
  all_goals
   refine zo rfl rfl hcl ?_
   simp -implicitDefEqProofs
   refine ⟨⟨zyY ahead,by simp,by simp; omega⟩, ?_⟩
   refine zo rfl rfl hw ?_
   simp -implicitDefEqProofs
   refine ⟨fun hb=>?_,fun hb=>?_⟩
   ·rw [if_pos hb] at r0''
    rw [r0'']
    rw [zdw]
    unfold zbX
    simp -implicitDefEqProofs
    refine zz false (fun h=>by simp at h) ?_
    simp -implicitDefEqProofs
    rw [zca]
    unfold zbk
    simp -implicitDefEqProofs [aRes,tupOf,hi26,hs26,aggD]
    exact zj (by simp [AV.pur])
   ·rw [if_neg (by omega)] at r0''
    rw [zdw]
    unfold zbX
    simp -implicitDefEqProofs
    refine zz A2 (fun _=>?_) ?_
    ·refine zo rfl rfl c2 ?_
     simp -implicitDefEqProofs
    simp -implicitDefEqProofs
    refine ⟨fun g1 g2=>?_,fun g=>?_⟩
    ·rw [if_pos ⟨g1,g2⟩] at r0''
     rw [r0'']
     rw [zca]
     unfold zbk
     simp -implicitDefEqProofs [aRes,tupOf,hi26,hs26,aggD]
     exact zj (by simp [AV.pur])
    ·rw [if_neg (fun ⟨q1,q2⟩=>by rw [g q1] at q2; simp at q2)] at r0''
     rw [r0'']
     rw [zca]
     unfold zbk
     simp -implicitDefEqProofs [aRes,tupOf,hi26,hs26,aggD]
     exact zj (by simp [AV.pur])
end Go.Proofs.YtdmgbhamigegfaaGreatDoor
end

section
/- The package graph over trees: a job's types, its check. -/
set_option linter.unusedSimpArgs false
set_option linter.unusedVariables false
namespace Go.Proofs.YtdmgbhamigegfaaGreatDoor
open Go Go.Abs
attribute [local irreducible] Abs.Fn
theorem zDn {ahead:List Nd} {ts:List Ty} {n:Nd} (h:(nodeN ahead ts n).2=0):zcS ahead [] n.ins=true:=by
 unfold nodeN at h
 split at h
 ·simp at h
 split at h
 ·simp at h
 split at h
 ·simp at h
 ·rename_i h3
  cases hs:zcS ahead [] n.ins
  ·exact absurd (.inr (.inr (.inr (.inr hs)))) h3
  ·rfl
theorem zFY {g:List Nd} {i:Nat} (hlt:i < g.length) {ts:List Ty} (ha:OkA (g.take i)) (hn:OkN g[i]) (h:(nodeN (g.take i) ts g[i]).2=0):OkA (g.take (i + 1)):=by
 rw [← zag hlt]
 exact zs8 ha (zmW _ _ _ (zDn h)) hn.ins
theorem zFD {g:List Nd} {i:Nat} (hlt:i < g.length) (ts:List Ty):goG (g.take i) ts (g.drop i)=if (nodeN (g.take i) ts g[i]).2≠0 then .bad i (nodeN (g.take i) ts g[i]).2 else goG (g.take (i + 1)) (ts++[(nodeN (g.take i) ts g[i]).1]) (g.drop (i + 1)):=by
 rw [List.drop_eq_getElem_cons hlt,goG,zag hlt,List.length_take,Nat.min_eq_left (Nat.le_of_lt hlt)]
set_option maxRecDepth 100000 in
theorem zAI (g:List Nd) (hok:∀ n∈g,OkN n):Abs.Fn Tryz.prog zlW [] [.p (.slice (g.map encN))] (.tup [.p (.int .i64 (zlJ g).1),.p (.int .i64 (zlJ g).2)]) []:=by
 apply zw8
 simp [zpy]
 intro hml
 refine ⟨fun h0=>?_,fun h0 _=>⟨fun h16=>?_,fun h16 _=>?_⟩⟩
 ·subst h0
  exact zj (by simp [AV.pur,zlJ])
 ·have:zlJ g=(0,10):=by rw [zlJ,if_neg h0,if_pos (by omega)]
  rw [this]
  exact zj (by simp [AV.pur])
 have hck:zlJ g=match goG [] [] g with
  | .bad i e=>((i:Int),e)
  | .ok _=>match zcH g 0 g with
   | some i=>((i:Int),1)
   | none=>(0,0):=by rw [zlJ,if_neg h0,if_neg (by omega)]; rfl
 generalize zlJ g=R at *
 refine zA (σ:=Nat×List Ty) (n:=1) (fun q=>[.own 0 (q.2.map encT),.p (.int .i64 q.1)]) (fun q=>[.row q.2.length 2]) (fun q=>q.1≤g.length∧q.2.length=q.1∧goG (g.take q.1) q.2 (g.drop q.1)=goG [] [] g∧OkA (g.take q.1)) (fun q=>g.length - q.1) [.slot 0 2] (0,[]) (fun _=>rfl) ⟨rfl,rfl⟩ ⟨by simp,rfl,by simp,fun k hk=>by simp at hk⟩ (fun q B hq hB=>?_)
 obtain ⟨i,ts⟩:=q
 obtain ⟨h1,h2,h3,h4⟩:=hq
 simp only at h1 h2 h3 h4
 generalize goG [] [] g=G at *
 simp [zpz]
 refine ⟨fun hlt=>?_,fun hge=>?_⟩
 ·have hc:=zvh g[i] (g.take i) ts (hok _ (List.getElem_mem hlt)) h4 (by simp; omega) (by simp [h2]; omega)
  have hnx:=zFY (ts:=ts) hlt h4 (hok _ (List.getElem_mem hlt))
  rw [zFD hlt] at h3
  generalize nodeN (g.take i) ts g[i]=r at *
  simp only [zsJ,List.map_take] at hc
  simp [hlt]
  simp [zbU,zih]
  refine ⟨by omega, ?_⟩
  refine zF rfl hc (by simp [AV.pur]; rfl) ?_
  simp
  refine ⟨fun hz=>?_,fun hz=>?_⟩
  ·rw [if_pos hz] at h3
   subst h3
   rw [hck]
   exact zj (by simp [AV.pur])
  ·rw [if_neg (by simpa using hz)] at h3
   refine ⟨⟨fun e he=>?_,by simp,by simp; omega⟩, ?_⟩
   ·obtain ⟨x,_,rfl⟩:=List.mem_map.1 he; simp
   rw [IntWalk.i64_in _ (by omega)]
   refine cast (congrArg (fun x=>B x _) ?_) (hB (i + 1,ts++[r.1]) _ ⟨by simp only; omega,by simp; omega,h3,hnx hz⟩ (by simp only; omega) ?_ ?_ ?_ (by simp [AV.under,AV.under1]))
   ·simp
   ·simp
   ·simp [Ob.below,AV.under1]
   ·simp
 ·have:i=g.length:=by omega
  subst this
  rw [List.drop_length,goG] at h3
  subst h3
  simp only at hck
  clear hB h4
  intro _
  refine zA (σ:=Nat) (n:=1) (fun i=>[.p (.int .i64 i)]) (fun _=>[.row ts.length 2]) (fun i=>i≤g.length∧zcH g i (g.drop i)=zcH g 0 g) (fun i=>g.length - i) [] 0 (fun _=>rfl) ⟨rfl,rfl⟩ (by simp) (fun i B hi hB=>?_)
  obtain ⟨h1,h3⟩:=hi
  generalize zcH g 0 g=L at *
  simp [zpA]
  refine ⟨fun hlt=>?_,fun hge=>?_⟩
  ·rw [List.drop_eq_getElem_cons hlt,zcH] at h3
   have ho:=zEi g i (by omega)
   simp [hlt]
   refine zz (decide (zc6 i 0 g=[])) (fun _=>?_) ?_
   ·refine zo rfl rfl ho ?_
    simp [hlt]
   simp
   refine ⟨fun q1 q2=>?_,fun q=>?_⟩
   ·rw [if_pos ⟨q1,q2⟩] at h3
    subst h3
    rw [hck]
    exact zj (by simp [AV.pur])
   ·rw [if_neg (fun ⟨a,b⟩=>q a b)] at h3
    rw [IntWalk.i64_in _ (by omega)]
    exact hB (i + 1) _ ⟨by omega,h3⟩ (by omega) (by simp) (by simp [Ob.below,AV.under1]) (by simp) (by simp [AV.under,AV.under1])
  ·rw [List.drop_of_length_le hge,zcH] at h3
   subst h3
   rw [hck]
   exact zj (by simp [AV.pur])
end Go.Proofs.YtdmgbhamigegfaaGreatDoor
end

section
/- The law GraphGrows. -/
set_option linter.unusedSimpArgs false
set_option linter.unusedVariables false
namespace Go.Proofs.YtdmgbhamigegfaaGreatDoor
open Go Go.Abs
attribute [local irreducible] Abs.Fn
theorem zx5:We 1000000000 zeroE:=.mk _ _ _ _ (.mk _ _ _ _ _ (by simp) (by simp) (by simp)) (by simp) (by simp)
abbrev mapG:Nd:=⟨[],⟨2,[],.mk 0 [],[e2 oAdd eX (eL (intV 1))],zeroE,0,0⟩,[0],2,4,grpG,false⟩
def zfj:List Nd:=[srcG 2 4,mapG,sinkG 1 2 4]
theorem okN_src (p m:Int):OkN (srcG p m):=⟨by simp,⟨zx5,by simp [sizeE,zep]⟩,by simp,by simp⟩
theorem zFZ (i p m:Int):OkN (sinkG i p m):=⟨by simp,⟨zx5,by simp [sizeE,zep]⟩,by simp,by simp⟩
theorem okN_map:OkN mapG:=⟨fun e he=>by
 simp only [List.mem_cons,List.not_mem_nil,or_false] at he
 subst he
 exact ⟨we_2 we_x (we_l (zme _)),by simp [sizeE,zep]⟩,⟨zx5,by simp [sizeE,zep]⟩,by simp,by simp⟩
theorem zy9:∀ n∈zfj,OkN n:=by
 intro n hn
 simp only [zfj,List.mem_cons,List.not_mem_nil,or_false] at hn
 rcases hn with rfl | rfl | rfl
 ·exact okN_src _ _
 ·exact okN_map
 ·exact zFZ _ _ _
theorem zCp:Abs.Fn Tryz.prog zgK [] [] (.p (.slice (zfj.map encN))) []:=by
 apply zqR
 simp [ziz]
 (first | refine zn rfl ?_ | refine zl rfl ?_)
 (first | refine zx (ztD) ?_ | refine zq (ztD) ?_ | refine zr (ztD) ?_ | refine zd (ztD) rfl ?_ | refine zd (ztD) (by simp [AV.pur]; rfl) ?_)
 try simp
 (first | refine zn rfl ?_ | refine zl rfl ?_)
 (first | refine zx (za3 1) ?_ | refine zq (za3 1) ?_ | refine zr (za3 1) ?_ | refine zd (za3 1) rfl ?_ | refine zd (za3 1) (by simp [AV.pur]; rfl) ?_)
 try simp
 (first | refine zn rfl ?_ | refine zl rfl ?_)
 (first | refine zx (zoJ _) ?_ | refine zq (zoJ _) ?_ | refine zr (zoJ _) ?_ | refine zd (zoJ _) rfl ?_ | refine zd (zoJ _) (by simp [AV.pur]; rfl) ?_)
 try simp
 (first | refine zn rfl ?_ | refine zl rfl ?_)
 (first | refine zx (zmf _ _) ?_ | refine zq (zmf _ _) ?_ | refine zr (zmf _ _) ?_ | refine zd (zmf _ _) rfl ?_ | refine zd (zmf _ _) (by simp [AV.pur]; rfl) ?_)
 try simp
 exact zj (by simp [AV.pur,zfj,oAdd,intV])
end Go.Proofs.YtdmgbhamigegfaaGreatDoor
end
