/- The document's jobs over trees: who reads whom, the types, the weights. -/
import Derived.Test.YtdmgbhamigegfaaGreatDoorZSpRowGQ
import Derived.Test.YtdmgbhamigegfaaGreatDoorZSpGrowsQ
import Derived.Test.YtdmgbhamigegfaaGreatDoorZSpOut
import Derived.Test.YtdmgbhamigegfaaGreatDoorS2
import Derived.Test.YtdmgbhamigegfaaGreatDoorZSpOutEQ

section
/- The document's jobs over trees: who reads whom, the types, the weights. -/
set_option linter.unusedSimpArgs false
set_option linter.unusedVariables false
namespace Go.Proofs.YtdmgbhamigegfaaGreatDoor
open Go Go.Abs
attribute [local irreducible] Abs.Fn
theorem zoZ (n:Nd):∀ (l:List Nd) (ts:List Ty),zcd ts (l++[n])=zcd ts l++[(outO n.op (n.ins.map (fun i=>(zcd ts l).getD i.toNat (.mk 0 [])))).get (.mk 0 [])]
 | [],ts=>rfl
 | m::r,ts=>by simp only [List.cons_append,zcd]; exact zoZ n r _
theorem zlC:∀ (l:List Nd) (ts:List Ty),(zcd ts l).length=ts.length + l.length
 | [],ts=>by simp [zcd]
 | m::r,ts=>by simp only [zcd]; rw [zlC r]; simp; omega
theorem zCB (g:List Nd) (i:Int) (hl:g.length≤1000000):Abs.Fn Tryz.prog zgL [] [.p (.slice (g.map encN)),.p (.int .i64 i)] (.p (.slice (isT (zc2 i 0 g)))) []:=by
 apply zqz
 simp [zic]
 refine zA (σ:=Nat×List Int) (n:=1) (fun q=>[.own 0 (isT q.2),.p (.int .i64 q.1)]) (fun q=>[.row q.2.length 1]) (fun q=>q.1≤g.length∧q.2.length≤q.1∧q.2++zc2 i q.1 (g.drop q.1)=zc2 i 0 g) (fun q=>g.length - q.1) [.slot 0 1] (0,[]) (fun _=>rfl) ⟨rfl,rfl⟩ (by simp) (fun q B hq hB=>?_)
 obtain ⟨k,out⟩:=q
 obtain ⟨h1,h2,h3⟩:=hq
 simp only at h1 h2 h3
 generalize zc2 i 0 g=A at *
 simp [zjy]
 intro _
 refine ⟨fun hlt=>?_,fun hge=>?_⟩
 ·rw [List.drop_eq_getElem_cons hlt,zc2] at h3
  refine zA (σ:=Nat) (n:=1) (fun j=>[.own 0 (isT out),.p (.int .i64 j)]) (fun _=>[.row out.length 1]) (fun j=>j≤g[k].ins.length∧i ∉ g[k].ins.take j) (fun j=>g[k].ins.length - j) [] 0 (fun _=>rfl) ⟨rfl,rfl⟩ (by simp) (fun j B2 hj hB2=>?_)
  obtain ⟨h4,h5⟩:=hj
  simp [zjE,hlt]
  intro hml
  refine ⟨fun hltj=>?_,fun hgej=>?_⟩
  ·simp [hltj]
   refine ⟨fun hz=>?_,fun hz=>?_⟩
   ·rw [if_pos (hz ▸ List.getElem_mem hltj)] at h3
    refine ⟨⟨fun e he=>by obtain ⟨x,_,rfl⟩:=List.mem_map.1 he; rfl,by simp,by simp; omega⟩, ?_⟩
    rw [IntWalk.i64_in _ (by omega)]
    refine cast (congrArg (fun x=>B x _) ?_) (hB (k + 1,out++[(k:Int)]) _ ⟨by simp only; omega,by simp; omega,by simp only; rw [← h3]; simp⟩ (by simp only; omega) ?_ ?_ ?_ (by simp [AV.under,AV.under1]))
    ·simp
    ·simp
    ·simp [Ob.below,AV.under1]
    ·simp
   ·rw [IntWalk.i64_in _ (by simp [maxLen] at hml; omega)]
    refine hB2 (j + 1) _ ⟨by omega, ?_⟩ (by omega) (by simp) (by simp [Ob.below,AV.under1]) (by simp) (by simp [AV.under,AV.under1])
    rw [← zal hltj,List.mem_append,List.mem_singleton]
    rintro (h | h)
    ·exact h5 h
    ·exact hz h.symm
  ·rw [List.take_of_length_le hgej] at h5
   rw [if_neg h5] at h3
   rw [IntWalk.i64_in _ (by omega)]
   exact hB (k + 1,out) _ ⟨by simp only; omega,by simp only; omega,h3⟩ (by simp only; omega) (by simp) (by simp [Ob.below,AV.under1]) (by simp) (by simp [AV.under,AV.under1])
 ·rw [List.drop_of_length_le hge,zc2,List.append_nil] at h3
  exact zi (by simp [AV.pur,h3])
set_option maxRecDepth 100000 in
theorem zBd (g:List Nd) (n:Nat) (hn:n≤g.length) (hl:g.length≤1000) (hok:∀ x∈g,OkN x) (ha:OkA (g.take n)):Abs.Fn Tryz.prog zfN [] [.p (.slice (g.map encN)),.p (.int .i64 n)] (.p (.slice ((zcd [] (g.take n)).map encT))) []:=by
 apply zo1
 simp [zhp]
 refine zA (σ:=Nat) (n:=1) (fun i=>[.own 0 ((zcd [] (g.take i)).map encT),.p (.int .i64 i)]) (fun i=>[.row i 2]) (fun i=>i≤n) (fun i=>n - i) [.slot 0 2] 0 (fun _=>rfl) ⟨by simp [zcd],rfl⟩ (by simp) (fun i B hi hB=>?_)
 have hlen:(zcd [] (g.take i)).length=i:=by rw [zlC]; simp; omega
 simp [ziF]
 refine ⟨fun hlt=>?_,fun hge=>?_⟩
 ·have hig:i < g.length:=by omega
  have hsn:=zoZ g[i] (g.take i) []
  rw [zal hig] at hsn
  have hb:=ha i (by simp; omega)
  rw [List.getElem_take] at hb
  obtain ⟨ts,hts⟩:∃ ts,zcd [] (g.take i)=ts:=⟨_,rfl⟩
  rw [hts] at hlen hsn ⊢
  obtain ⟨m,hm0⟩:∃ m,g[i].ins.map (fun k=>ts.getD k.toNat (.mk 0 []))=m:=⟨_,rfl⟩
  have hm:m.length=g[i].ins.length:=by rw [← hm0]; simp
  have hmj:∀ j (hj:j < g[i].ins.length) (h:g[i].ins[j].toNat < ts.length),m[j]? = some ts[g[i].ins[j].toNat]:=by
   intro j hj h
   rw [← hm0]
   simp [hj,h]
  rw [hm0] at hsn
  have hO:=zyC g[i].op m (hok _ (List.getElem_mem hig)).es (hok _ (List.getElem_mem hig)).key (hok _ (List.getElem_mem hig)).len
  simp only [zgi] at hO
  refine zA (σ:=Nat) (n:=2) (fun j=>[.own 1 ((m.take j).map encT),.p (.int .i64 j)]) (fun j=>[.row i 2,.row j 2]) (fun j=>j≤g[i].ins.length) (fun j=>g[i].ins.length - j) [.slot 0 2] 0 (fun _=>rfl) ⟨rfl,rfl⟩ (by simp) (fun j B2 hj hB2=>?_)
  simp [zi5,hig]
  intro hml
  refine ⟨fun hltj=>?_,fun hgej=>?_⟩
  ·obtain ⟨g1,g2⟩:=hb.1 g[i].ins[j] (List.getElem_mem hltj)
   have g3:g[i].ins[j].toNat < ts.length:=by omega
   have hmm:=hmj j hltj g3
   rw [List.getElem?_eq_getElem (by omega),Option.some.injEq] at hmm
   have hs2:=zal (l:=m.map encT) (i:=j) (by simp; omega)
   simp only [List.getElem_map,hmm,zcI] at hs2
   simp [hltj,g1,g2,g3,hlen]
   refine ⟨by omega,⟨fun e he=>?_,by simp,by simp; omega⟩, ?_⟩
   ·obtain ⟨x,hx,rfl⟩:=List.mem_map.1 (List.mem_of_mem_take he); simp
   rw [IntWalk.i64_in _ (by omega),hs2,← List.map_take]
   exact hB2 (j + 1) _ (by omega) (by omega) (by simp) (by simp [Ob.below,AV.under1]) (by simp) (by simp [AV.under,AV.under1])
  ·rw [List.take_of_length_le (by simp; omega)]
   refine zo rfl rfl hO ?_
   have app:∀ u:Ty,zbv 2 32 (ts.map encT) [encT u]:=fun u=>⟨fun e he=>by obtain ⟨x,_,rfl⟩:=List.mem_map.1 he; simp,by simp,by simp; omega⟩
   have fin:∀ u:Ty,(outO g[i].op m).get (.mk 0 [])=u→B [AV.own 0 (ts.map encT++[encT u]),AV.p (T.int .i64 (IntKind.i64.wrap (i + 1)))] [Ob.row (i + 1) 2,Ob.row j 2,Ob.box [.p (.int .i64 u.kind),.p (.slice (u.of.map encT))]]:=by
    rintro u rfl
    rw [IntWalk.i64_in _ (by omega),show ts.map encT++[encT ((outO g[i].op m).get (.mk 0 []))]=(zcd [] (g.take (i + 1))).map encT by rw [hsn]; simp]
    exact hB (i + 1) _ (by omega) (by omega) (by simp) (by simp [Ob.below,AV.under1]) (by simp) (by simp [AV.under,AV.under1])
   simp only [zcI] at fin app
   cases hr:outO g[i].op m with
   | er f =>
    rw [hr] at fin
    simp [tyR,R.get,R.num]
    exact ⟨hlen.symm,app (.mk 0 []),fin (.mk 0 []) rfl⟩
   | ok u =>
    rw [hr] at fin
    simp [tyR,R.get,R.num]
    exact ⟨hlen.symm,app u,fin u rfl⟩
 ·have:i=n:=by omega
  subst this
  exact zi (by simp [AV.pur])
theorem zAg (g:List Nd) (n:Nat) (hn:n < g.length) (hl:g.length≤1000) (ha:OkA (g.take (n + 1))):Abs.Fn Tryz.prog ze6 [] [.p (.slice (g.map encN)),.p (.int .i64 n)] (.p (.int .i64 (wtN (wtsG [] (g.take n)) g[n]))) []:=by
 have hlast:wtN (wtsG [] (g.take n)) g[n]=(wtsG [] (g.take (n + 1))).getD n 0:=by
  rw [← zal hn,zmz]
  have:(wtsG [] (g.take n)).length=n:=by rw [zja]; simp; omega
  simp [List.getD_eq_getElem?_getD,this]
 rw [hlast]
 apply zod
 simp [zgw]
 refine zA (σ:=Nat) (n:=1) (fun i=>[.own 0 (isT (wtsG [] (g.take i))),.p (.int .i64 i)]) (fun i=>[.row i 1]) (fun i=>i≤n + 1) (fun i=>n + 1 - i) [.slot 0 1] 0 (fun _=>rfl) ⟨rfl,rfl⟩ (by simp) (fun i B hi hB=>?_)
 have hwl:(wtsG [] (g.take i)).length=i:=by rw [zja]; simp; omega
 simp [zhV]
 refine ⟨fun hle=>?_,fun hgt=>?_⟩
 ·have hlt:i < g.length:=by omega
  have hb:=ha i (by simp; omega)
  rw [List.getElem_take] at hb
  obtain ⟨hx,hxl⟩:=hb
  have hnext:wtsG [] (g.take (i + 1))=wtsG [] (g.take i)++[wtN (wtsG [] (g.take i)) g[i]]:=by rw [← zal hlt,zmz]
  obtain ⟨ws,hws⟩:∃ ws,wtsG [] (g.take i)=ws:=⟨_,rfl⟩
  rw [hws] at hwl hnext ⊢
  refine zA (σ:=Nat×Int) (n:=1) (fun q=>[.p (.int .i64 q.2),.p (.int .i64 q.1)]) (fun _=>[.row i 1]) (fun q=>q.1≤g[i].ins.length∧sumW ws q.2 (g[i].ins.drop q.1)=sumW ws 0 g[i].ins) (fun q=>g[i].ins.length - q.1) [] (0,0) (fun _=>rfl) ⟨rfl,by simp⟩ (by simp) (fun q B2 hq hB2=>?_)
  obtain ⟨j,w⟩:=q
  obtain ⟨h1,h2⟩:=hq
  simp only at h1 h2
  generalize hA:sumW ws 0 g[i].ins=A at *
  simp [zhW,hlt]
  intro hml
  refine ⟨fun hltj=>?_,fun hgej=>?_⟩
  ·rw [List.drop_eq_getElem_cons hltj,sumW] at h2
   obtain ⟨g1,g2⟩:=hx g[i].ins[j] (List.getElem_mem hltj)
   have g3:g[i].ins[j].toNat < ws.length:=by omega
   have gD:ws.getD g[i].ins[j].toNat 0=ws[g[i].ins[j].toNat]:=by simp [List.getD_eq_getElem?_getD,g3]
   rw [gD] at h2
   simp [hltj,g1,g2,g3,hwl]
   rw [IntWalk.i64_in (j + 1) (by omega)]
   exact hB2 (j + 1,_) _ ⟨by simp only; omega,h2⟩ (by simp only; omega) (by simp) (by simp [Ob.below,AV.under1]) (by simp) (by simp [AV.under,AV.under1])
  ·rw [List.drop_of_length_le hgej] at h2
   have h2:w=A:=h2
   have hwt:wtN ws g[i]=if g[i].op.k=1 then 1 else if g[i].op.k=4 then IntKind.i64.wrap (w * g[i].op.es.length) else w:=by rw [wtN,hA,h2]
   have fin:∀ v:Int,v=wtN ws g[i]→B [AV.own 0 (isT ws++[T.int .i64 v]),AV.p (T.int .i64 (IntKind.i64.wrap (i + 1)))] [Ob.row (i + 1) 1]:=by
    rintro v rfl
    rw [IntWalk.i64_in _ (by omega),show isT ws++[T.int .i64 (wtN ws g[i])]=isT (wtsG [] (g.take (i + 1))) by rw [hnext]; simp [isT]]
    exact hB (i + 1) _ (by omega) (by omega) (by simp) (by simp [Ob.below,AV.under1]) (by simp) (by simp [AV.under,AV.under1])
   have app:∀ v:Int,zbv 1 8 (isT ws) [T.int .i64 v]:=fun v=>⟨fun e he=>by obtain ⟨x,_,rfl⟩:=List.mem_map.1 he; rfl,by simp,by simp; omega⟩
   exact ⟨fun h1=>⟨hwl.symm,app _,fin 1 (by rw [hwt,if_pos h1])⟩,fun h1=>⟨fun h4 _=>⟨hwl.symm,app _,fin _ (by rw [hwt,if_neg h1,if_pos h4])⟩,fun h4=>⟨hwl.symm,app _,fin w (by rw [hwt,if_neg h1,if_neg h4])⟩⟩⟩
 ·have:i=n + 1:=by omega
  subst this
  have e2:n < (wtsG [] (g.take (n + 1))).length:=by omega
  generalize wtsG [] (g.take (n + 1))=ws at *
  refine ⟨by omega, ?_⟩
  simp [e2]
  exact zg rfl
end Go.Proofs.YtdmgbhamigegfaaGreatDoor
end

section
/- What the program finds wrong with a job is what the document finds. No program in sight. -/
set_option linter.unusedSimpArgs false
set_option linter.unusedVariables false
namespace Go.Proofs.YtdmgbhamigegfaaGreatDoor
open Go Go.Abs
theorem zEK {o:Opr} {ins ts:List Ty} {key:Ty} {x:Int} (h1:o.k≠1) (h:madeO o ins key ts=.er x):lastO o key ts ins=.er x:=by
 have hn:∀ l:List Ty,l.getD 0 noT=l.getD 0 (.mk 0 []):=fun _=>rfl
 unfold madeO at h
 unfold lastO
 by_cases k2:o.k=2
 ·rw [if_pos k2] at h; simp at h
 rw [if_neg k2] at h
 by_cases k3:o.k=3
 ·rw [if_pos k3] at h
  split at h
  ·simp at h
  ·rename_i hb
   rw [if_pos (by simp only [fitsO,hn]; rw [if_pos k3]; simpa using hb)]
   exact h
 rw [if_neg k3] at h
 by_cases k4:o.k=4
 ·rw [if_pos k4] at h
  split at h
  ·simp at h
  ·rename_i hb
   rw [if_pos (by simp only [fitsO,hn]; rw [if_neg k3,if_pos k4]; exact Bool.eq_false_iff.2 hb)]
   exact h
 rw [if_neg k4] at h
 by_cases k56:o.k=5∨o.k=6
 ·rw [if_pos k56] at h
  split at h
  ·rename_i hb
   rw [if_pos (by simp only [fitsO,hn]; rw [if_neg k3,if_neg k4,if_pos hb.1]; simpa using hb.2)]
   exact h
  ·rename_i hb
   split at h
   ·rename_i hc
    have hfit:fitsO o ts ins=true:=by
     simp only [fitsO,hn]
     rw [if_neg k3,if_neg k4]
     by_cases k5:o.k=5
     ·rw [if_pos k5]
      have:(ts.getD 0 (.mk 0 [])).kind=1:=Classical.not_not.1 fun hne=>hb ⟨k5,hne⟩
      simpa using this
     ·rw [if_neg k5,if_neg (by omega)]
    have hg:goesO o key ts ins=.mk 4 [key,.mk 1 []]:=by simp only [goesO]; rw [if_neg h1,if_neg (by omega),if_pos k56]
    rw [hfit,hg,if_neg (by simp),if_pos hc]
    exact h
   ·simp at h
 rw [if_neg k56] at h
 by_cases k7:o.k=7
 ·rw [if_pos k7] at h; simp at h
 rw [if_neg k7] at h
 by_cases k8:o.k=8
 ·rw [if_pos k8] at h
  split at h
  ·simp at h
  ·rename_i hb
   rw [if_pos (by simp only [fitsO,hn]; rw [if_neg k3,if_neg k4,if_neg (by omega),if_pos k8]; exact Bool.eq_false_iff.2 hb)]
   exact h
 rw [if_neg k8] at h
 simp at h
theorem zDq (o:Opr) (ins:List Ty):outP o ins=outO o ins:=by
 cases h:outO o ins with
 | ok t=>exact outP_of h
 | er x =>
  unfold outO at h
  unfold outP
  by_cases h1:o.k < 1∨9 < o.k
  ·rw [if_pos h1] at h ⊢; exact h
  rw [if_neg h1] at h ⊢
  by_cases h2:(o.k=1∨o.k=9)∧nameS o.name=false
  ·rw [if_pos h2] at h ⊢; exact h
  rw [if_neg h2] at h ⊢
  by_cases h3:zbe o=false∨insO o.k ins.length=false
  ·rw [if_pos h3] at h ⊢; exact h
  rw [if_neg h3] at h ⊢
  by_cases h4:ins.any (fun t=>decide (zD t 0≠0))=true
  ·rw [if_pos h4] at h
   rw [if_pos (.inl h4)]
   exact h
  rw [if_neg h4] at h
  by_cases h5:o.k=1
  ·rw [if_pos h5] at h
   split at h
   ·rename_i ht
    rw [if_pos (.inr ⟨h5,ht⟩)]
    exact h
   ·simp at h
  rw [if_neg h5] at h
  rw [if_neg (by rintro (a | a); exact h4 a; exact h5 a.1)]
  split at h
  ·rename_i e hk
   have hk':(if zae o.k=true then zaa o.key (ins.getD 0 noT) else .ok noT)=R.er e:=hk
   rw [hk']
   exact h
  ·rename_i key hk
   have hk':(if zae o.k=true then zaa o.key (ins.getD 0 noT) else .ok noT)=R.ok key:=hk
   rw [hk']
   dsimp only
   split at h
   ·rename_i e hc
    have hc':ckO (ins.getD 0 noT) o.es=.er e:=hc
    rw [hc']
    exact h
   ·rename_i ts hc
    have hc':ckO (ins.getD 0 noT) o.es=.ok ts:=hc
    rw [hc']
    exact zEK h5 h
theorem zFo (ahead:List Nd) (ts:List Ty) (n:Nd):(nodeN ahead ts n).2=nodeG ahead ts n∧(nodeG ahead ts n=0→(nodeN ahead ts n).1=(outO n.op (n.ins.map (fun i=>ts.getD i.toNat (.mk 0 [])))).get (.mk 0 [])):=by
 unfold nodeN nodeG
 by_cases h1:(n.uid≠[]∧nameS n.uid=false)∨nameS n.grp=false
 ·rw [if_pos h1,if_pos h1]; simp
 rw [if_neg h1,if_neg h1]
 by_cases h2:n.uid≠[]∧ahead.any (fun o=>decide (o.uid=n.uid))=true
 ·rw [if_pos h2,if_pos h2]; simp
 rw [if_neg h2,if_neg h2]
 by_cases h3:n.par < 1∨4 < n.par∨n.mx < n.par∨16 < n.mx
 ·rw [if_pos (by rcases h3 with h | h | h | h; exact .inl h; exact .inr (.inl h); exact .inr (.inr (.inl h)); exact .inr (.inr (.inr (.inl h)))),if_pos h3]; simp
 rw [if_neg h3]
 by_cases h4:zcO ahead [] n.ins=false
 ·rw [if_pos (.inr (.inr (.inr (.inr h4)))),if_pos h4]; simp
 rw [if_neg h4,if_neg (by rintro (h | h | h | h | h); exact h3 (.inl h); exact h3 (.inr (.inl h)); exact h3 (.inr (.inr (.inl h))); exact h3 (.inr (.inr (.inr h))); exact h4 h),zDq]
 cases ho:outO n.op (n.ins.map (fun i=>ts.getD i.toNat (.mk 0 []))) with
 | er e =>
  simp only [lastG]
  refine ⟨trivial,fun h=>?_⟩
  have:=zDv (f:=e) (o:=n.op) (ins:=n.ins.map (fun i=>ts.getD i.toNat (.mk 0 []))) (by rw [zDq,ho])
  exact absurd h this
 | ok t =>
  simp only [lastG,R.get]
  by_cases hw:64 < wtN (wtsG [] ahead) n
  ·rw [if_pos hw,if_pos hw]; simp
  rw [if_neg hw,if_neg hw]
  have ho2:outO n.op (n.ins.map (fun i=>ts.getD i.toNat (.mk 0 [])))=.ok t:=ho
  have hf:=(outO_ok ho2).1
  have hnm:n.op.name≠[]↔(n.op.k=1∨n.op.k=9):=by
   constructor
   ·intro hne
    simp only [zbe,Bool.and_eq_true,Bool.or_eq_true,decide_eq_true_eq] at hf
    rcases hf.1.1.1.1.1 with q | q
    ·exact q
    ·exact absurd q hne
   ·intro hk e
    unfold outO at ho2
    have hk2:¬ (n.op.k < 1∨9 < n.op.k):=by omega
    rw [if_neg hk2,if_pos ⟨hk,by rw [e]; rfl⟩] at ho2
    simp at ho2
  simp only [hnm]
  split <;> simp
theorem zEJ:∀ (r ahead:List Nd),goG ahead (zcd [] ahead) r=match goR ahead r with
  | some (i,e)=>.bad i e
  | none=>.ok (zcd [] (ahead++r))
 | [],ahead=>by simp [goG,goR]
 | n::r,ahead=>by
  obtain ⟨h1,h2⟩:=zFo ahead (zcd [] ahead) n
  rw [goG,goR,h1]
  by_cases h:nodeG ahead (zcd [] ahead) n≠0
  ·rw [if_pos h,if_pos h]
  ·rw [if_neg h,if_neg h,h2 (Classical.not_not.1 h)]
   have:=zEJ r (ahead++[n])
   rw [zoZ] at this
   rw [this]
   simp
theorem zyN (g:List Nd):zia g=zjh g:=by
 unfold zia zjh
 have h:=zEJ g []
 simp only [zcd,List.nil_append] at h
 rw [h]
 cases hr:goR [] g with
 | none=>rfl
 | some p=>obtain ⟨i,e⟩:=p; rfl
end Go.Proofs.YtdmgbhamigegfaaGreatDoor
end

section
/- The document's jobs over trees: what is wrong with a node, with a job. -/
set_option linter.unusedSimpArgs false
set_option linter.unusedVariables false
namespace Go.Proofs.YtdmgbhamigegfaaGreatDoor
open Go Go.Abs
attribute [local irreducible] Abs.Fn
theorem zAm {p:Nd→Bool} {g:List Nd} {i k:Nat} (hk:k < i) (hi:i≤g.length) (h:p (g[k]'(by omega))=true):(g.take i).any p=true:=by
 rw [List.any_eq_true]
 refine ⟨g[k]'(by omega), ?_,h⟩
 rw [List.mem_iff_getElem]
 exact ⟨k,by simp; omega,by simp⟩
theorem zDy {p:Nd→Bool} {g:List Nd} {i:Nat} (hi:i≤g.length) (h:∀ k (hk:k < i),p (g[k]'(by omega))=false):(g.take i).any p=false:=by
 rw [Bool.eq_false_iff]
 intro ha
 obtain ⟨x,hx,hp⟩:=List.any_eq_true.1 ha
 obtain ⟨k,hk,rfl⟩:=List.mem_iff_getElem.1 hx
 have:=h k (by simp at hk; omega)
 simp at hp
 rw [this] at hp
 simp at hp
theorem zge {l:List AV} {x r:AV} {H Ho:List Ob} (hx:l.getD 6 .top=x) (h:Gives 0 x H r Ho):aRes Tryz.prog [.tmp 6] l H (fun vs=>Gives 0 (tupOf vs) H r Ho):=by subst hx; exact h
set_option maxRecDepth 100000 in
set_option maxHeartbeats 1000000 in
theorem zCQ (g:List Nd) (i:Nat) (hi:i < g.length) (hl:g.length≤1000) (hok:∀ x∈g,OkN x) (ha:OkA (g.take i)) (ts:List Ty) (hts:ts.length=i) :
  Abs.Fn Tryz.prog zgI [] [.p (.slice (g.map encN)),.p (.int .i64 i),.p (.slice (ts.map encT))] (.p (.int .i64 (nodeG (g.take i) ts g[i]))) []:=by
 obtain ⟨n,hn⟩:∃ n,n=g[i]:=⟨_,rfl⟩
 have hokn:=hok _ (List.getElem_mem hi)
 have hgu:=zr8 g[i].uid
 have hgg:=zr8 g[i].grp
 rw [← hn] at hokn hgu hgg ⊢
 have hlt:(g.take i).length=i:=by simp; omega
 obtain ⟨A1,hA1⟩:∃ A,(g.take i).any (fun o=>decide (o.uid=n.uid))=A:=⟨_,rfl⟩
 obtain ⟨A2,hA2⟩:∃ A,(g.take i).any (fun o=>decide (o.op.k=n.op.k) && decide (o.op.name=n.op.name))=A:=⟨_,rfl⟩
 have r6:((n.uid≠[]∧nameS n.uid=false)∨nameS n.grp=false)→nodeG (g.take i) ts n=6:=fun h=>by rw [nodeG,if_pos h]
 have r7:¬ ((n.uid≠[]∧nameS n.uid=false)∨nameS n.grp=false)→(n.uid≠[]∧A1=true)→nodeG (g.take i) ts n=7:=fun h h'=>by rw [nodeG,if_neg h,hA1,if_pos h']
 have r1:¬ ((n.uid≠[]∧nameS n.uid=false)∨nameS n.grp=false)→¬ (n.uid≠[]∧A1=true)→(n.par < 1∨4 < n.par∨n.mx < n.par∨16 < n.mx)→nodeG (g.take i) ts n=1:=fun h h' h''=>by rw [nodeG,if_neg h,hA1,if_neg h',if_pos h'']
 have r1':¬ ((n.uid≠[]∧nameS n.uid=false)∨nameS n.grp=false)→¬ (n.uid≠[]∧A1=true)→¬ (n.par < 1∨4 < n.par∨n.mx < n.par∨16 < n.mx)→zcO (g.take i) [] n.ins=false→nodeG (g.take i) ts n=1:=fun h h' h'' h3=>by rw [nodeG,if_neg h,hA1,if_neg h',if_neg h'',if_pos h3]
 have r0:¬ ((n.uid≠[]∧nameS n.uid=false)∨nameS n.grp=false)→¬ (n.uid≠[]∧A1=true)→¬ (n.par < 1∨4 < n.par∨n.mx < n.par∨16 < n.mx)→zcO (g.take i) [] n.ins=true→nodeG (g.take i) ts n=lastG (outO n.op (n.ins.map (fun i=>ts.getD i.toNat (.mk 0 [])))) (wtN (wtsG [] (g.take i)) n) n A2:=fun h h' h'' h3=>by rw [nodeG,if_neg h,hA1,if_neg h',if_neg h'',if_neg (by rw [h3]; simp),hA2]
 generalize hZ:nodeG (g.take i) ts n=Z at *
 apply zqO
 unfold zcg
 simp -implicitDefEqProofs [hi,← hn]
 refine zz (!nameS n.uid) (fun _=>?_) ?_
 ·refine zo rfl rfl hgu ?_
  simp -implicitDefEqProofs [hi,← hn]
 simp -implicitDefEqProofs
 refine zz (!nameS n.grp) (fun _=>?_) ?_
 ·refine zo rfl rfl hgg ?_
  simp -implicitDefEqProofs [hi,← hn]
 simp -implicitDefEqProofs
 refine ⟨fun h6=>zge rfl (zg (by rw [r6 h6])),fun hu hgp=>?_⟩
 have n6:¬ ((n.uid≠[]∧nameS n.uid=false)∨nameS n.grp=false):=by
  rintro (⟨q1,q2⟩ | q)
  ·rw [hu q1] at q2; simp at q2
  ·rw [hgp] at q; simp at q
 refine zA (σ:=Nat) (n:=1) (fun k=>[.p (.int .i64 k)]) (fun _=>[.box (boxN n)]) (fun k=>k≤i∧(n.uid≠[]→∀ j (hj:j < k) (h:j < g.length),g[j].uid≠n.uid)) (fun k=>i - k) [] 0 (fun _=>rfl) ⟨rfl,by simp [hi,← hn]⟩ ⟨by omega,fun _ j hj=>by omega⟩ (fun k B hk hB=>?_)
 obtain ⟨h1,h2⟩:=hk
 unfold zjx
 simp -implicitDefEqProofs
 refine ⟨fun hlt=>?_,fun hge=>?_⟩
 ·have hkg:k < g.length:=by omega
  have step:∀ (q:n.uid≠[]→g[k].uid≠n.uid),B [.p (.int .i64 (IntKind.i64.wrap (k + 1)))] [.box (boxN n)]:=by
   intro q
   rw [IntWalk.i64_in _ (by omega)]
   refine hB (k + 1) _ ⟨by omega,fun hne j hj h=>?_⟩ (by omega) (by simp) (by simp [Ob.below,AV.under1]) (by simp) (by simp [AV.under,AV.under1])
   rcases Nat.lt_or_ge j k with hjk | hjk
   ·exact h2 hne j hjk h
   ·have:j=k:=by omega
    subst this
    exact q hne
  simp only [zzw] at step
  simp -implicitDefEqProofs [hkg]
  refine ⟨fun hne=>⟨fun hz=>zge rfl (zg ?_),fun hz=>step fun _=>hz⟩,fun he=>step fun hne=>absurd he hne⟩
  rw [r7 n6 ⟨hne,by rw [← hA1]; exact zAm hlt (by omega) (by simpa using hz)⟩]
 clear hB
 have n7:¬ (n.uid≠[]∧A1=true):=by
  rintro ⟨q1,q2⟩
  rw [← hA1,zDy (by omega) (fun j hj=>by simpa using h2 q1 j (by omega) (by omega))] at q2
  simp at q2
 refine ⟨fun hp=>zge rfl (zg (by rw [r1 n6 n7 (by omega)])),fun p1 p2 p3 p4=>?_⟩
 have n1:¬ (n.par < 1∨4 < n.par∨n.mx < n.par∨16 < n.mx):=by omega
 have r1'':=r1' n6 n7 n1
 have r0'':=r0 n6 n7 n1
 clear r1' r0 r1 r6 r7 h2 hge h1
 obtain ⟨m,hm0⟩:∃ m,n.ins.map (fun k=>ts.getD k.toNat (.mk 0 []))=m:=⟨_,rfl⟩
 have hm:m.length=n.ins.length:=by rw [← hm0]; simp
 have hmj:∀ j (hj:j < n.ins.length) (h:n.ins[j].toNat < ts.length),m[j]? = some ts[n.ins[j].toNat]:=by
  intro j hj h
  rw [← hm0]
  simp [hj,h]
 rw [hm0] at r0''
 have hO:=zyC n.op m hokn.es hokn.key hokn.len
 simp only [zgi] at hO
 refine zA (σ:=Nat) (n:=2) (fun k=>[.own 1 ((m.take k).map encT),.p (.int .i64 k)]) (fun k=>[.box (boxN n),.row k 2]) (fun k=>k≤n.ins.length∧zcO (g.take i) (n.ins.take k) (n.ins.drop k)=zcO (g.take i) [] n.ins) (fun k=>n.ins.length - k) [.slot 0 2] 0 (fun _=>rfl) ⟨rfl,by simp⟩ (by simp) (fun k B hk hB=>?_)
 obtain ⟨h1,h2⟩:=hk
 unfold zjK
 simp -implicitDefEqProofs
 intro hml
 refine ⟨fun hlt2=>?_,fun hge=>?_⟩
 ·rw [List.drop_eq_getElem_cons hlt2,zcO,hlt,zal hlt2] at h2
  by_cases hb:0≤n.ins[k]∧n.ins[k] < i
  ·obtain ⟨g1,g2⟩:=hb
   have g3:n.ins[k].toNat < i:=by omega
   have g3':n.ins[k].toNat < g.length:=by omega
   have g3t:n.ins[k].toNat < ts.length:=by omega
   have g4:¬ n.ins[k] < 0:=by omega
   have g5:¬ (i:Int)≤n.ins[k]:=by omega
   have g6:n.ins[k] < g.length:=by omega
   have gD:(g.take i).getD n.ins[k].toNat noN=g[n.ins[k].toNat]:=by simp [List.getD_eq_getElem?_getD,g3,g3']
   rw [gD] at h2
   simp -implicitDefEqProofs [hlt2,g1,g3,g3',g4,g5,g6]
   refine ⟨fun h9=>zge rfl (zg ?_),fun h9=>?_⟩
   ·rw [if_pos (.inr (.inr (.inl h9)))] at h2
    rw [r1'' h2.symm]
   refine zA (σ:=Nat) (n:=2) (fun j=>[.p (.int .i64 j)]) (fun _=>[.box (boxN n),.row k 2]) (fun j=>j≤k∧n.ins[k] ∉ n.ins.take j) (fun j=>k - j) [] 0 (fun _=>rfl) ⟨rfl,by simp⟩ (by simp) (fun j B3 hj hB3=>?_)
   obtain ⟨j1,j2⟩:=hj
   unfold zjL
   simp -implicitDefEqProofs
   refine ⟨fun hjk=>?_,fun hjk=>?_⟩
   ·have hji:j < n.ins.length:=by omega
    simp -implicitDefEqProofs [hji,hlt2]
    refine ⟨fun hz=>zge rfl (zg ?_),fun hz=>?_⟩
    ·rw [if_pos (.inr (.inr (.inr (by rw [← hz,List.mem_iff_getElem]; exact ⟨j,by simp; omega,by simp⟩))))] at h2
     rw [r1'' h2.symm]
    ·rw [IntWalk.i64_in _ (by have:=hokn.ins; omega)]
     refine hB3 (j + 1) _ ⟨by omega, ?_⟩ (by omega) (by simp) (by simp [Ob.below,AV.under1]) (by simp) (by simp [AV.under,AV.under1])
     rw [← zal hji,List.mem_append,List.mem_singleton]
     rintro (h | h)
     ·exact j2 h
     ·exact hz h.symm
   ·have:j=k:=by omega
    subst this
    rw [if_neg (by simp only [g4,g5,false_or,not_or]; exact ⟨h9,j2⟩)] at h2
    have hmm:=hmj j hlt2 g3t
    rw [List.getElem?_eq_getElem (by omega),Option.some.injEq] at hmm
    have hs2:=zal (l:=m.map encT) (i:=j) (by simp; omega)
    simp only [List.getElem_map,hmm,zcI] at hs2
    simp -implicitDefEqProofs [hlt2,g1,g3t,hts,g2]
    refine ⟨by omega,⟨fun e he=>?_,by simp,by simp; have:=hokn.ins; omega⟩, ?_⟩
    ·obtain ⟨x,hx,rfl⟩:=List.mem_map.1 (List.mem_of_mem_take he); simp
    rw [IntWalk.i64_in _ (by have:=hokn.ins; omega),hs2,← List.map_take]
    exact hB (j + 1) _ ⟨by omega,h2⟩ (by omega) (by simp) (by simp [Ob.below,AV.under1]) (by simp) (by simp [AV.under,AV.under1])
  ·rw [if_pos (by omega)] at h2
   rcases (by omega:n.ins[k] < 0∨(i:Int)≤n.ins[k]) with hz | hz
   all_goals
    simp -implicitDefEqProofs [hlt2,hz]
    refine zz true (fun h=>by simp at h) ?_
    simp
    exact zge rfl (zg (by rw [r1'' h2.symm]))
 ·rw [List.drop_of_length_le hge] at h2
  have hseen:zcO (g.take i) [] n.ins=true:=by rw [← h2]; rfl
  have r:=r0'' hseen
  have hin:=zmr _ _ _ hseen
  have hw:=zAg g i hi hl (by rw [← zal hi,← hn]; exact zth ha hin hokn.ins)
  rw [← hn] at hw
  generalize wtN (wtsG [] (g.take i)) n=w at *
  rw [List.take_of_length_le (by simp; omega)]
  rw [zmd]
  unfold zeT
  simp -implicitDefEqProofs
  refine zo rfl rfl hO ?_
  cases hr:outO n.op m with
  | er f =>
   have hf:=outO_er hr
   rw [hr] at r
   simp -implicitDefEqProofs [tyR,R.get,R.num,hf]
   exact zge rfl (zg (by rw [r]; rfl))
  | ok t =>
   rw [hr] at r
   simp only [lastG] at r
   simp -implicitDefEqProofs [tyR,R.get,R.num]
   refine zo rfl rfl hw ?_
   simp -implicitDefEqProofs
   refine ⟨fun h64=>zge rfl (zg (by rw [r,if_pos h64])),fun h64=>?_⟩
   rw [if_neg (by omega)] at r
   refine zA (σ:=Nat) (n:=3) (fun q=>[.p (.int .i64 q)]) (fun _=>[.box (boxN n),.row k 2,.box [.p (.int .i64 t.kind),.p (.slice (t.of.map encT))]]) (fun q=>q≤i∧((n.op.k=1∨n.op.k=9)→∀ j (hj:j < q) (h:j < g.length),¬ (g[j].op.k=n.op.k∧g[j].op.name=n.op.name))) (fun q=>i - q) [] 0 (fun _=>rfl) ⟨rfl,by simp⟩ ⟨by omega,fun _ j hj=>by omega⟩ (fun q B4 hq hB4=>?_)
   obtain ⟨q1,q2⟩:=hq
   unfold zjN
   simp -implicitDefEqProofs
   refine ⟨fun hltq=>?_,fun hgeq=>?_⟩
   ·have hqg:q < g.length:=by omega
    have step:((n.op.k=1∨n.op.k=9)→¬ (g[q].op.k=n.op.k∧g[q].op.name=n.op.name))→B4 [.p (.int .i64 (IntKind.i64.wrap (q + 1)))] [.box (boxN n),.row k 2,.box [.p (.int .i64 t.kind),.p (.slice (t.of.map encT))]]:=by
     intro hq
     rw [IntWalk.i64_in _ (by omega)]
     refine hB4 (q + 1) _ ⟨by omega,fun hne j hj h=>?_⟩ (by omega) (by simp) (by simp [Ob.below,AV.under1]) (by simp) (by simp [AV.under,AV.under1])
     rcases Nat.lt_or_ge j q with hjk | hjk
     ·exact q2 hne j hjk h
     ·have:j=q:=by omega
      subst this
      exact hq hne
    have g7:(n.op.k=1∨n.op.k=9)→g[q].op.k=n.op.k→g[q].op.name=n.op.name→∀ H (l:List AV),l.getD 6 .top=.p (.int .i64 7)→aRes Tryz.prog [.tmp 6] l H (fun vs=>Gives 0 (tupOf vs) H (.p (.int .i64 Z)) []):=by
     intro a1 s1 s2 H l hl6
     refine zge hl6 (zg ?_)
     rw [r,if_pos ⟨a1,by rw [← hA2]; exact zAm hltq (by omega) (by simp [s1,s2])⟩]
    simp only [zzw] at step
    simp -implicitDefEqProofs [hqg]
    exact ⟨fun k1=>⟨fun s1=>⟨fun s2=>g7 (.inl k1) s1 s2 _ _ rfl,fun s2=>step fun _ h=>s2 h.2⟩,fun s1=>step fun _ h=>s1 h.1⟩,fun k1=>⟨fun k9=>⟨fun s1=>⟨fun s2=>g7 (.inr k9) s1 s2 _ _ rfl,fun s2=>step fun _ h=>s2 h.2⟩,fun s1=>step fun _ h=>s1 h.1⟩,fun k9=>step fun h=>by rcases h with h | h <;> contradiction⟩⟩
   ·refine zge rfl (zg ?_)
    rw [r,if_neg]
    rintro ⟨a1,a2⟩
    rw [← hA2,zDy (by omega) (fun j hj=>by have:=q2 a1 j (by omega) (by omega); simpa using this)] at a2
    simp at a2
theorem zCD {ahead:List Nd} {ts:List Ty} {n:Nd} (h:nodeG ahead ts n=0):zcO ahead [] n.ins=true:=by
 unfold nodeG at h
 split at h
 ·simp at h
 split at h
 ·simp at h
 split at h
 ·simp at h
 split at h
 ·simp at h
 ·rename_i h4
  simpa using h4
set_option maxRecDepth 100000 in
theorem zy5 (g:List Nd) (hok:∀ n∈g,OkN n):Abs.Fn Tryz.prog zfM [] [.p (.slice (g.map encN))] (.tup [.p (.int .i64 (zjh g).1),.p (.int .i64 (zjh g).2)]) []:=by
 apply zo3
 simp [zhG]
 intro hml
 refine ⟨fun h0=>?_,fun h0 _=>⟨fun h16=>?_,fun h16=>?_⟩⟩
 ·subst h0
  exact zi (by simp [AV.pur,zjh])
 ·have:zjh g=(0,10):=by rw [zjh,if_neg h0,if_pos (by omega)]
  rw [this]
  exact zi (by simp [AV.pur])
 have hck:zjh g=match goR [] g with
  | some (i,e)=>((i:Int),e)
  | none=>match zcF g 0 g with
   | some i=>((i:Int),1)
   | none=>(0,0):=by rw [zjh,if_neg h0,if_neg (by omega)]; rfl
 generalize zjh g=R at *
 refine zA (σ:=Nat) (n:=0) (fun i=>[.p (.int .i64 i)]) (fun _=>[]) (fun i=>i≤g.length∧goR (g.take i) (g.drop i)=goR [] g∧OkA (g.take i)) (fun i=>g.length - i) [] 0 (fun _=>rfl) ⟨rfl,rfl⟩ ⟨by simp,by simp,fun k hk=>by simp at hk⟩ (fun i B hi hB=>?_)
 obtain ⟨h1,h3,h4⟩:=hi
 generalize goR [] g=G at *
 simp [ziX]
 intro _
 refine ⟨fun hlt=>?_,fun hge=>?_⟩
 ·have ht:=zBd g i h1 (by omega) hok h4
  have hnd:=zCQ g i hlt (by omega) hok h4 (zcd [] (g.take i)) (by rw [zlC]; simp; omega)
  have hnx:nodeG (g.take i) (zcd [] (g.take i)) g[i]=0→OkA (g.take (i + 1)):=by
   intro h
   rw [← zal hlt]
   exact zth h4 (zmr _ _ _ (zCD h)) (hok _ (List.getElem_mem hlt)).ins
  rw [List.drop_eq_getElem_cons hlt,goR,zal hlt,List.length_take,Nat.min_eq_left h1] at h3
  refine zo rfl rfl ht ?_
  simp
  refine zo rfl rfl hnd ?_
  simp
  generalize nodeG (g.take i) (zcd [] (g.take i)) g[i]=r at *
  refine ⟨fun hz=>?_,fun hz=>?_⟩
  ·rw [if_pos hz] at h3
   subst h3
   rw [hck]
   exact zi (by simp [AV.pur])
  ·rw [if_neg (by simpa using hz)] at h3
   rw [IntWalk.i64_in _ (by omega)]
   exact hB (i + 1) _ ⟨by omega,h3,hnx hz⟩ (by omega) (by simp) (by simp) (by simp) (by simp [AV.under,AV.under1])
 ·have:i=g.length:=by omega
  subst this
  rw [List.drop_length,goR] at h3
  subst h3
  simp only at hck
  clear hB h4
  refine zA (σ:=Nat) (n:=0) (fun i=>[.p (.int .i64 i)]) (fun _=>[]) (fun i=>i≤g.length∧zcF g i (g.drop i)=zcF g 0 g) (fun i=>g.length - i) [] 0 (fun _=>rfl) ⟨rfl,rfl⟩ (by simp) (fun i B hi hB=>?_)
  obtain ⟨h1,h3⟩:=hi
  generalize zcF g 0 g=L at *
  simp [zjd]
  intro _
  refine ⟨fun hlt=>?_,fun hge=>?_⟩
  ·rw [List.drop_eq_getElem_cons hlt,zcF] at h3
   have ho:=zCB g i (by omega)
   simp [hlt]
   refine zz (decide (zc2 i 0 g=[])) (fun _=>?_) ?_
   ·refine zo rfl rfl ho ?_
    simp
   simp
   refine ⟨fun q1 q2=>?_,fun q=>?_⟩
   ·rw [if_pos ⟨q1,q2⟩] at h3
    subst h3
    rw [hck]
    exact zi (by simp [AV.pur])
   ·rw [if_neg (fun ⟨a,b⟩=>q a b)] at h3
    rw [IntWalk.i64_in _ (by omega)]
    exact hB (i + 1) _ ⟨by omega,h3⟩ (by omega) (by simp) (by simp) (by simp) (by simp [AV.under,AV.under1])
  ·rw [List.drop_of_length_le hge,zcF] at h3
   subst h3
   rw [hck]
   exact zi (by simp [AV.pur])
end Go.Proofs.YtdmgbhamigegfaaGreatDoor
end

section
/- The law GraphOuts. -/
set_option linter.unusedSimpArgs false
set_option linter.unusedVariables false
namespace Go.Proofs.YtdmgbhamigegfaaGreatDoor
open Go Go.Abs
attribute [local irreducible] Abs.Fn
def fewN (n:Nd):Bool:=decide (n.uid.length≤50) && (decide (n.grp.length≤50) && (decide (n.ins.length≤8) && fewO n.op))
def fewG (g:List Nd):Bool:=decide (g.length≤20) && g.all fewN
theorem zEg (g:List Nd):Abs.Fn Tryz.prog zig [] [.p (.slice (g.map encN))] (.p (.bool (fewG g))) []:=by
 apply zsA
 simp [zkJ]
 intro _
 refine ⟨fun h=>zg ?_,fun h20=>?_⟩
 ·have:fewG g=false:=by simp only [fewG]; simp; omega
  rw [this]
 have hf:fewG g=g.all fewN:=by simp only [fewG]; simp; omega
 rw [hf]
 refine zA (σ:=Nat) (n:=0) (fun i=>[.p (.int .i64 i)]) (fun _=>[]) (fun i=>i≤g.length∧(g.drop i).all fewN=g.all fewN) (fun i=>g.length - i) [] 0 (fun _=>rfl) ⟨rfl,rfl⟩ (by simp) (fun i B hi hB=>?_)
 obtain ⟨h1,h2⟩:=hi
 generalize g.all fewN=A at *
 simp [zll]
 intro _
 refine ⟨fun hlt=>?_,fun hge=>?_⟩
 ·have h7:=zEm g[i].op
  rw [List.drop_eq_getElem_cons hlt,List.all_cons] at h2
  simp only [zgi] at h7
  simp [hlt]
  intro _
  refine zz (!fewO g[i].op) (fun _=>?_) ?_
  ·refine zo rfl rfl h7 ?_
   simp
  simp
  refine ⟨fun hz=>zg ?_,fun u1 u2 u3 u4=>?_⟩
  ·have:fewN g[i]=false:=by
    rw [Bool.eq_false_iff]
    intro h
    simp only [fewN,Bool.and_eq_true,decide_eq_true_eq] at h
    obtain ⟨a,b,c,d⟩:=h
    rcases hz with ((hz | hz) | hz) | hz
    ·omega
    ·omega
    ·omega
    ·rw [d] at hz; simp at hz
   rw [← h2,this]; rfl
  ·have:fewN g[i]=true:=by
    simp only [fewN,Bool.and_eq_true,decide_eq_true_eq]
    exact ⟨by omega,by omega,by omega,u4⟩
   rw [this,Bool.true_and] at h2
   rw [IntWalk.i64_in _ (by omega)]
   exact hB (i + 1) _ ⟨by omega,h2⟩ (by omega) (by simp) (by simp) (by simp) (by simp [AV.under,AV.under1])
 ·rw [List.drop_of_length_le hge] at h2
  exact zg (by rw [← h2]; rfl)
theorem fewG_ok {g:List Nd} (h:fewG g=true):g.length≤20∧(∀ n∈g,OkN n∧Wd 1000000000 n.op.t∧n.ins.length≤8):=by
 simp only [fewG,Bool.and_eq_true,decide_eq_true_eq,List.all_eq_true,fewN] at h
 refine ⟨h.1,fun n hn=>?_⟩
 obtain ⟨_,_,h3,h4⟩:=h.2 n hn
 obtain ⟨k1,k2,k3,k4⟩:=zDe h4
 exact ⟨⟨fun e he=>⟨(k3 e he).1,by have:=(k3 e he).2; omega⟩,⟨k2.1,by omega⟩,by omega,by omega⟩,k1,h3⟩
theorem zE2 (g:List Nd) (h:∀ n∈g,OkN n∧Wd 1000000000 n.op.t∧n.ins.length≤8) (hl:g.length≤1000):Abs.Fn Tryz.prog zjf [] [.p (.slice (g.map encN))] (.p (.slice (g.map encN))) []:=by
 apply ztD
 simp [zlO]
 refine zA (σ:=Nat) (n:=1) (fun i=>[.own 0 ((g.take i).map encN),.p (.int .i64 i)]) (fun i=>[.row i 21]) (fun i=>i≤g.length) (fun i=>g.length - i) [.slot 0 21] 0 (fun _=>rfl) ⟨rfl,rfl⟩ (by simp) (fun i B hi hB=>?_)
 simp [zmI]
 intro _
 refine ⟨fun hlt=>?_,fun hge=>?_⟩
 ·obtain ⟨k1,k2,_⟩:=h g[i] (List.getElem_mem hlt)
  have h7:=zES k2 k1.key.1 (fun e he=>(k1.es e he).1) k1.len
  have hs:=zal (l:=g.map encN) (i:=i) (by simpa using hlt)
  simp only [List.getElem_map,zsq] at hs
  simp only [zgi] at h7
  simp [hlt]
  refine zH rfl h7 rfl ?_
  simp [hlt]
  refine ⟨by omega,⟨fun e he=>?_,by simp,by simp; omega⟩, ?_⟩
  ·obtain ⟨x,_,rfl⟩:=List.mem_map.1 (List.mem_of_mem_take he); rfl
  rw [IntWalk.i64_in _ (by omega),hs,← List.map_take]
  exact hB (i + 1) _ (by omega) (by omega) (by simp) (by simp [Ob.below,AV.under1]) (by simp) (by simp [AV.under,AV.under1])
 ·rw [List.take_of_length_le (by simp; omega)]
  exact zi (by simp [AV.pur])
end Go.Proofs.YtdmgbhamigegfaaGreatDoor
end
