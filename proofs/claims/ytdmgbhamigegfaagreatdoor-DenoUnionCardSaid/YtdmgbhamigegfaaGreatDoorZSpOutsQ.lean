/- The document's jobs over trees: who reads whom, the types, the weights. -/
import Derived.Test.YtdmgbhamigegfaaGreatDoorZPuGraphO
import Derived.Test.YtdmgbhamigegfaaGreatDoorZSpGrowsQ
import Derived.Test.YtdmgbhamigegfaaGreatDoorZSpOut
import Derived.Test.YtdmgbhamigegfaaGreatDoorS2
import Derived.Test.YtdmgbhamigegfaaGreatDoorZSpOutOQ

section
/- The document's jobs over trees: who reads whom, the types, the weights. -/
set_option linter.unusedSimpArgs false
set_option linter.unusedVariables false
namespace Go.Proofs.YtdmgbhamigegfaaGreatDoor
open Go Go.Abs
attribute [local irreducible] Abs.Fn
theorem zva (n:Nd):∀ (l:List Nd) (ts:List Ty),zd5 ts (l++[n])=zd5 ts l++[(outO n.op (n.ins.map (fun i=>(zd5 ts l).getD i.toNat (.mk 0 [])))).get (.mk 0 [])]
 | [],ts=>rfl
 | m::r,ts=>by simp only [List.cons_append,zd5]; exact zva n r _
theorem zmd:∀ (l:List Nd) (ts:List Ty),(zd5 ts l).length=ts.length + l.length
 | [],ts=>by simp [zd5]
 | m::r,ts=>by simp only [zd5]; rw [zmd r]; simp; omega
theorem zCl (g:List Nd) (i:Int) (hl:g.length≤1000000):Abs.Fn Tryz.prog zgM [] [.p (.slice (g.map encN)),.p (.int .i64 i)] (.p (.slice (isT (zc6 i 0 g)))) []:=by
 apply zqV
 simp [ziA]
 refine zA (σ:=Nat×List Int) (n:=1) (fun q=>[.own 0 (isT q.2),.p (.int .i64 q.1)]) (fun q=>[.row q.2.length 1]) (fun q=>q.1≤g.length∧q.2.length≤q.1∧q.2++zc6 i q.1 (g.drop q.1)=zc6 i 0 g) (fun q=>g.length - q.1) [.slot 0 1] (0,[]) (fun _=>rfl) ⟨rfl,rfl⟩ (by simp) (fun q B hq hB=>?_)
 obtain ⟨k,out⟩:=q
 obtain ⟨h1,h2,h3⟩:=hq
 simp only at h1 h2 h3
 generalize zc6 i 0 g=A at *
 simp [zjV]
 intro _
 refine ⟨fun hlt=>?_,fun hge=>?_⟩
 ·rw [List.drop_eq_getElem_cons hlt,zc6] at h3
  refine zA (σ:=Nat) (n:=1) (fun j=>[.own 0 (isT out),.p (.int .i64 j)]) (fun _=>[.row out.length 1]) (fun j=>j≤g[k].ins.length∧i ∉ g[k].ins.take j) (fun j=>g[k].ins.length - j) [] 0 (fun _=>rfl) ⟨rfl,rfl⟩ (by simp) (fun j B2 hj hB2=>?_)
  obtain ⟨h4,h5⟩:=hj
  simp [zjW,hlt]
  intro hml
  refine ⟨fun hltj=>?_,fun hgej=>?_⟩
  ·simp [hltj]
   refine ⟨fun hz=>?_,fun hz=>?_⟩
   ·rw [if_pos (hz ▸ List.getElem_mem hltj)] at h3
    refine ⟨⟨fun e he=>by obtain ⟨x,_,rfl⟩:=List.mem_map.1 he; rfl,by simp,by simp; omega⟩, ?_⟩
    rw [IntWalk.i64_in _ (by omega)]
    refine cast (congrArg (fun x=>B x _) ?_) (hB (k + 1,out++[(k:Int)]) _ ⟨by simp only; omega,by simp; omega,by simp only; rw [← h3]; simp⟩ (by simp only; omega) ?_ ?_ ?_ (by simp [AV.under,AV.under1]))
    ·simp
    ·simp
    ·simp [Ob.below,AV.under1]
    ·simp
   ·rw [IntWalk.i64_in _ (by simp [maxLen] at hml; omega)]
    refine hB2 (j + 1) _ ⟨by omega, ?_⟩ (by omega) (by simp) (by simp [Ob.below,AV.under1]) (by simp) (by simp [AV.under,AV.under1])
    rw [← zag hltj,List.mem_append,List.mem_singleton]
    rintro (h | h)
    ·exact h5 h
    ·exact hz h.symm
  ·rw [List.take_of_length_le hgej] at h5
   rw [if_neg h5] at h3
   rw [IntWalk.i64_in _ (by omega)]
   exact hB (k + 1,out) _ ⟨by simp only; omega,by simp only; omega,h3⟩ (by simp only; omega) (by simp) (by simp [Ob.below,AV.under1]) (by simp) (by simp [AV.under,AV.under1])
 ·rw [List.drop_of_length_le hge,zc6,List.append_nil] at h3
  exact zj (by simp [AV.pur,h3])
set_option maxRecDepth 100000 in
theorem zB7 (g:List Nd) (n:Nat) (hn:n≤g.length) (hl:g.length≤1000) (hok:∀ x∈g,OkN x) (ha:OkA (g.take n)):Abs.Fn Tryz.prog zf0 [] [.p (.slice (g.map encN)),.p (.int .i64 n)] (.p (.slice ((zd5 [] (g.take n)).map encT))) []:=by
 apply zp2
 simp [zhJ]
 refine zA (σ:=Nat) (n:=1) (fun i=>[.own 0 ((zd5 [] (g.take i)).map encT),.p (.int .i64 i)]) (fun i=>[.row i 2]) (fun i=>i≤n) (fun i=>n - i) [.slot 0 2] 0 (fun _=>rfl) ⟨by simp [zd5],rfl⟩ (by simp) (fun i B hi hB=>?_)
 have hlen:(zd5 [] (g.take i)).length=i:=by rw [zmd]; simp; omega
 simp [zjf]
 refine ⟨fun hlt=>?_,fun hge=>?_⟩
 ·have hig:i < g.length:=by omega
  have hsn:=zva g[i] (g.take i) []
  rw [zag hig] at hsn
  have hb:=ha i (by simp; omega)
  rw [List.getElem_take] at hb
  obtain ⟨ts,hts⟩:∃ ts,zd5 [] (g.take i)=ts:=⟨_,rfl⟩
  rw [hts] at hlen hsn ⊢
  obtain ⟨m,hm0⟩:∃ m,g[i].ins.map (fun k=>ts.getD k.toNat (.mk 0 []))=m:=⟨_,rfl⟩
  have hm:m.length=g[i].ins.length:=by rw [← hm0]; simp
  have hmj:∀ j (hj:j < g[i].ins.length) (h:g[i].ins[j].toNat < ts.length),m[j]? = some ts[g[i].ins[j].toNat]:=by
   intro j hj h
   rw [← hm0]
   simp [hj,h]
  rw [hm0] at hsn
  have hO:=zyM g[i].op m (hok _ (List.getElem_mem hig)).es (hok _ (List.getElem_mem hig)).key (hok _ (List.getElem_mem hig)).len
  simp only [zgb] at hO
  refine zA (σ:=Nat) (n:=2) (fun j=>[.own 1 ((m.take j).map encT),.p (.int .i64 j)]) (fun j=>[.row i 2,.row j 2]) (fun j=>j≤g[i].ins.length) (fun j=>g[i].ins.length - j) [.slot 0 2] 0 (fun _=>rfl) ⟨rfl,rfl⟩ (by simp) (fun j B2 hj hB2=>?_)
  simp [zjg,hig]
  intro hml
  refine ⟨fun hltj=>?_,fun hgej=>?_⟩
  ·obtain ⟨g1,g2⟩:=hb.1 g[i].ins[j] (List.getElem_mem hltj)
   have g3:g[i].ins[j].toNat < ts.length:=by omega
   have hmm:=hmj j hltj g3
   rw [List.getElem?_eq_getElem (by omega),Option.some.injEq] at hmm
   have hs2:=zag (l:=m.map encT) (i:=j) (by simp; omega)
   simp only [List.getElem_map,hmm,zc2] at hs2
   simp [hltj,g1,g2,g3,hlen]
   refine ⟨by omega,⟨fun e he=>?_,by simp,by simp; omega⟩, ?_⟩
   ·obtain ⟨x,hx,rfl⟩:=List.mem_map.1 (List.mem_of_mem_take he); simp
   rw [IntWalk.i64_in _ (by omega),hs2,← List.map_take]
   exact hB2 (j + 1) _ (by omega) (by omega) (by simp) (by simp [Ob.below,AV.under1]) (by simp) (by simp [AV.under,AV.under1])
  ·rw [List.take_of_length_le (by simp; omega)]
   refine zo rfl rfl hO ?_
   have app:∀ u:Ty,zbv 2 32 (ts.map encT) [encT u]:=fun u=>⟨fun e he=>by obtain ⟨x,_,rfl⟩:=List.mem_map.1 he; simp,by simp,by simp; omega⟩
   have fin:∀ u:Ty,(outO g[i].op m).get (.mk 0 [])=u→B [AV.own 0 (ts.map encT++[encT u]),AV.p (T.int .i64 (IntKind.i64.wrap (i + 1)))] [Ob.row (i + 1) 2,Ob.row j 2,Ob.box [.p (.int .i64 u.kind),.p (.slice (u.of.map encT))]]:=by
    rintro u rfl
    rw [IntWalk.i64_in _ (by omega),show ts.map encT++[encT ((outO g[i].op m).get (.mk 0 []))]=(zd5 [] (g.take (i + 1))).map encT by rw [hsn]; simp]
    exact hB (i + 1) _ (by omega) (by omega) (by simp) (by simp [Ob.below,AV.under1]) (by simp) (by simp [AV.under,AV.under1])
   simp only [zc2] at fin app
   cases hr:outO g[i].op m with
   | er f =>
    rw [hr] at fin
    simp [tyR,R.get,R.num]
    exact ⟨hlen.symm,app (.mk 0 []),fin (.mk 0 []) rfl⟩
   | ok u =>
    rw [hr] at fin
    simp [tyR,R.get,R.num]
    exact ⟨hlen.symm,app u,fin u rfl⟩
 ·have:i=n:=by omega
  subst this
  exact zj (by simp [AV.pur])
theorem zAB (g:List Nd) (n:Nat) (hn:n < g.length) (hl:g.length≤1000) (ha:OkA (g.take (n + 1))):Abs.Fn Tryz.prog zfc [] [.p (.slice (g.map encN)),.p (.int .i64 n)] (.p (.int .i64 (wtN (wtsG [] (g.take n)) g[n]))) []:=by
 have hlast:wtN (wtsG [] (g.take n)) g[n]=(wtsG [] (g.take (n + 1))).getD n 0:=by
  rw [← zag hn,zmZ]
  have:(wtsG [] (g.take n)).length=n:=by rw [zjt]; simp; omega
  simp [List.getD_eq_getElem?_getD,this]
 rw [hlast]
 apply zoD
 simp [zgR]
 refine zA (σ:=Nat) (n:=1) (fun i=>[.own 0 (isT (wtsG [] (g.take i))),.p (.int .i64 i)]) (fun i=>[.row i 1]) (fun i=>i≤n + 1) (fun i=>n + 1 - i) [.slot 0 1] 0 (fun _=>rfl) ⟨rfl,rfl⟩ (by simp) (fun i B hi hB=>?_)
 have hwl:(wtsG [] (g.take i)).length=i:=by rw [zjt]; simp; omega
 simp [zh7]
 refine ⟨fun hle=>?_,fun hgt=>?_⟩
 ·have hlt:i < g.length:=by omega
  have hb:=ha i (by simp; omega)
  rw [List.getElem_take] at hb
  obtain ⟨hx,hxl⟩:=hb
  have hnext:wtsG [] (g.take (i + 1))=wtsG [] (g.take i)++[wtN (wtsG [] (g.take i)) g[i]]:=by rw [← zag hlt,zmZ]
  obtain ⟨ws,hws⟩:∃ ws,wtsG [] (g.take i)=ws:=⟨_,rfl⟩
  rw [hws] at hwl hnext ⊢
  refine zA (σ:=Nat×Int) (n:=1) (fun q=>[.p (.int .i64 q.2),.p (.int .i64 q.1)]) (fun _=>[.row i 1]) (fun q=>q.1≤g[i].ins.length∧sumW ws q.2 (g[i].ins.drop q.1)=sumW ws 0 g[i].ins) (fun q=>g[i].ins.length - q.1) [] (0,0) (fun _=>rfl) ⟨rfl,by simp⟩ (by simp) (fun q B2 hq hB2=>?_)
  obtain ⟨j,w⟩:=q
  obtain ⟨h1,h2⟩:=hq
  simp only at h1 h2
  generalize hA:sumW ws 0 g[i].ins=A at *
  simp [zh8,hlt]
  intro hml
  refine ⟨fun hltj=>?_,fun hgej=>?_⟩
  ·rw [List.drop_eq_getElem_cons hltj,sumW] at h2
   obtain ⟨g1,g2⟩:=hx g[i].ins[j] (List.getElem_mem hltj)
   have g3:g[i].ins[j].toNat < ws.length:=by omega
   have gD:ws.getD g[i].ins[j].toNat 0=ws[g[i].ins[j].toNat]:=by simp [List.getD_eq_getElem?_getD,g3]
   rw [gD] at h2
   simp [hltj,g1,g2,g3,hwl]
   rw [IntWalk.i64_in (j + 1) (by omega)]
   exact hB2 (j + 1,_) _ ⟨by simp only; omega,h2⟩ (by simp only; omega) (by simp) (by simp [Ob.below,AV.under1]) (by simp) (by simp [AV.under,AV.under1])
  ·rw [List.drop_of_length_le hgej] at h2
   have h2:w=A:=h2
   have hwt:wtN ws g[i]=if g[i].op.k=1 then 1 else if g[i].op.k=4 then IntKind.i64.wrap (w * g[i].op.es.length) else w:=by rw [wtN,hA,h2]
   have fin:∀ v:Int,v=wtN ws g[i]→B [AV.own 0 (isT ws++[T.int .i64 v]),AV.p (T.int .i64 (IntKind.i64.wrap (i + 1)))] [Ob.row (i + 1) 1]:=by
    rintro v rfl
    rw [IntWalk.i64_in _ (by omega),show isT ws++[T.int .i64 (wtN ws g[i])]=isT (wtsG [] (g.take (i + 1))) by rw [hnext]; simp [isT]]
    exact hB (i + 1) _ (by omega) (by omega) (by simp) (by simp [Ob.below,AV.under1]) (by simp) (by simp [AV.under,AV.under1])
   have app:∀ v:Int,zbv 1 8 (isT ws) [T.int .i64 v]:=fun v=>⟨fun e he=>by obtain ⟨x,_,rfl⟩:=List.mem_map.1 he; rfl,by simp,by simp; omega⟩
   exact ⟨fun h1=>⟨hwl.symm,app _,fin 1 (by rw [hwt,if_pos h1])⟩,fun h1=>⟨fun h4 _=>⟨hwl.symm,app _,fin _ (by rw [hwt,if_neg h1,if_pos h4])⟩,fun h4=>⟨hwl.symm,app _,fin w (by rw [hwt,if_neg h1,if_neg h4])⟩⟩⟩
 ·have:i=n + 1:=by omega
  subst this
  have e2:n < (wtsG [] (g.take (n + 1))).length:=by omega
  generalize wtsG [] (g.take (n + 1))=ws at *
  refine ⟨by omega, ?_⟩
  simp [e2]
  exact zg rfl
end Go.Proofs.YtdmgbhamigegfaaGreatDoor
end

section
/- The document's jobs over trees: what is wrong with a node, with a job. -/
set_option linter.unusedSimpArgs false
set_option linter.unusedVariables false
namespace Go.Proofs.YtdmgbhamigegfaaGreatDoor
open Go Go.Abs
attribute [local irreducible] Abs.Fn
theorem zAQ {p:Nd→Bool} {g:List Nd} {i k:Nat} (hk:k < i) (hi:i≤g.length) (h:p (g[k]'(by omega))=true):(g.take i).any p=true:=by
 rw [List.any_eq_true]
 refine ⟨g[k]'(by omega), ?_,h⟩
 rw [List.mem_iff_getElem]
 exact ⟨k,by simp; omega,by simp⟩
theorem zDM {p:Nd→Bool} {g:List Nd} {i:Nat} (hi:i≤g.length) (h:∀ k (hk:k < i),p (g[k]'(by omega))=false):(g.take i).any p=false:=by
 rw [Bool.eq_false_iff]
 intro ha
 obtain ⟨x,hx,hp⟩:=List.any_eq_true.1 ha
 obtain ⟨k,hk,rfl⟩:=List.mem_iff_getElem.1 hx
 have:=h k (by simp at hk; omega)
 simp at hp
 rw [this] at hp
 simp at hp
theorem zgg {l:List AV} {x r:AV} {H Ho:List Ob} (hx:l.getD 6 .top=x) (h:Gives 0 x H r Ho):aRes Tryz.prog [.tmp 6] l H (fun vs=>Gives 0 (tupOf vs) H r Ho):=by subst hx; exact h
set_option maxRecDepth 100000 in
set_option maxHeartbeats 1000000 in
theorem zDo (g:List Nd) (i:Nat) (hi:i < g.length) (hl:g.length≤1000) (hok:∀ x∈g,OkN x) (ha:OkA (g.take i)) (ts:List Ty) (hts:ts.length=i) :
  Abs.Fn Tryz.prog zgQ [] [.p (.slice (g.map encN)),.p (.int .i64 i),.p (.slice (ts.map encT))] (.p (.int .i64 (nodeG (g.take i) ts g[i]))) []:=by
 obtain ⟨n,hn⟩:∃ n,n=g[i]:=⟨_,rfl⟩
 have hokn:=hok _ (List.getElem_mem hi)
 have hgu:=zrG g[i].uid
 have hgg:=zrG g[i].grp
 rw [← hn] at hokn hgu hgg ⊢
 have hlt:(g.take i).length=i:=by simp; omega
 obtain ⟨A1,hA1⟩:∃ A,(g.take i).any (fun o=>decide (o.uid=n.uid))=A:=⟨_,rfl⟩
 obtain ⟨A2,hA2⟩:∃ A,(g.take i).any (fun o=>decide (o.op.k=n.op.k) && decide (o.op.name=n.op.name))=A:=⟨_,rfl⟩
 have r6:((n.uid≠[]∧nameS n.uid=false)∨nameS n.grp=false)→nodeG (g.take i) ts n=6:=fun h=>by rw [nodeG,if_pos h]
 have r7:¬ ((n.uid≠[]∧nameS n.uid=false)∨nameS n.grp=false)→(n.uid≠[]∧A1=true)→nodeG (g.take i) ts n=7:=fun h h'=>by rw [nodeG,if_neg h,hA1,if_pos h']
 have r1:¬ ((n.uid≠[]∧nameS n.uid=false)∨nameS n.grp=false)→¬ (n.uid≠[]∧A1=true)→(n.par < 1∨4 < n.par∨n.mx < n.par∨16 < n.mx)→nodeG (g.take i) ts n=1:=fun h h' h''=>by rw [nodeG,if_neg h,hA1,if_neg h',if_pos h'']
 have r1':¬ ((n.uid≠[]∧nameS n.uid=false)∨nameS n.grp=false)→¬ (n.uid≠[]∧A1=true)→¬ (n.par < 1∨4 < n.par∨n.mx < n.par∨16 < n.mx)→zcS (g.take i) [] n.ins=false→nodeG (g.take i) ts n=1:=fun h h' h'' h3=>by rw [nodeG,if_neg h,hA1,if_neg h',if_neg h'',if_pos h3]
 have r0:¬ ((n.uid≠[]∧nameS n.uid=false)∨nameS n.grp=false)→¬ (n.uid≠[]∧A1=true)→¬ (n.par < 1∨4 < n.par∨n.mx < n.par∨16 < n.mx)→zcS (g.take i) [] n.ins=true→nodeG (g.take i) ts n=lastG (outO n.op (n.ins.map (fun i=>ts.getD i.toNat (.mk 0 [])))) (wtN (wtsG [] (g.take i)) n) n A2:=fun h h' h'' h3=>by rw [nodeG,if_neg h,hA1,if_neg h',if_neg h'',if_neg (by rw [h3]; simp),hA2]
 generalize hZ:nodeG (g.take i) ts n=Z at *
 apply zq1
 unfold zch
 simp -implicitDefEqProofs [hi,← hn]
 refine zz (!nameS n.uid) (fun _=>?_) ?_
 ·refine zo rfl rfl hgu ?_
  simp -implicitDefEqProofs [hi,← hn]
 simp -implicitDefEqProofs
 refine zz (!nameS n.grp) (fun _=>?_) ?_
 ·refine zo rfl rfl hgg ?_
  simp -implicitDefEqProofs [hi,← hn]
 simp -implicitDefEqProofs
 refine ⟨fun h6=>zgg rfl (zg (by rw [r6 h6])),fun hu hgp=>?_⟩
 have n6:¬ ((n.uid≠[]∧nameS n.uid=false)∨nameS n.grp=false):=by
  rintro (⟨q1,q2⟩ | q)
  ·rw [hu q1] at q2; simp at q2
  ·rw [hgp] at q; simp at q
 refine zA (σ:=Nat) (n:=1) (fun k=>[.p (.int .i64 k)]) (fun _=>[.box (boxN n)]) (fun k=>k≤i∧(n.uid≠[]→∀ j (hj:j < k) (h:j < g.length),g[j].uid≠n.uid)) (fun k=>i - k) [] 0 (fun _=>rfl) ⟨rfl,by simp [hi,← hn]⟩ ⟨by omega,fun _ j hj=>by omega⟩ (fun k B hk hB=>?_)
 obtain ⟨h1,h2⟩:=hk
 unfold zjY
 simp -implicitDefEqProofs
 refine ⟨fun hlt=>?_,fun hge=>?_⟩
 ·have hkg:k < g.length:=by omega
  have step:∀ (q:n.uid≠[]→g[k].uid≠n.uid),B [.p (.int .i64 (IntKind.i64.wrap (k + 1)))] [.box (boxN n)]:=by
   intro q
   rw [IntWalk.i64_in _ (by omega)]
   refine hB (k + 1) _ ⟨by omega,fun hne j hj h=>?_⟩ (by omega) (by simp) (by simp [Ob.below,AV.under1]) (by simp) (by simp [AV.under,AV.under1])
   rcases Nat.lt_or_ge j k with hjk | hjk
   ·exact h2 hne j hjk h
   ·have:j=k:=by omega
    subst this
    exact q hne
  simp only [zzs] at step
  simp -implicitDefEqProofs [hkg]
  refine ⟨fun hne=>⟨fun hz=>zgg rfl (zg ?_),fun hz=>step fun _=>hz⟩,fun he=>step fun hne=>absurd he hne⟩
  rw [r7 n6 ⟨hne,by rw [← hA1]; exact zAQ hlt (by omega) (by simpa using hz)⟩]
 clear hB
 have n7:¬ (n.uid≠[]∧A1=true):=by
  rintro ⟨q1,q2⟩
  rw [← hA1,zDM (by omega) (fun j hj=>by simpa using h2 q1 j (by omega) (by omega))] at q2
  simp at q2
 refine ⟨fun hp=>zgg rfl (zg (by rw [r1 n6 n7 (by omega)])),fun p1 p2 p3 p4=>?_⟩
 have n1:¬ (n.par < 1∨4 < n.par∨n.mx < n.par∨16 < n.mx):=by omega
 have r1'':=r1' n6 n7 n1
 have r0'':=r0 n6 n7 n1
 clear r1' r0 r1 r6 r7 h2 hge h1
 obtain ⟨m,hm0⟩:∃ m,n.ins.map (fun k=>ts.getD k.toNat (.mk 0 []))=m:=⟨_,rfl⟩
 have hm:m.length=n.ins.length:=by rw [← hm0]; simp
 have hmj:∀ j (hj:j < n.ins.length) (h:n.ins[j].toNat < ts.length),m[j]? = some ts[n.ins[j].toNat]:=by
  intro j hj h
  rw [← hm0]
  simp [hj,h]
 rw [hm0] at r0''
 have hO:=zyM n.op m hokn.es hokn.key hokn.len
 simp only [zgb] at hO
 refine zA (σ:=Nat) (n:=2) (fun k=>[.own 1 ((m.take k).map encT),.p (.int .i64 k)]) (fun k=>[.box (boxN n),.row k 2]) (fun k=>k≤n.ins.length∧zcS (g.take i) (n.ins.take k) (n.ins.drop k)=zcS (g.take i) [] n.ins) (fun k=>n.ins.length - k) [.slot 0 2] 0 (fun _=>rfl) ⟨rfl,by simp⟩ (by simp) (fun k B hk hB=>?_)
 obtain ⟨h1,h2⟩:=hk
 unfold zjZ
 simp -implicitDefEqProofs
 intro hml
 refine ⟨fun hlt2=>?_,fun hge=>?_⟩
 ·rw [List.drop_eq_getElem_cons hlt2,zcS,hlt,zag hlt2] at h2
  by_cases hb:0≤n.ins[k]∧n.ins[k] < i
  ·obtain ⟨g1,g2⟩:=hb
   have g3:n.ins[k].toNat < i:=by omega
   have g3':n.ins[k].toNat < g.length:=by omega
   have g3t:n.ins[k].toNat < ts.length:=by omega
   have g4:¬ n.ins[k] < 0:=by omega
   have g5:¬ (i:Int)≤n.ins[k]:=by omega
   have g6:n.ins[k] < g.length:=by omega
   have gD:(g.take i).getD n.ins[k].toNat noN=g[n.ins[k].toNat]:=by simp [List.getD_eq_getElem?_getD,g3,g3']
   rw [gD] at h2
   simp -implicitDefEqProofs [hlt2,g1,g3,g3',g4,g5,g6]
   refine ⟨fun h9=>zgg rfl (zg ?_),fun h9=>?_⟩
   ·rw [if_pos (.inr (.inr (.inl h9)))] at h2
    rw [r1'' h2.symm]
   refine zA (σ:=Nat) (n:=2) (fun j=>[.p (.int .i64 j)]) (fun _=>[.box (boxN n),.row k 2]) (fun j=>j≤k∧n.ins[k] ∉ n.ins.take j) (fun j=>k - j) [] 0 (fun _=>rfl) ⟨rfl,by simp⟩ (by simp) (fun j B3 hj hB3=>?_)
   obtain ⟨j1,j2⟩:=hj
   unfold zj0
   simp -implicitDefEqProofs
   refine ⟨fun hjk=>?_,fun hjk=>?_⟩
   ·have hji:j < n.ins.length:=by omega
    simp -implicitDefEqProofs [hji,hlt2]
    refine ⟨fun hz=>zgg rfl (zg ?_),fun hz=>?_⟩
    ·rw [if_pos (.inr (.inr (.inr (by rw [← hz,List.mem_iff_getElem]; exact ⟨j,by simp; omega,by simp⟩))))] at h2
     rw [r1'' h2.symm]
    ·rw [IntWalk.i64_in _ (by have:=hokn.ins; omega)]
     refine hB3 (j + 1) _ ⟨by omega, ?_⟩ (by omega) (by simp) (by simp [Ob.below,AV.under1]) (by simp) (by simp [AV.under,AV.under1])
     rw [← zag hji,List.mem_append,List.mem_singleton]
     rintro (h | h)
     ·exact j2 h
     ·exact hz h.symm
   ·have:j=k:=by omega
    subst this
    rw [if_neg (by simp only [g4,g5,false_or,not_or]; exact ⟨h9,j2⟩)] at h2
    have hmm:=hmj j hlt2 g3t
    rw [List.getElem?_eq_getElem (by omega),Option.some.injEq] at hmm
    have hs2:=zag (l:=m.map encT) (i:=j) (by simp; omega)
    simp only [List.getElem_map,hmm,zc2] at hs2
    simp -implicitDefEqProofs [hlt2,g1,g3t,hts,g2]
    refine ⟨by omega,⟨fun e he=>?_,by simp,by simp; have:=hokn.ins; omega⟩, ?_⟩
    ·obtain ⟨x,hx,rfl⟩:=List.mem_map.1 (List.mem_of_mem_take he); simp
    rw [IntWalk.i64_in _ (by have:=hokn.ins; omega),hs2,← List.map_take]
    exact hB (j + 1) _ ⟨by omega,h2⟩ (by omega) (by simp) (by simp [Ob.below,AV.under1]) (by simp) (by simp [AV.under,AV.under1])
  ·rw [if_pos (by omega)] at h2
   rcases (by omega:n.ins[k] < 0∨(i:Int)≤n.ins[k]) with hz | hz
   all_goals
    simp -implicitDefEqProofs [hlt2,hz]
    refine zz true (fun h=>by simp at h) ?_
    simp
    exact zgg rfl (zg (by rw [r1'' h2.symm]))
 ·rw [List.drop_of_length_le hge] at h2
  have hseen:zcS (g.take i) [] n.ins=true:=by rw [← h2]; rfl
  have r:=r0'' hseen
  have hin:=zmW _ _ _ hseen
  have hw:=zAB g i hi hl (by rw [← zag hi,← hn]; exact zs8 ha hin hokn.ins)
  rw [← hn] at hw
  generalize wtN (wtsG [] (g.take i)) n=w at *
  rw [List.take_of_length_le (by simp; omega)]
  rw [zmM]
  unfold ze9
  simp -implicitDefEqProofs
  refine zo rfl rfl hO ?_
  cases hr:outO n.op m with
  | er f =>
   have hf:=outO_er hr
   rw [hr] at r
   simp -implicitDefEqProofs [tyR,R.get,R.num,hf]
   exact zgg rfl (zg (by rw [r]; rfl))
  | ok t =>
   rw [hr] at r
   simp only [lastG] at r
   simp -implicitDefEqProofs [tyR,R.get,R.num]
   refine zo rfl rfl hw ?_
   simp -implicitDefEqProofs
   refine ⟨fun h64=>zgg rfl (zg (by rw [r,if_pos h64])),fun h64=>?_⟩
   rw [if_neg (by omega)] at r
   refine zA (σ:=Nat) (n:=3) (fun q=>[.p (.int .i64 q)]) (fun _=>[.box (boxN n),.row k 2,.box [.p (.int .i64 t.kind),.p (.slice (t.of.map encT))]]) (fun q=>q≤i∧((n.op.k=1∨n.op.k=9)→∀ j (hj:j < q) (h:j < g.length),¬ (g[j].op.k=n.op.k∧g[j].op.name=n.op.name))) (fun q=>i - q) [] 0 (fun _=>rfl) ⟨rfl,by simp⟩ ⟨by omega,fun _ j hj=>by omega⟩ (fun q B4 hq hB4=>?_)
   obtain ⟨q1,q2⟩:=hq
   unfold zj1
   simp -implicitDefEqProofs
   refine ⟨fun hltq=>?_,fun hgeq=>?_⟩
   ·have hqg:q < g.length:=by omega
    have step:((n.op.k=1∨n.op.k=9)→¬ (g[q].op.k=n.op.k∧g[q].op.name=n.op.name))→B4 [.p (.int .i64 (IntKind.i64.wrap (q + 1)))] [.box (boxN n),.row k 2,.box [.p (.int .i64 t.kind),.p (.slice (t.of.map encT))]]:=by
     intro hq
     rw [IntWalk.i64_in _ (by omega)]
     refine hB4 (q + 1) _ ⟨by omega,fun hne j hj h=>?_⟩ (by omega) (by simp) (by simp [Ob.below,AV.under1]) (by simp) (by simp [AV.under,AV.under1])
     rcases Nat.lt_or_ge j q with hjk | hjk
     ·exact q2 hne j hjk h
     ·have:j=q:=by omega
      subst this
      exact hq hne
    have g7:(n.op.k=1∨n.op.k=9)→g[q].op.k=n.op.k→g[q].op.name=n.op.name→∀ H (l:List AV),l.getD 6 .top=.p (.int .i64 7)→aRes Tryz.prog [.tmp 6] l H (fun vs=>Gives 0 (tupOf vs) H (.p (.int .i64 Z)) []):=by
     intro a1 s1 s2 H l hl6
     refine zgg hl6 (zg ?_)
     rw [r,if_pos ⟨a1,by rw [← hA2]; exact zAQ hltq (by omega) (by simp [s1,s2])⟩]
    simp only [zzs] at step
    simp -implicitDefEqProofs [hqg]
    exact ⟨fun k1=>⟨fun s1=>⟨fun s2=>g7 (.inl k1) s1 s2 _ _ rfl,fun s2=>step fun _ h=>s2 h.2⟩,fun s1=>step fun _ h=>s1 h.1⟩,fun k1=>⟨fun k9=>⟨fun s1=>⟨fun s2=>g7 (.inr k9) s1 s2 _ _ rfl,fun s2=>step fun _ h=>s2 h.2⟩,fun s1=>step fun _ h=>s1 h.1⟩,fun k9=>step fun h=>by rcases h with h | h <;> contradiction⟩⟩
   ·refine zgg rfl (zg ?_)
    rw [r,if_neg]
    rintro ⟨a1,a2⟩
    rw [← hA2,zDM (by omega) (fun j hj=>by have:=q2 a1 j (by omega) (by omega); simpa using this)] at a2
    simp at a2
theorem zDm {ahead:List Nd} {ts:List Ty} {n:Nd} (h:nodeG ahead ts n=0):zcS ahead [] n.ins=true:=by
 unfold nodeG at h
 split at h
 ·simp at h
 split at h
 ·simp at h
 split at h
 ·simp at h
 split at h
 ·simp at h
 ·rename_i h4
  simpa using h4
set_option maxRecDepth 100000 in
theorem zzS (g:List Nd) (hok:∀ n∈g,OkN n):Abs.Fn Tryz.prog zfX [] [.p (.slice (g.map encN))] (.tup [.p (.int .i64 (zlK g).1),.p (.int .i64 (zlK g).2)]) []:=by
 apply zpY
 simp [zhE]
 intro hml
 refine ⟨fun h0=>?_,fun h0 _=>⟨fun h16=>?_,fun h16=>?_⟩⟩
 ·subst h0
  exact zj (by simp [AV.pur,zlK])
 ·have:zlK g=(0,10):=by rw [zlK,if_neg h0,if_pos (by omega)]
  rw [this]
  exact zj (by simp [AV.pur])
 have hck:zlK g=match goR [] g with
  | some (i,e)=>((i:Int),e)
  | none=>match zcH g 0 g with
   | some i=>((i:Int),1)
   | none=>(0,0):=by rw [zlK,if_neg h0,if_neg (by omega)]; rfl
 generalize zlK g=R at *
 refine zA (σ:=Nat) (n:=0) (fun i=>[.p (.int .i64 i)]) (fun _=>[]) (fun i=>i≤g.length∧goR (g.take i) (g.drop i)=goR [] g∧OkA (g.take i)) (fun i=>g.length - i) [] 0 (fun _=>rfl) ⟨rfl,rfl⟩ ⟨by simp,by simp,fun k hk=>by simp at hk⟩ (fun i B hi hB=>?_)
 obtain ⟨h1,h3,h4⟩:=hi
 generalize goR [] g=G at *
 simp [zi9]
 intro _
 refine ⟨fun hlt=>?_,fun hge=>?_⟩
 ·have ht:=zB7 g i h1 (by omega) hok h4
  have hnd:=zDo g i hlt (by omega) hok h4 (zd5 [] (g.take i)) (by rw [zmd]; simp; omega)
  have hnx:nodeG (g.take i) (zd5 [] (g.take i)) g[i]=0→OkA (g.take (i + 1)):=by
   intro h
   rw [← zag hlt]
   exact zs8 h4 (zmW _ _ _ (zDm h)) (hok _ (List.getElem_mem hlt)).ins
  rw [List.drop_eq_getElem_cons hlt,goR,zag hlt,List.length_take,Nat.min_eq_left h1] at h3
  refine zo rfl rfl ht ?_
  simp
  refine zo rfl rfl hnd ?_
  simp
  generalize nodeG (g.take i) (zd5 [] (g.take i)) g[i]=r at *
  refine ⟨fun hz=>?_,fun hz=>?_⟩
  ·rw [if_pos hz] at h3
   subst h3
   rw [hck]
   exact zj (by simp [AV.pur])
  ·rw [if_neg (by simpa using hz)] at h3
   rw [IntWalk.i64_in _ (by omega)]
   exact hB (i + 1) _ ⟨by omega,h3,hnx hz⟩ (by omega) (by simp) (by simp) (by simp) (by simp [AV.under,AV.under1])
 ·have:i=g.length:=by omega
  subst this
  rw [List.drop_length,goR] at h3
  subst h3
  simp only at hck
  clear hB h4
  refine zA (σ:=Nat) (n:=0) (fun i=>[.p (.int .i64 i)]) (fun _=>[]) (fun i=>i≤g.length∧zcH g i (g.drop i)=zcH g 0 g) (fun i=>g.length - i) [] 0 (fun _=>rfl) ⟨rfl,rfl⟩ (by simp) (fun i B hi hB=>?_)
  obtain ⟨h1,h3⟩:=hi
  generalize zcH g 0 g=L at *
  simp [zja]
  intro _
  refine ⟨fun hlt=>?_,fun hge=>?_⟩
  ·rw [List.drop_eq_getElem_cons hlt,zcH] at h3
   have ho:=zCl g i (by omega)
   simp [hlt]
   refine zz (decide (zc6 i 0 g=[])) (fun _=>?_) ?_
   ·refine zo rfl rfl ho ?_
    simp
   simp
   refine ⟨fun q1 q2=>?_,fun q=>?_⟩
   ·rw [if_pos ⟨q1,q2⟩] at h3
    subst h3
    rw [hck]
    exact zj (by simp [AV.pur])
   ·rw [if_neg (fun ⟨a,b⟩=>q a b)] at h3
    rw [IntWalk.i64_in _ (by omega)]
    exact hB (i + 1) _ ⟨by omega,h3⟩ (by omega) (by simp) (by simp) (by simp) (by simp [AV.under,AV.under1])
  ·rw [List.drop_of_length_le hge,zcH] at h3
   subst h3
   rw [hck]
   exact zj (by simp [AV.pur])
end Go.Proofs.YtdmgbhamigegfaaGreatDoor
end

section
/- The law GraphOuts. -/
set_option linter.unusedSimpArgs false
set_option linter.unusedVariables false
namespace Go.Proofs.YtdmgbhamigegfaaGreatDoor
open Go Go.Abs
attribute [local irreducible] Abs.Fn
def fewN (n:Nd):Bool:=decide (n.uid.length≤50) && (decide (n.grp.length≤50) && (decide (n.ins.length≤8) && fewO n.op))
def fewG (g:List Nd):Bool:=decide (g.length≤20) && g.all fewN
theorem zED (g:List Nd):Abs.Fn Tryz.prog ziy [] [.p (.slice (g.map encN))] (.p (.bool (fewG g))) []:=by
 apply ztt
 simp [zk2]
 intro _
 refine ⟨fun h=>zg ?_,fun h20=>?_⟩
 ·have:fewG g=false:=by simp only [fewG]; simp; omega
  rw [this]
 have hf:fewG g=g.all fewN:=by simp only [fewG]; simp; omega
 rw [hf]
 refine zA (σ:=Nat) (n:=0) (fun i=>[.p (.int .i64 i)]) (fun _=>[]) (fun i=>i≤g.length∧(g.drop i).all fewN=g.all fewN) (fun i=>g.length - i) [] 0 (fun _=>rfl) ⟨rfl,rfl⟩ (by simp) (fun i B hi hB=>?_)
 obtain ⟨h1,h2⟩:=hi
 generalize g.all fewN=A at *
 simp [zlB]
 intro _
 refine ⟨fun hlt=>?_,fun hge=>?_⟩
 ·have h7:=zEC g[i].op
  rw [List.drop_eq_getElem_cons hlt,List.all_cons] at h2
  simp only [zgb] at h7
  simp [hlt]
  intro _
  refine zz (!fewO g[i].op) (fun _=>?_) ?_
  ·refine zo rfl rfl h7 ?_
   simp
  simp
  refine ⟨fun hz=>zg ?_,fun u1 u2 u3 u4=>?_⟩
  ·have:fewN g[i]=false:=by
    rw [Bool.eq_false_iff]
    intro h
    simp only [fewN,Bool.and_eq_true,decide_eq_true_eq] at h
    obtain ⟨a,b,c,d⟩:=h
    rcases hz with ((hz | hz) | hz) | hz
    ·omega
    ·omega
    ·omega
    ·rw [d] at hz; simp at hz
   rw [← h2,this]; rfl
  ·have:fewN g[i]=true:=by
    simp only [fewN,Bool.and_eq_true,decide_eq_true_eq]
    exact ⟨by omega,by omega,by omega,u4⟩
   rw [this,Bool.true_and] at h2
   rw [IntWalk.i64_in _ (by omega)]
   exact hB (i + 1) _ ⟨by omega,h2⟩ (by omega) (by simp) (by simp) (by simp) (by simp [AV.under,AV.under1])
 ·rw [List.drop_of_length_le hge] at h2
  exact zg (by rw [← h2]; rfl)
theorem fewG_ok {g:List Nd} (h:fewG g=true):g.length≤20∧(∀ n∈g,OkN n∧Wd 1000000000 n.op.t∧n.ins.length≤8):=by
 simp only [fewG,Bool.and_eq_true,decide_eq_true_eq,List.all_eq_true,fewN] at h
 refine ⟨h.1,fun n hn=>?_⟩
 obtain ⟨_,_,h3,h4⟩:=h.2 n hn
 obtain ⟨k1,k2,k3,k4⟩:=zCT h4
 exact ⟨⟨fun e he=>⟨(k3 e he).1,by have:=(k3 e he).2; omega⟩,⟨k2.1,by omega⟩,by omega,by omega⟩,k1,h3⟩
theorem zFX (g:List Nd) (h:∀ n∈g,OkN n∧Wd 1000000000 n.op.t∧n.ins.length≤8) (hl:g.length≤1000):Abs.Fn Tryz.prog zjD [] [.p (.slice (g.map encN))] (.p (.slice (g.map encN))) []:=by
 apply zur
 simp [zl6]
 refine zA (σ:=Nat) (n:=1) (fun i=>[.own 0 ((g.take i).map encN),.p (.int .i64 i)]) (fun i=>[.row i 21]) (fun i=>i≤g.length) (fun i=>g.length - i) [.slot 0 21] 0 (fun _=>rfl) ⟨rfl,rfl⟩ (by simp) (fun i B hi hB=>?_)
 simp [zmL]
 intro _
 refine ⟨fun hlt=>?_,fun hge=>?_⟩
 ·obtain ⟨k1,k2,_⟩:=h g[i] (List.getElem_mem hlt)
  have h7:=zFW k2 k1.key.1 (fun e he=>(k1.es e he).1) k1.len
  have hs:=zag (l:=g.map encN) (i:=i) (by simpa using hlt)
  simp only [List.getElem_map,zsJ] at hs
  simp only [zgb] at h7
  simp [hlt]
  refine zF rfl h7 rfl ?_
  simp [hlt]
  refine ⟨by omega,⟨fun e he=>?_,by simp,by simp; omega⟩, ?_⟩
  ·obtain ⟨x,_,rfl⟩:=List.mem_map.1 (List.mem_of_mem_take he); rfl
  rw [IntWalk.i64_in _ (by omega),hs,← List.map_take]
  exact hB (i + 1) _ (by omega) (by omega) (by simp) (by simp [Ob.below,AV.under1]) (by simp) (by simp [AV.under,AV.under1])
 ·rw [List.take_of_length_le (by simp; omega)]
  exact zj (by simp [AV.pur])
theorem zC7 (g:List Nd):Abs.Fn Tryz.prog zhD [] [.p (.slice (g.map encN))] (.p (.bool (fewG g && decide ((zlK g).2=0)))) []:=by
 have hf:=zED g
 apply zsi
 simp [zjC]
 refine zo rfl rfl hf ?_
 simp
 refine ⟨fun h=>zg (by rw [h]; rfl),fun h=>?_⟩
 obtain ⟨h1,h2⟩:=fewG_ok h
 refine zo rfl rfl (zFX g h2 (by omega)) ?_
 simp
 refine zo rfl rfl (zzS g (fun n hn=>(h2 n hn).1)) ?_
 simp
 exact zg (by rw [h]; rfl)
end Go.Proofs.YtdmgbhamigegfaaGreatDoor
end
