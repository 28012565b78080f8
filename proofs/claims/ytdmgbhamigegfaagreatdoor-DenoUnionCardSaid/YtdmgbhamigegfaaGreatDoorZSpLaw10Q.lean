/- deno's Front over trees. -/
import Derived.Test.YtdmgbhamigegfaaGreatDoorZSpApplyD
import Derived.Test.YtdmgbhamigegfaaGreatDoorZSpCame
import Derived.Test.YtdmgbhamigegfaaGreatDoorZSpWithinQ
import Derived.Test.YtdmgbhamigegfaaGreatDoorZSpOpO
import Derived.Test.YtdmgbhamigegfaaGreatDoorZSpCheckDQ
import Derived.Test.YtdmgbhamigegfaaGreatDoorZSpOutDQ
import Derived.Test.YtdmgbhamigegfaaGreatDoorZSpGrowsQ
import Derived.Test.YtdmgbhamigegfaaGreatDoorS2

section
/- deno's Front over trees. -/
set_option linter.unusedSimpArgs false
set_option linter.unusedVariables false
namespace Go.Proofs.YtdmgbhamigegfaaGreatDoor
open Go Go.Abs
attribute [local irreducible] Abs.Fn
abbrev rowsF (s:FrD) (n:Nd):List Va:=n.ins.flatMap fun j=>s.outs.getD j.toNat []
structure NodeOk (ins:List InD) (ends:List (List Int)) (s:FrD) (n:Nd):Prop where
 from_:∀ j∈n.ins,0≤j∧j.toNat < s.outs.length
 few:∀ k,((n.ins.take k).flatMap fun j=>s.outs.getD j.toNat []).length≤10000
 bad:s.bad.length≤100000
 src:n.op.k=1→0 < n.mx∧s.srcs < ins.length∧s.srcs < ends.length∧(ins.getD s.srcs ⟨[],[]⟩).rows.length≤10000∧(ends.getD s.srcs []).length≤1000
 key:zas n.op.k=true→KeyOk n.op (rowsF s n)
 app:n.op.k≠1→zas n.op.k=false→ApplyOk n.op (rowsF s n)
abbrev zC5 (g:List Nd) (last:Bool) (s:FrD):List Ob :=
 [.box [.full [],.full []],.box [.p (.slice (g.map encN)),.own 2 (s.outs.map encL),.own 3 (s.bad.map encW),.p (.bool last)],.row s.outs.length 1,.row s.bad.length 6,.row s.sinks.length 1]
def zzm (g:List Nd) (last:Bool) (k:Nat) (n:Nd):Prop:=∀ (outs:List T) (no:Nat) (bads:List (Int×Va)) (rows:List Va) (out bad:List Va),KeyOk n.op rows→bads.length≤100000→zzW n.op last rows=some (out,bad) →
 Abs.Fn Tryz.prog zkA (frH g outs no bads last) [.bptr 0 0,.p (.int .i64 k),.p (.slice (rows.map encV))] (.p (.slice (out.map encV))) (frH g outs no (bads++bad.map fun x=>((k:Int),x)) last)
set_option maxRecDepth 100000 in
theorem zvC (g:List Nd) (ins:List InD) (ends:List (List Int)) (last:Bool) (hg:g.length≤1000)
  (hK:∀ k (hk:k < g.length),zas g[k].op.k=true→zzm g last k g[k])
  (hok:∀ k s (hk:k < g.length),zav last ins ends ⟨0,[],[],[]⟩ (g.take k)=some s→NodeOk ins ends s g[k]) {sf:FrD} (h:zav last ins ends ⟨0,[],[],[]⟩ g=some sf) (hfl:∀ l∈sf.sinks,l.length≤1000000) (hfb:sf.bad.length≤1000000) :
  Abs.Fn Tryz.prog zfq [] [.p (.slice (g.map encN)),.p (.slice (ins.map encI)),.p (.slice (ends.map fun l=>.slice (isT l))),.p (.bool last)] (.p (encD (sortD ⟨sf.sinks,sf.bad⟩))) []:=by
 apply zyl
 simp [zrR]
 refine zo rfl rfl (zvD g 1 (by omega)) ?_
 simp
 intro hml
 refine zA (σ:=Nat×FrD) (n:=5) (fun s=>[.own 4 (s.2.sinks.map encL),.p (.int .i64 s.1)]) (fun s=>zC5 g last s.2) (fun s=>s.1≤g.length∧zav last ins ends ⟨0,[],[],[]⟩ (g.take s.1)=some s.2) (fun s=>g.length - s.1) [.cell 1 1 1,.cell 1 2 6,.slot 0 1] (0,⟨0,[],[],[]⟩) (fun _=>rfl) ?_ (by simp [zav]) (fun s B hs hB=>?_)
 ·simp [zbo,ghost]
 obtain ⟨k,s⟩:=s
 obtain ⟨h1,h2⟩:=hs
 simp only at h1 h2 hB
 simp [zrb]
 refine ⟨fun hlt=>?_,fun hge=>?_⟩
 ·have hno:=hok k s hlt h2
  obtain ⟨s2,hst,hnx⟩:=zBZ last ins ends h hlt h2
  have hidx:=zzU g 0 k 0 hlt
  simp only [Nat.zero_add] at hidx
  have hnum:=zqa last ins ends _ _ _ h2
  simp only [List.length_nil,Nat.zero_add,List.length_take,Nat.min_eq_left h1] at hnum
  obtain ⟨hsrc,houts,hsinks⟩:=hnum
  rw [← hsrc] at hidx
  have hgk:g[k]? = some g[k]:=List.getElem?_eq_getElem hlt
  simp [hlt]
  obtain ⟨nd,hnd⟩:∃ nd,g[k]=nd:=⟨_,rfl⟩
  have hkeyed:=hK k hlt
  have happly:=zAR g k hlt (s.outs.map encL) s.outs.length s.bad last
  have hcame:=zEt g k hlt
  simp only [hnd] at hst hidx hno hgk hkeyed happly hcame ⊢
  obtain ⟨R,hR⟩:∃ R:Nat→List Va,∀ j,R j=(nd.ins.take j).flatMap fun j=>s.outs.getD j.toNat []:=⟨_,fun _=>rfl⟩
  have hR0:R 0=[]:=by rw [hR]; rfl
  have hRs:∀ j (h:j < nd.ins.length),R (j + 1)=R j++s.outs.getD nd.ins[j].toNat []:=fun j h=>by rw [hR,hR,List.take_succ_eq_append_getElem h]; simp only [List.flatMap_append,List.flatMap_cons,List.flatMap_nil,List.append_nil]
  have hRn:R nd.ins.length=rowsF s nd:=by rw [hR,List.take_length]
  have hRl:∀ j,(R j).length≤10000:=fun j=>by rw [hR]; exact hno.few j
  clear hR
  intro hml2
  -- behind a node
  have fin:∀ (out bad:List Va) (rl:Nat) (K:AV→List Ob→Prop),nodeD last ins ends s.srcs s.outs nd=some (out,bad)→zf8 (.bptr 1 0) (.own 4 (s.sinks.map encL)) (.bptr 5 0) (.p (.slice (out.map encV))) (.p (.int .i64 k))
    [.box [.full [],.full []],.box [.p (.slice (g.map encN)),.own 2 (s.outs.map encL),.own 3 (s.bad.map encW++bad.map (encW∘fun x=>((k:Int),x))),.p (.bool last)],.row s.outs.length 1,.row (s.bad.length + bad.length) 6,.row s.sinks.length 1,.box ((AV.p (encN nd)).cells),.row rl 5] B K:=by
   intro out bad rl K hN
   have hs2:s2=⟨if nd.op.k=1 then s.srcs + 1 else s.srcs,s.outs++[out],s.bad++bad.map (fun x=>((s.outs.length:Int),x)),if nd.op.k=9 then s.sinks++[out] else s.sinks⟩:=by
    unfold stepD at hst
    rw [hN] at hst
    exact (Option.some.inj hst).symm
   rw [houts] at hs2
   have fin2:∀ (es:List T) (H2:List Ob),es=s2.sinks.map encL→H2.take 5=zC5 g last s2→5≤H2.length→B [.own 4 es,.p (.int .i64 ((k:Int) + 1))] H2:=by
    intro es H2 e1 e2 e3
    subst e1
    refine hB (k + 1,s2) _ ⟨by simp only; omega,hnx⟩ (by simp only; omega) e2 ?_ e3 (by simp [AV.under,AV.under1])
    rw [e2]
    simp [Ob.below,AV.under1]
   have hL:∀ l:List (List Va),l.length≤1001→zbv 1 24 (l.map encL) [T.slice (out.map encV)]:=fun l hl=>⟨fun e he=>by obtain ⟨y,_,rfl⟩:=List.mem_map.1 he; simp,by simp [T.cells],by simp; omega⟩
   simp [zf8]
   refine ⟨hL _ (by omega),fun h9=>⟨hL _ (by omega), ?_⟩,fun h9=>?_⟩
   ·rw [IntWalk.i64_in _ (by omega)]
    refine fin2 _ _ ?_ ?_ (by simp)
    ·rw [hs2]; simp [h9,encL]
    ·rw [hs2]; simp [h9,encL]
   ·rw [IntWalk.i64_in _ (by omega)]
    refine fin2 _ _ ?_ ?_ (by simp)
    ·rw [hs2]; simp [h9,encL]
    ·rw [hs2]; simp [h9,encL]
  refine zA (σ:=Nat) (n:=7) (fun j=>[.own 6 ((R j).map encV),.p (.int .i64 j)]) (fun j=>zC5 g last s++[.box ((AV.p (encN nd)).cells),.row (R j).length 5]) (fun j=>j≤nd.ins.length) (fun j=>nd.ins.length - j) [.slot 0 5] 0 (fun _=>rfl) ?_ (by simp) (fun j B2 hj hB2=>?_)
  ·simp [zbo,ghost,hR0]
  simp [zrc]
  refine ⟨fun hlt2=>?_,fun hge2=>?_⟩
  ·have hij:nd.ins[j]? = some nd.ins[j]:=List.getElem?_eq_getElem hlt2
   obtain ⟨p0,p1⟩:=hno.from_ _ (List.getElem_mem hlt2)
   have hrs:=hRs j hlt2
   obtain ⟨m,hm⟩:∃ m:Nat,nd.ins[j]=m:=⟨nd.ins[j].toNat,by omega⟩
   rw [hm] at p0 p1 hrs
   simp only [Int.toNat_natCast] at p1 hrs
   have hom:s.outs[m]? = some s.outs[m]:=List.getElem?_eq_getElem p1
   rw [List.getD_eq_getElem?_getD,hom,Option.getD_some] at hrs
   simp [hm,hlt2,p1,encL]
   have hl2:=hRl (j + 1)
   rw [hrs] at hl2
   simp only [List.length_append] at hl2
   refine ⟨⟨fun e he=>by obtain ⟨y,_,rfl⟩:=List.mem_map.1 he; simp,fun e he=>by obtain ⟨y,_,rfl⟩:=List.mem_map.1 he; simp,by simp; omega⟩, ?_⟩
   have hj1:nd.ins.length≤maxLen:=hml2
   rw [IntWalk.i64_in _ (by unfold maxLen at hj1; omega)]
   have e1:(R j).map encV++s.outs[m].map encV=(R (j + 1)).map encV:=by rw [hrs,List.map_append]
   rw [e1]
   refine hB2 (j + 1) _ (by omega) (by omega) ?_ ?_ (by simp) (by simp [AV.under,AV.under1])
   ·simp [hrs,encL]
   ·simp [Ob.below,AV.under1]
  ·obtain rfl:j=nd.ins.length:=by omega
   rw [hRn]
   have hkk:=hno.key
   have hka:=hno.app
   have hkb:=hno.bad
   have hNk:nd.op.k≠1→zas nd.op.k=true→nodeD last ins ends s.srcs s.outs nd=zzW nd.op last (rowsF s nd):=fun h1 h2=>by
    unfold nodeD
    rw [if_neg h1,if_pos (by simpa [zas] using h2)]
   have hNa:nd.op.k≠1→zas nd.op.k=false→nodeD last ins ends s.srcs s.outs nd=zcC nd.op (rowsF s nd):=fun h1 h2=>by
    unfold nodeD
    rw [if_neg h1,if_neg (by simpa [zas] using h2)]
   generalize rowsF s nd=rr at *
   have hNs:∃ out bad,nodeD last ins ends s.srcs s.outs nd=some (out,bad):=by
    unfold stepD at hst
    cases hq:nodeD last ins ends s.srcs s.outs nd with
    | none=>rw [hq] at hst; simp at hst
    | some p=>exact ⟨p.1,p.2,rfl⟩
   refine zo rfl rfl (zuV _ _) ?_
   rw [hidx]
   by_cases hk1:nd.op.k=1
   ·obtain ⟨q1,q2,q3,q4,q5⟩:=hno.src hk1
    have hN:nodeD last ins ends s.srcs s.outs nd=some (cameD nd.mx.toNat (ends.getD s.srcs []) 0 (ins.getD s.srcs ⟨[],[]⟩).rows,[]):=by
     unfold nodeD; rw [if_pos hk1]
    have hin:ins[s.srcs]? = some ins[s.srcs]:=List.getElem?_eq_getElem q2
    have hen:ends[s.srcs]? = some ends[s.srcs]:=List.getElem?_eq_getElem q3
    simp only [List.getD_eq_getElem?_getD,hin,hen,Option.getD_some] at q4 q5 hN
    simp only [if_pos hk1]
    simp [q2,q3,encI]
    refine zF rfl (hcame ins[s.srcs].rows ends[s.srcs] q1 q4 q5) rfl ?_
    have:=fin _ _ rr.length (fun v H'=>Gives 0 v H' (.p (encD (sortD ⟨sf.sinks,sf.bad⟩))) []) hN
    simpa using this
   ·simp only [if_neg hk1]
    simp
    obtain ⟨out,bad,hN⟩:=hNs
    refine zmg [] (zBv nd.op) rfl (by simp [treeQ,AV.toT,toTs]) (by simp) (by simp [zcG]) (by simp [AV.under,AV.under1]) (by simp) ?_
    simp [zfH,renF,zcK]
    have hfin:=fin _ _ rr.length (fun v H'=>Gives 0 v H' (.p (encD (sortD ⟨sf.sinks,sf.bad⟩))) []) hN
    refine ⟨fun hky=>?_,fun hky=>?_⟩
    ·have hcall:=hkeyed hky (s.outs.map encL) s.outs.length s.bad rr out bad (hkk hky) hkb ((hNk hk1 hky).symm.trans hN)
     refine zmg [1,2,3] hcall rfl (by simp [renF,treeQ,AV.toT]) (by simp) (by simp [zcG,renF]) (by simp [AV.under,AV.under1]) (by simp [Ob.below,AV.under1]) ?_
     simp [zfH,renF,zcK]
     simpa using hfin
    ·have hcall:=happly rr (hka hk1 hky) hkb ((hNa hk1 hky).symm.trans hN)
     refine zmg [1,2,3] hcall rfl (by simp [renF,treeQ,AV.toT]) (by simp) (by simp [zcG,renF]) (by simp [AV.under,AV.under1]) (by simp [Ob.below,AV.under1]) ?_
     simp [zfH,renF,zcK]
     simpa using hfin
 ·obtain rfl:k=g.length:=by omega
  rw [List.take_length,h] at h2
  obtain rfl:=Option.some.inj h2
  have hnum:=zqa last ins ends _ _ _ h
  simp only [List.length_nil,Nat.zero_add] at hnum
  have hso:=zAK ⟨sf.sinks,sf.bad⟩ (by simp only; omega) hfl hfb
  simp only [encD] at hso
  refine zmg [] hso rfl (by simp [treeQ,AV.toT,toTs]) (by simp) (by simp [zcG]) (by simp [AV.under,AV.under1]) (by simp) ?_
  simp [zfH,renF,zcK]
  exact zj (by simp [AV.pur,toTs,encD])
end Go.Proofs.YtdmgbhamigegfaaGreatDoor
end

section
/- A source, an operator, a sink: what deno makes of them. -/
set_option linter.unusedSimpArgs false
set_option linter.unusedVariables false
namespace Go.Proofs.YtdmgbhamigegfaaGreatDoor
open Go Go.Abs
attribute [local irreducible] Abs.Fn
def nodeO (o:Opr) (last:Bool) (l:List Va):Option (List Va×List Va):=if o.k=5∨o.k=6∨o.k=7 then zzW o last l else zcC o l
theorem zm1 {o:Opr} (h2:o.k≠2) (h3:o.k≠3) (h4:o.k≠4):∀ l:List Va,zcC o l=some (l,[])
 | []=>rfl
 | x::r=>by
  have e:zeM o x=some (.ok [x]):=by unfold zeM; rw [if_neg (by omega),if_neg h3]
  simp only [zcC,e,zm1 h2 h3 h4 r]
  rfl
structure Line (a b c:Nd):Prop where
 a1:a.op.k=1
 ai:a.ins=[]
 am:0 < a.mx
 bi:b.ins=[0]
 b1:b.op.k≠1
 b9:b.op.k≠9
 c9:c.op.k=9
 ci:c.ins=[1]
 ce:c.op.es=[]
theorem zFO {a b c:Nd} (L:Line a b c) (last:Bool) (x:InD) (e:List Int):zav last [x] [e] ⟨0,[],[],[]⟩ [a]=some ⟨1,[cameD a.mx.toNat e 0 x.rows],[],[]⟩:=by
 simp [zav,stepD,nodeD,L.a1]
theorem zFP {a b c:Nd} (L:Line a b c) (last:Bool) (x:InD) (e:List Int) {out bad:List Va} (h:nodeO b.op last (cameD a.mx.toNat e 0 x.rows)=some (out,bad)) :
  zav last [x] [e] ⟨0,[],[],[]⟩ [a,b]=some ⟨1,[cameD a.mx.toNat e 0 x.rows,out],bad.map fun y=>(1,y),[]⟩:=by
 have h1:zav last [x] [e] ⟨0,[],[],[]⟩ ([a]++[b])=_:=zfk last [x] [e] [a] [b] _
 rw [zFO L] at h1
 rw [show [a,b]=[a]++[b] from rfl,h1]
 have hn:nodeD last [x] [e] 1 [cameD a.mx.toNat e 0 x.rows] b=some (out,bad):=by
  unfold nodeD
  rw [if_neg L.b1,L.bi]
  simpa [nodeO] using h
 simp only [zav,stepD,hn]
 simp [L.b1,L.b9]
theorem line_3 {a b c:Nd} (L:Line a b c) (last:Bool) (x:InD) (e:List Int) {out bad:List Va} (h:nodeO b.op last (cameD a.mx.toNat e 0 x.rows)=some (out,bad)) :
  zav last [x] [e] ⟨0,[],[],[]⟩ [a,b,c]=some ⟨1,[cameD a.mx.toNat e 0 x.rows,out,out],bad.map fun y=>(1,y),[out]⟩:=by
 have h1:zav last [x] [e] ⟨0,[],[],[]⟩ ([a,b]++[c])=_:=zfk last [x] [e] [a,b] [c] _
 rw [zFP L last x e h] at h1
 rw [show [a,b,c]=[a,b]++[c] from rfl,h1]
 have hn:nodeD last [x] [e] 1 [cameD a.mx.toNat e 0 x.rows,out] c=some (out,[]):=by
  unfold nodeD
  rw [if_neg (by rw [L.c9]; decide),if_neg (by rw [L.c9]; decide),L.ci]
  simp [zm1 (o:=c.op) (by rw [L.c9]; decide) (by rw [L.c9]; decide) (by rw [L.c9]; decide)]
 simp only [zav,stepD,hn]
 simp [L.c9]
theorem zxl {a b c:Nd} (L:Line a b c) (last:Bool) (hK:zas b.op.k=true→zzm [a,b,c] last 1 b) (x:InD) (e:List Int) {out bad:List Va} (h:nodeO b.op last (cameD a.mx.toNat e 0 x.rows)=some (out,bad)) (hx:x.rows.length≤1000) (he:e.length≤1000)
  (hk:zas b.op.k=true→KeyOk b.op (cameD a.mx.toNat e 0 x.rows)) (ha:zas b.op.k=false→ApplyOk b.op (cameD a.mx.toNat e 0 x.rows)) (ho:out.length≤10000) (hb:bad.length≤100000) (hw:∀ y∈out,Wv 1000000000 y) :
  Abs.Fn Tryz.prog zfq [] [.p (.slice ([a,b,c].map encN)),.p (.slice ([x].map encI)),.p (.slice ([e].map fun l=>.slice (isT l))),.p (.bool last)] (.p (encD (sortD ⟨[out],bad.map fun y=>(1,y)⟩))) []:=by
 have hcl:=ztH a.mx.toNat e x.rows 0
 refine zvC [a,b,c] [x] [e] last (by simp) (fun k hk3 h=>?_) (fun k s hk3 hs=>?_) (line_3 L last x e h) (by simp; omega) (by simp; omega)
 ·have:k=0∨k=1∨k=2:=by simp at hk3; omega
  rcases this with rfl | rfl | rfl
  ·simp [zas,L.a1] at h
  ·exact hK h
  ·simp [zas,L.c9] at h
 have:k=0∨k=1∨k=2:=by simp at hk3; omega
 rcases this with rfl | rfl | rfl
 ·simp only [List.take_zero,zav,Option.some.injEq] at hs
  subst hs
  refine ⟨by simp [L.ai],by simp [L.ai],by simp,fun _=>⟨by simpa using L.am,by simp,by simp,by simp; omega,by simp; omega⟩,fun h=>?_,fun h=>absurd L.a1 h⟩
  simp [zas,L.a1] at h
 ·rw [show [a,b,c].take 1=[a] from rfl,zFO L] at hs
  simp only [Option.some.injEq] at hs
  subst hs
  have hr:rowsF ⟨1,[cameD a.mx.toNat e 0 x.rows],[],[]⟩ b=cameD a.mx.toNat e 0 x.rows:=by simp [rowsF,L.bi]
  refine ⟨by simp [L.bi],fun k=>?_,by simp,fun h=>absurd h (by simpa using L.b1),fun h=>?_,fun _ h=>?_⟩
  ·simp only [List.getElem_cons_succ,List.getElem_cons_zero,L.bi]
   cases k <;> simp; omega
  ·simp only [List.getElem_cons_succ,List.getElem_cons_zero] at h ⊢
   rw [hr]; exact hk h
  ·simp only [List.getElem_cons_succ,List.getElem_cons_zero] at h ⊢
   rw [hr]; exact ha h
 ·rw [show [a,b,c].take 2=[a,b] from rfl,zFP L last x e h] at hs
  simp only [Option.some.injEq] at hs
  subst hs
  have hr:rowsF ⟨1,[cameD a.mx.toNat e 0 x.rows,out],bad.map fun y=>(1,y),[]⟩ c=out:=by simp [rowsF,L.ci]
  refine ⟨by simp [L.ci],fun k=>?_,by simpa using hb,fun h=>?_,fun h=>?_,fun _ _=>?_⟩
  ·simp only [List.getElem_cons_succ,List.getElem_cons_zero,L.ci]
   cases k <;> simp; omega
  ·simp [L.c9] at h
  ·simp [zas,L.c9] at h
  ·simp only [List.getElem_cons_succ,List.getElem_cons_zero]
   rw [hr]
   exact ⟨ho,by simp [L.ce],hw,by simp [L.ce],fun h=>by rw [L.c9] at h; simp at h⟩
theorem zvY (mx:Nat) (h0:0 < mx) (h1:mx≤16) (l:List Va) (hl:l.length≤1000):cameD mx (List.replicate 16 1000) 0 l=l:=by
 refine zyV mx h0 _ l 0 fun r hr=>?_
 have h2:=Nat.mod_lt r h0
 have h3:=Nat.div_le_self r mx
 unfold zkz
 rw [Bool.and_eq_true,decide_eq_true_eq,decide_eq_true_eq]
 refine ⟨by simp; omega, ?_⟩
 rw [List.getD_eq_getElem?_getD,List.getElem?_replicate,if_pos (by omega)]
 simp; omega
theorem zDd {a b c:Nd} (L:Line a b c) (hK:zas b.op.k=true→zzm [a,b,c] true 1 b) (x:InD) (hm:a.mx≤16) {out bad:List Va} (h:nodeO b.op true x.rows=some (out,bad)) (hx:x.rows.length≤1000)
  (hk:zas b.op.k=true→KeyOk b.op x.rows) (ha:zas b.op.k=false→ApplyOk b.op x.rows) (ho:out.length≤10000) (hb:bad.length≤100000) (hw:∀ y∈out,Wv 1000000000 y) :
  Abs.Fn Tryz.prog zfr [] [.p (.slice ([a,b,c].map encN)),.p (.slice ([x].map encI))] (.p (encD (sortD ⟨[out],bad.map fun y=>(1,y)⟩))) []:=by
 have am:=L.am
 have hc:=zvY a.mx.toNat (by omega) (by omega) x.rows hx
 refine zvH (n:=1) rfl (by simp) (by omega) ?_
 have:=zxl L true hK x (List.replicate 16 1000) (out:=out) (bad:=bad) (by rw [hc]; exact h) hx (by simp) (by rw [hc]; exact hk) (by rw [hc]; exact ha) ho hb hw
 exact this
end Go.Proofs.YtdmgbhamigegfaaGreatDoor
end

section
/- The laws' helpers: a job of numbers, rows of numbers, known. -/
set_option linter.unusedSimpArgs false
set_option linter.unusedVariables false
namespace Go.Proofs.YtdmgbhamigegfaaGreatDoor
open Go Go.Abs
attribute [local irreducible] Abs.Fn
def inN (l:List Int):InD:=⟨[115],l.map intV⟩
theorem zDw (l:List Int) (hl:l.length≤1000) (h8:∀ x∈l,-128≤x∧x≤127):Abs.Fn Tryz.prog zgJ [] [.p (.slice (l.map (.int .i8)))] (.p (.slice ([inN l].map encI))) []:=by
 apply zqN
 simp [zis]
 refine zA (σ:=Nat) (n:=2) (fun j=>[.p (.int .i64 j)]) (fun j=>[.box [.p (.str [115]),.own 1 ((l.take j).map fun x=>encV (intV x))],.row (l.take j).length 5]) (fun j=>j≤l.length) (fun j=>l.length - j) [.cell 0 1 5] 0 (fun _=>rfl) ?_ (by simp) (fun j B hj hB=>?_)
 ·simp [zbo,ghost]
 simp [zjQ]
 intro hml
 refine ⟨fun hlt=>?_,fun hge=>?_⟩
 ·have hx:=h8 _ (List.getElem_mem hlt)
  simp [hlt]
  rw [IntWalk.i64_in _ (by omega)]
  refine zF rfl (za3 _) rfl ?_
  simp [intV,hlt]
  refine ⟨⟨fun e he=>?_,by simp [T.cells],by simp; omega⟩, ?_⟩
  ·obtain ⟨y,_,rfl⟩:=List.mem_map.1 (List.mem_of_mem_take he); rfl
  rw [IntWalk.i64_in _ (by omega)]
  refine hB (j + 1) _ (by omega) (by omega) ?_ (by simp [Ob.below,AV.under1]) (by simp) (by simp [AV.under,AV.under1])
  simp [intV]
  refine ⟨?_,by omega⟩
  rw [← List.map_take,← List.map_take,List.take_succ_eq_append_getElem hlt]
  simp only [List.map_append,List.map_cons,List.map_nil]
 ·rw [List.take_of_length_le (by simpa using hge)]
  exact zj (by simp [AV.pur,toTs,inN,encI,intV])
def inK:InD:=inN [5,3]
theorem zxm:Line (srcG 2 4) mapG (sinkG 1 2 4):=⟨rfl,rfl,by simp,rfl,by simp,by simp,rfl,rfl,rfl⟩
theorem zzY:Abs.Fn Tryz.prog zfW [] [] (.p (.bool true)) []:=by
 have hlen1:(inK).rows.length=2:=rfl
 have hrows:∀ x∈inK.rows,Wv 1000000000 x:=fun x hx=>by
  simp only [inK,inN,List.map_cons,List.map_nil,List.mem_cons,List.not_mem_nil,or_false] at hx
  rcases hx with rfl | rfl <;> exact zme _
 have hap:∀ l:List Va,l.length≤10→(∀ x∈l,Wv 1000000000 x)→ApplyOk mapG.op l:=fun l h1 h2=>⟨by omega,fun e he=>by
  simp only [List.mem_cons,List.not_mem_nil,or_false] at he
  subst he
  exact we_2 we_x (we_l (zme _)),h2,by simp,by simp⟩
 have n1:nodeO mapG.op true inK.rows=some ([intV 6,intV 4],[]):=by rfl
 have hW:=zDd zxm (by simp [zas]) inK (by simp) n1 (by simp [hlen1]) (by simp [zas]) (fun _=>hap _ (by simp [hlen1]) hrows) (by simp) (by simp) (fun y hy=>by
  simp only [List.mem_cons,List.not_mem_nil,or_false] at hy
  rcases hy with rfl | rfl <;> exact zme _)
 have n2:nodeO mapG.op false (cameD (srcG 2 4).mx.toNat [1,0,0,0] 0 inK.rows)=some ([intV 6],[]):=by rfl
 have hc2:cameD (srcG 2 4).mx.toNat [1,0,0,0] 0 inK.rows=[intV 5]:=by rfl
 have hF:=zxl zxm false (by simp [zas]) inK [1,0,0,0] n2 (by simp [hlen1]) (by simp) (by simp [zas]) (fun _=>by rw [hc2]; exact hap _ (by simp) (fun x hx=>by simp at hx; subst hx; exact zme _)) (by simp) (by simp) (fun y hy=>by
  simp only [List.mem_cons,List.not_mem_nil,or_false] at hy
  subst hy; exact zme _)
 have s1:sortD ⟨[[intV 6,intV 4]],([]:List Va).map fun y=>((1:Int),y)⟩=⟨[[intV 4,intV 6]],[]⟩:=by rfl
 have s2:sortD ⟨[[intV 6]],([]:List Va).map fun y=>((1:Int),y)⟩=⟨[[intV 6]],[]⟩:=by rfl
 rw [s1] at hW
 rw [s2] at hF
 have hC1:=zuD zfj zy9 (by simp [zfj]) [inK] (by simp) (by simp [hlen1]) (by simpa using hrows)
 have hC2:=zuD zfj zy9 (by simp [zfj]) [] (by simp) (by simp) (by simp)
 have e1:zv0 zfj [inK]=0:=by rfl
 have e2:zv0 zfj []=6:=by rfl
 rw [e1] at hC1
 rw [e2] at hC2
 have hWi1:=zuG ⟨[[intV 6]],[]⟩ ⟨[[intV 4,intV 6]],[]⟩ (by simp) (by simp) (by simp) (by simp) (by simp) (by simp)
 have hWi2:=zuG ⟨[[intV 4,intV 6]],[]⟩ ⟨[[intV 6]],[]⟩ (by simp) (by simp) (by simp) (by simp) (by simp) (by simp)
 have hS1:=zvA ⟨[[intV 4,intV 6]],[]⟩ ⟨[[intV 4,intV 6]],[]⟩
 have hS2:=zvA ⟨[[intV 4,intV 6]],[]⟩ ⟨[[intV 6]],[]⟩
 have f1:ztA ⟨[[intV 6]],[]⟩ ⟨[[intV 4,intV 6]],[]⟩=true:=by rfl
 have f2:ztA ⟨[[intV 4,intV 6]],[]⟩ ⟨[[intV 6]],[]⟩=false:=by rfl
 have f3:sameD ⟨[[intV 4,intV 6]],[]⟩ ⟨[[intV 4,intV 6]],[]⟩=true:=by simp [sameD]
 have f4:sameD ⟨[[intV 4,intV 6]],[]⟩ ⟨[[intV 6]],[]⟩=false:=by rfl
 rw [f1] at hWi1
 rw [f2] at hWi2
 rw [f3] at hS1
 rw [f4] at hS2
 have hSp:=zvG zfj 0 (by simp [zfj]) 5 (by simp [zfj])
 have hSm:=zCp
 rw [show (5:Int).tmod (zfj[0]'(by simp [zfj])).mx=1 from rfl] at hSp
 rw [show [srcG 2 4,mapG,sinkG 1 2 4]=zfj from rfl] at hW hF
 clear hap hrows n1 n2 hc2 s1 s2 e1 e2 f1 f2 f3 f4
 generalize zfj.map encN=gT at *
 simp [inK,inN,encI,intV,encD,encL] at hW hF hC1 hC2 hWi1 hWi2 hS1 hS2 hSp hSm
 apply zpQ
 simp [zhy]
 (first | refine zn rfl ?_ | refine zl rfl ?_)
 (first | refine zx (hSm) ?_ | refine zq (hSm) ?_ | refine zr (hSm) ?_ | refine zd (hSm) rfl ?_ | refine zd (hSm) (by simp [AV.pur]; rfl) ?_)
 try simp
 (first | refine zn rfl ?_ | refine zl rfl ?_)
 (first | refine zx (za3 5) ?_ | refine zq (za3 5) ?_ | refine zr (za3 5) ?_ | refine zd (za3 5) rfl ?_ | refine zd (za3 5) (by simp [AV.pur]; rfl) ?_)
 try simp
 (first | refine zn rfl ?_ | refine zl rfl ?_)
 (first | refine zx (za3 3) ?_ | refine zq (za3 3) ?_ | refine zr (za3 3) ?_ | refine zd (za3 3) rfl ?_ | refine zd (za3 3) (by simp [AV.pur]; rfl) ?_)
 try simp
 (first | refine zn rfl ?_ | refine zl rfl ?_)
 (first | refine zx (hW) ?_ | refine zq (hW) ?_ | refine zr (hW) ?_ | refine zd (hW) rfl ?_ | refine zd (hW) (by simp [AV.pur]; rfl) ?_)
 try simp
 (first | refine zn rfl ?_ | refine zl rfl ?_)
 (first | refine zx (hF) ?_ | refine zq (hF) ?_ | refine zr (hF) ?_ | refine zd (hF) rfl ?_ | refine zd (hF) (by simp [AV.pur]; rfl) ?_)
 try simp
 (first | refine zn rfl ?_ | refine zl rfl ?_)
 (first | refine zx (hC1) ?_ | refine zq (hC1) ?_ | refine zr (hC1) ?_ | refine zd (hC1) rfl ?_ | refine zd (hC1) (by simp [AV.pur]; rfl) ?_)
 try simp
 refine zz true (fun _=>?_) ?_
 ·refine zo rfl rfl hC2 ?_
  simp
 simp
 refine zz true (fun _=>?_) ?_
 ·refine zo rfl rfl hWi1 ?_
  simp
 simp
 refine zz true (fun _=>?_) ?_
 ·refine zo rfl rfl hWi2 ?_
  simp
 simp
 refine zz true (fun _=>?_) ?_
 ·refine zo rfl rfl hS1 ?_
  simp
 simp
 refine zz true (fun _=>?_) ?_
 ·refine zo rfl rfl hS2 ?_
  simp
 simp
 refine zz true (fun _=>?_) ?_
 ·refine zo rfl rfl hSp ?_
  simp
 simp
 exact zg rfl
end Go.Proofs.YtdmgbhamigegfaaGreatDoor
end
