/- deno's Front over trees. -/
import Derived.Test.YtdmgbhamigegfaaGreatDoorZSpApplyD
import Derived.Test.YtdmgbhamigegfaaGreatDoorZSpCame
import Derived.Test.YtdmgbhamigegfaaGreatDoorZSpWithinQ
import Derived.Test.YtdmgbhamigegfaaGreatDoorZSpOpO
import Derived.Test.YtdmgbhamigegfaaGreatDoorZSpCheckDQ
import Derived.Test.YtdmgbhamigegfaaGreatDoorZSpOutDQ
import Derived.Test.YtdmgbhamigegfaaGreatDoorZSpGrowsQ
import Derived.Test.YtdmgbhamigegfaaGreatDoorS2
import Derived.Test.YtdmgbhamigegfaaGreatDoorZSpEvalCQ

section
/- deno's Front over trees. -/
set_option linter.unusedSimpArgs false
set_option linter.unusedVariables false
namespace Go.Proofs.YtdmgbhamigegfaaGreatDoor
open Go Go.Abs
attribute [local irreducible] Abs.Fn
abbrev rowsF (s:FrD) (n:Nd):List Va:=n.ins.flatMap fun j=>s.outs.getD j.toNat []
structure NodeOk (ins:List InD) (ends:List (List Int)) (s:FrD) (n:Nd):Prop where
 from_:∀ j ∈ n.ins,0 ≤ j ∧ j.toNat < s.outs.length
 few:∀ k,((n.ins.take k).flatMap fun j=>s.outs.getD j.toNat []).length ≤ 10000
 bad:s.bad.length ≤ 100000
 src:n.op.k = 1→0 < n.mx ∧ s.srcs < ins.length ∧ s.srcs < ends.length ∧ (ins.getD s.srcs ⟨[],[]⟩).rows.length ≤ 10000 ∧ (ends.getD s.srcs []).length ≤ 1000
 key:keyedO n.op.k = true→KeyOk n.op (rowsF s n)
 app:n.op.k ≠ 1→keyedO n.op.k = false→ApplyOk n.op (rowsF s n)
abbrev frontH (g:List Nd) (last:Bool) (s:FrD):List Ob :=
 [.box [.full [],.full []],.box [.p (.slice (g.map encN)),.own 2 (s.outs.map encL),.own 3 (s.bad.map encW),.p (.bool last)],.row s.outs.length 1,.row s.bad.length 6,.row s.sinks.length 1]
def KeyedAt (g:List Nd) (last:Bool) (k:Nat) (n:Nd):Prop:=∀ (outs:List T) (no:Nat) (bads:List (Int × Va)) (rows:List Va) (out bad:List Va),KeyOk n.op rows→bads.length ≤ 100000→keyedD n.op last rows = some (out,bad) →
 Abs.Fn Tryz.prog deno_front_keyed_i (frH g outs no bads last) [.bptr 0 0,.p (.int .i64 k),.p (.slice (rows.map encV))] (.p (.slice (out.map encV))) (frH g outs no (bads ++ bad.map fun x=>((k:Int),x)) last)
set_option maxRecDepth 100000 in
theorem Front_spec (g:List Nd) (ins:List InD) (ends:List (List Int)) (last:Bool) (hg:g.length ≤ 1000)
  (hK:∀ k (hk:k < g.length),keyedO g[k].op.k = true→KeyedAt g last k g[k])
  (hok:∀ k s (hk:k < g.length),stepsD last ins ends ⟨0,[],[],[]⟩ (g.take k) = some s→NodeOk ins ends s g[k]) {sf:FrD} (h:stepsD last ins ends ⟨0,[],[],[]⟩ g = some sf) (hfl:∀ l ∈ sf.sinks,l.length ≤ 1000000) (hfb:sf.bad.length ≤ 1000000) :
  Abs.Fn Tryz.prog deno_Front_i [] [.p (.slice (g.map encN)),.p (.slice (ins.map encI)),.p (.slice (ends.map fun l=>.slice (isT l))),.p (.bool last)] (.p (encD (sortD ⟨sf.sinks,sf.bad⟩))) []:=by
 apply deno_Front_fn
 simp [deno_Front]
 refine aCallW_of rfl rfl (Named_spec g 1 (by omega)) ?_
 simp
 intro hml
 refine loop_by (σ:=Nat × FrD) (n:=5) (fun s=>[.own 4 (s.2.sinks.map encL),.p (.int .i64 s.1)]) (fun s=>frontH g last s.2) (fun s=>s.1 ≤ g.length ∧ stepsD last ins ends ⟨0,[],[],[]⟩ (g.take s.1) = some s.2) (fun s=>g.length - s.1) [.cell 1 1 1,.cell 1 2 6,.slot 0 1] (0,⟨0,[],[],[]⟩) (fun _=>rfl) ?_ (by simp [stepsD]) (fun s B hs hB=>?_)
 ·simp [ghosts,ghost]
 obtain ⟨k,s⟩:=s
 obtain ⟨h1,h2⟩:=hs
 simp only at h1 h2 hB
 simp [deno_Front_L1]
 refine ⟨fun hlt=>?_,fun hge=>?_⟩
 ·have hno:=hok k s hlt h2
  obtain ⟨s2,hst,hnx⟩:=stepsD_next last ins ends h hlt h2
  have hidx:=idx_src g 0 k 0 hlt
  simp only [Nat.zero_add] at hidx
  have hnum:=stepsD_nums last ins ends _ _ _ h2
  simp only [List.length_nil,Nat.zero_add,List.length_take,Nat.min_eq_left h1] at hnum
  obtain ⟨hsrc,houts,hsinks⟩:=hnum
  rw [← hsrc] at hidx
  have hgk:g[k]? = some g[k]:=List.getElem?_eq_getElem hlt
  simp [hlt]
  obtain ⟨nd,hnd⟩:∃ nd,g[k] = nd:=⟨_,rfl⟩
  have hkeyed:=hK k hlt
  have happly:=applyF_spec g k hlt (s.outs.map encL) s.outs.length s.bad last
  have hcame:=came_spec g k hlt
  simp only [hnd] at hst hidx hno hgk hkeyed happly hcame ⊢
  obtain ⟨R,hR⟩:∃ R:Nat→List Va,∀ j,R j = (nd.ins.take j).flatMap fun j=>s.outs.getD j.toNat []:=⟨_,fun _=>rfl⟩
  have hR0:R 0 = []:=by rw [hR]; rfl
  have hRs:∀ j (h:j < nd.ins.length),R (j + 1) = R j ++ s.outs.getD nd.ins[j].toNat []:=fun j h=>by rw [hR,hR,List.take_succ_eq_append_getElem h]; simp only [List.flatMap_append,List.flatMap_cons,List.flatMap_nil,List.append_nil]
  have hRn:R nd.ins.length = rowsF s nd:=by rw [hR,List.take_length]
  have hRl:∀ j,(R j).length ≤ 10000:=fun j=>by rw [hR]; exact hno.few j
  clear hR
  intro hml2
  -- behind a node
  have fin:∀ (out bad:List Va) (rl:Nat) (K:AV→List Ob→Prop),nodeD last ins ends s.srcs s.outs nd = some (out,bad)→deno_Front_J1 (.bptr 1 0) (.own 4 (s.sinks.map encL)) (.bptr 5 0) (.p (.slice (out.map encV))) (.p (.int .i64 k))
    [.box [.full [],.full []],.box [.p (.slice (g.map encN)),.own 2 (s.outs.map encL),.own 3 (s.bad.map encW ++ bad.map (encW ∘ fun x=>((k:Int),x))),.p (.bool last)],.row s.outs.length 1,.row (s.bad.length + bad.length) 6,.row s.sinks.length 1,.box ((AV.p (encN nd)).cells),.row rl 5] B K:=by
   intro out bad rl K hN
   have hs2:s2 = ⟨if nd.op.k = 1 then s.srcs + 1 else s.srcs,s.outs ++ [out],s.bad ++ bad.map (fun x=>((s.outs.length:Int),x)),if nd.op.k = 9 then s.sinks ++ [out] else s.sinks⟩:=by
    unfold stepD at hst
    rw [hN] at hst
    exact (Option.some.inj hst).symm
   rw [houts] at hs2
   have fin2:∀ (es:List T) (H2:List Ob),es = s2.sinks.map encL→H2.take 5 = frontH g last s2→5 ≤ H2.length→B [.own 4 es,.p (.int .i64 ((k:Int) + 1))] H2:=by
    intro es H2 e1 e2 e3
    subst e1
    refine hB (k + 1,s2) _ ⟨by simp only; omega,hnx⟩ (by simp only; omega) e2 ?_ e3 (by simp [AV.under,AV.under1])
    rw [e2]
    simp [Ob.below,AV.under1]
   have hL:∀ l:List (List Va),l.length ≤ 1001→appendable 1 24 (l.map encL) [T.slice (out.map encV)]:=fun l hl=>⟨fun e he=>by obtain ⟨y,_,rfl⟩:=List.mem_map.1 he; simp,by simp [T.cells],by simp; omega⟩
   simp [deno_Front_J1]
   refine ⟨hL _ (by omega),fun h9=>⟨hL _ (by omega), ?_⟩,fun h9=>?_⟩
   ·rw [IntWalk.i64_in _ (by omega)]
    refine fin2 _ _ ?_ ?_ (by simp)
    ·rw [hs2]; simp [h9,encL]
    ·rw [hs2]; simp [h9,encL]
   ·rw [IntWalk.i64_in _ (by omega)]
    refine fin2 _ _ ?_ ?_ (by simp)
    ·rw [hs2]; simp [h9,encL]
    ·rw [hs2]; simp [h9,encL]
  refine loop_by (σ:=Nat) (n:=7) (fun j=>[.own 6 ((R j).map encV),.p (.int .i64 j)]) (fun j=>frontH g last s ++ [.box ((AV.p (encN nd)).cells),.row (R j).length 5]) (fun j=>j ≤ nd.ins.length) (fun j=>nd.ins.length - j) [.slot 0 5] 0 (fun _=>rfl) ?_ (by simp) (fun j B2 hj hB2=>?_)
  ·simp [ghosts,ghost,hR0]
  simp [deno_Front_L2]
  refine ⟨fun hlt2=>?_,fun hge2=>?_⟩
  ·have hij:nd.ins[j]? = some nd.ins[j]:=List.getElem?_eq_getElem hlt2
   obtain ⟨p0,p1⟩:=hno.from_ _ (List.getElem_mem hlt2)
   have hrs:=hRs j hlt2
   obtain ⟨m,hm⟩:∃ m:Nat,nd.ins[j] = m:=⟨nd.ins[j].toNat,by omega⟩
   rw [hm] at p0 p1 hrs
   simp only [Int.toNat_natCast] at p1 hrs
   have hom:s.outs[m]? = some s.outs[m]:=List.getElem?_eq_getElem p1
   rw [List.getD_eq_getElem?_getD,hom,Option.getD_some] at hrs
   simp [hm,hlt2,p1,encL]
   have hl2:=hRl (j + 1)
   rw [hrs] at hl2
   simp only [List.length_append] at hl2
   refine ⟨⟨fun e he=>by obtain ⟨y,_,rfl⟩:=List.mem_map.1 he; simp,fun e he=>by obtain ⟨y,_,rfl⟩:=List.mem_map.1 he; simp,by simp; omega⟩, ?_⟩
   have hj1:nd.ins.length ≤ maxLen:=hml2
   rw [IntWalk.i64_in _ (by unfold maxLen at hj1; omega)]
   have e1:(R j).map encV ++ s.outs[m].map encV = (R (j + 1)).map encV:=by rw [hrs,List.map_append]
   rw [e1]
   refine hB2 (j + 1) _ (by omega) (by omega) ?_ ?_ (by simp) (by simp [AV.under,AV.under1])
   ·simp [hrs,encL]
   ·simp [Ob.below,AV.under1]
  ·obtain rfl:j = nd.ins.length:=by omega
   rw [hRn]
   have hkk:=hno.key
   have hka:=hno.app
   have hkb:=hno.bad
   have hNk:nd.op.k ≠ 1→keyedO nd.op.k = true→nodeD last ins ends s.srcs s.outs nd = keyedD nd.op last (rowsF s nd):=fun h1 h2=>by
    unfold nodeD
    rw [if_neg h1,if_pos (by simpa [keyedO] using h2)]
   have hNa:nd.op.k ≠ 1→keyedO nd.op.k = false→nodeD last ins ends s.srcs s.outs nd = applyD nd.op (rowsF s nd):=fun h1 h2=>by
    unfold nodeD
    rw [if_neg h1,if_neg (by simpa [keyedO] using h2)]
   generalize rowsF s nd = rr at *
   have hNs:∃ out bad,nodeD last ins ends s.srcs s.outs nd = some (out,bad):=by
    unfold stepD at hst
    cases hq:nodeD last ins ends s.srcs s.outs nd with
    | none=>rw [hq] at hst; simp at hst
    | some p=>exact ⟨p.1,p.2,rfl⟩
   refine aCallW_of rfl rfl (indexI_spec _ _) ?_
   rw [hidx]
   by_cases hk1:nd.op.k = 1
   ·obtain ⟨q1,q2,q3,q4,q5⟩:=hno.src hk1
    have hN:nodeD last ins ends s.srcs s.outs nd = some (cameD nd.mx.toNat (ends.getD s.srcs []) 0 (ins.getD s.srcs ⟨[],[]⟩).rows,[]):=by
     unfold nodeD; rw [if_pos hk1]
    have hin:ins[s.srcs]? = some ins[s.srcs]:=List.getElem?_eq_getElem q2
    have hen:ends[s.srcs]? = some ends[s.srcs]:=List.getElem?_eq_getElem q3
    simp only [List.getD_eq_getElem?_getD,hin,hen,Option.getD_some] at q4 q5 hN
    simp only [if_pos hk1]
    simp [q2,q3,encI]
    refine aCallT_of rfl (hcame ins[s.srcs].rows ends[s.srcs] q1 q4 q5) rfl ?_
    have:=fin _ _ rr.length (fun v H'=>Gives 0 v H' (.p (encD (sortD ⟨sf.sinks,sf.bad⟩))) []) hN
    simpa using this
   ·simp only [if_neg hk1]
    simp
    obtain ⟨out,bad,hN⟩:=hNs
    refine aCallQ_of [] (keyed7_spec nd.op) rfl (by simp [treeQ,AV.toT,toTs]) (by simp) (by simp [framed]) (by simp [AV.under,AV.under1]) (by simp) ?_
    simp [frameH,renF,setAll]
    have hfin:=fin _ _ rr.length (fun v H'=>Gives 0 v H' (.p (encD (sortD ⟨sf.sinks,sf.bad⟩))) []) hN
    refine ⟨fun hky=>?_,fun hky=>?_⟩
    ·have hcall:=hkeyed hky (s.outs.map encL) s.outs.length s.bad rr out bad (hkk hky) hkb ((hNk hk1 hky).symm.trans hN)
     refine aCallQ_of [1,2,3] hcall rfl (by simp [renF,treeQ,AV.toT]) (by simp) (by simp [framed,renF]) (by simp [AV.under,AV.under1]) (by simp [Ob.below,AV.under1]) ?_
     simp [frameH,renF,setAll]
     simpa using hfin
    ·have hcall:=happly rr (hka hk1 hky) hkb ((hNa hk1 hky).symm.trans hN)
     refine aCallQ_of [1,2,3] hcall rfl (by simp [renF,treeQ,AV.toT]) (by simp) (by simp [framed,renF]) (by simp [AV.under,AV.under1]) (by simp [Ob.below,AV.under1]) ?_
     simp [frameH,renF,setAll]
     simpa using hfin
 ·obtain rfl:k = g.length:=by omega
  rw [List.take_length,h] at h2
  obtain rfl:=Option.some.inj h2
  have hnum:=stepsD_nums last ins ends _ _ _ h
  simp only [List.length_nil,Nat.zero_add] at hnum
  have hso:=Sorted_spec ⟨sf.sinks,sf.bad⟩ (by simp only; omega) hfl hfb
  simp only [encD] at hso
  refine aCallQ_of [] hso rfl (by simp [treeQ,AV.toT,toTs]) (by simp) (by simp [framed]) (by simp [AV.under,AV.under1]) (by simp) ?_
  simp [frameH,renF,setAll]
  exact gives_pure (by simp [AV.pur,toTs,encD])
end Go.Proofs.YtdmgbhamigegfaaGreatDoor
end

section
/- A source, an operator, a sink: what deno makes of them. -/
set_option linter.unusedSimpArgs false
set_option linter.unusedVariables false
namespace Go.Proofs.YtdmgbhamigegfaaGreatDoor
open Go Go.Abs
attribute [local irreducible] Abs.Fn
def nodeO (o:Opr) (last:Bool) (l:List Va):Option (List Va × List Va):=if o.k = 5 ∨ o.k = 6 ∨ o.k = 7 then keyedD o last l else applyD o l
theorem applyD_all {o:Opr} (h2:o.k ≠ 2) (h3:o.k ≠ 3) (h4:o.k ≠ 4):∀ l:List Va,applyD o l = some (l,[])
 | []=>rfl
 | x :: r=>by
  have e:applyO o x = some (.ok [x]):=by unfold applyO; rw [if_neg (by omega),if_neg h3]
  simp only [applyD,e,applyD_all h2 h3 h4 r]
  rfl
structure Line (a b c:Nd):Prop where
 a1:a.op.k = 1
 ai:a.ins = []
 am:0 < a.mx
 bi:b.ins = [0]
 b1:b.op.k ≠ 1
 b9:b.op.k ≠ 9
 c9:c.op.k = 9
 ci:c.ins = [1]
 ce:c.op.es = []
theorem line_1 {a b c:Nd} (L:Line a b c) (last:Bool) (x:InD) (e:List Int):stepsD last [x] [e] ⟨0,[],[],[]⟩ [a] = some ⟨1,[cameD a.mx.toNat e 0 x.rows],[],[]⟩:=by
 simp [stepsD,stepD,nodeD,L.a1]
theorem line_2 {a b c:Nd} (L:Line a b c) (last:Bool) (x:InD) (e:List Int) {out bad:List Va} (h:nodeO b.op last (cameD a.mx.toNat e 0 x.rows) = some (out,bad)) :
  stepsD last [x] [e] ⟨0,[],[],[]⟩ [a,b] = some ⟨1,[cameD a.mx.toNat e 0 x.rows,out],bad.map fun y=>(1,y),[]⟩:=by
 have h1:stepsD last [x] [e] ⟨0,[],[],[]⟩ ([a] ++ [b]) = _:=stepsD_app last [x] [e] [a] [b] _
 rw [line_1 L] at h1
 rw [show [a,b] = [a] ++ [b] from rfl,h1]
 have hn:nodeD last [x] [e] 1 [cameD a.mx.toNat e 0 x.rows] b = some (out,bad):=by
  unfold nodeD
  rw [if_neg L.b1,L.bi]
  simpa [nodeO] using h
 simp only [stepsD,stepD,hn]
 simp [L.b1,L.b9]
theorem line_3 {a b c:Nd} (L:Line a b c) (last:Bool) (x:InD) (e:List Int) {out bad:List Va} (h:nodeO b.op last (cameD a.mx.toNat e 0 x.rows) = some (out,bad)) :
  stepsD last [x] [e] ⟨0,[],[],[]⟩ [a,b,c] = some ⟨1,[cameD a.mx.toNat e 0 x.rows,out,out],bad.map fun y=>(1,y),[out]⟩:=by
 have h1:stepsD last [x] [e] ⟨0,[],[],[]⟩ ([a,b] ++ [c]) = _:=stepsD_app last [x] [e] [a,b] [c] _
 rw [line_2 L last x e h] at h1
 rw [show [a,b,c] = [a,b] ++ [c] from rfl,h1]
 have hn:nodeD last [x] [e] 1 [cameD a.mx.toNat e 0 x.rows,out] c = some (out,[]):=by
  unfold nodeD
  rw [if_neg (by rw [L.c9]; decide),if_neg (by rw [L.c9]; decide),L.ci]
  simp [applyD_all (o:=c.op) (by rw [L.c9]; decide) (by rw [L.c9]; decide) (by rw [L.c9]; decide)]
 simp only [stepsD,stepD,hn]
 simp [L.c9]
theorem line_front {a b c:Nd} (L:Line a b c) (last:Bool) (hK:keyedO b.op.k = true→KeyedAt [a,b,c] last 1 b) (x:InD) (e:List Int) {out bad:List Va} (h:nodeO b.op last (cameD a.mx.toNat e 0 x.rows) = some (out,bad)) (hx:x.rows.length ≤ 1000) (he:e.length ≤ 1000)
  (hk:keyedO b.op.k = true→KeyOk b.op (cameD a.mx.toNat e 0 x.rows)) (ha:keyedO b.op.k = false→ApplyOk b.op (cameD a.mx.toNat e 0 x.rows)) (ho:out.length ≤ 10000) (hb:bad.length ≤ 100000) (hw:∀ y ∈ out,Wv 1000000000 y) :
  Abs.Fn Tryz.prog deno_Front_i [] [.p (.slice ([a,b,c].map encN)),.p (.slice ([x].map encI)),.p (.slice ([e].map fun l=>.slice (isT l))),.p (.bool last)] (.p (encD (sortD ⟨[out],bad.map fun y=>(1,y)⟩))) []:=by
 have hcl:=cameD_len a.mx.toNat e x.rows 0
 refine Front_spec [a,b,c] [x] [e] last (by simp) (fun k hk3 h=>?_) (fun k s hk3 hs=>?_) (line_3 L last x e h) (by simp; omega) (by simp; omega)
 ·have:k = 0 ∨ k = 1 ∨ k = 2:=by simp at hk3; omega
  rcases this with rfl | rfl | rfl
  ·simp [keyedO,L.a1] at h
  ·exact hK h
  ·simp [keyedO,L.c9] at h
 have:k = 0 ∨ k = 1 ∨ k = 2:=by simp at hk3; omega
 rcases this with rfl | rfl | rfl
 ·simp only [List.take_zero,stepsD,Option.some.injEq] at hs
  subst hs
  refine ⟨by simp [L.ai],by simp [L.ai],by simp,fun _=>⟨by simpa using L.am,by simp,by simp,by simp; omega,by simp; omega⟩,fun h=>?_,fun h=>absurd L.a1 h⟩
  simp [keyedO,L.a1] at h
 ·rw [show [a,b,c].take 1 = [a] from rfl,line_1 L] at hs
  simp only [Option.some.injEq] at hs
  subst hs
  have hr:rowsF ⟨1,[cameD a.mx.toNat e 0 x.rows],[],[]⟩ b = cameD a.mx.toNat e 0 x.rows:=by simp [rowsF,L.bi]
  refine ⟨by simp [L.bi],fun k=>?_,by simp,fun h=>absurd h (by simpa using L.b1),fun h=>?_,fun _ h=>?_⟩
  ·simp only [List.getElem_cons_succ,List.getElem_cons_zero,L.bi]
   cases k <;> simp; omega
  ·simp only [List.getElem_cons_succ,List.getElem_cons_zero] at h ⊢
   rw [hr]; exact hk h
  ·simp only [List.getElem_cons_succ,List.getElem_cons_zero] at h ⊢
   rw [hr]; exact ha h
 ·rw [show [a,b,c].take 2 = [a,b] from rfl,line_2 L last x e h] at hs
  simp only [Option.some.injEq] at hs
  subst hs
  have hr:rowsF ⟨1,[cameD a.mx.toNat e 0 x.rows,out],bad.map fun y=>(1,y),[]⟩ c = out:=by simp [rowsF,L.ci]
  refine ⟨by simp [L.ci],fun k=>?_,by simpa using hb,fun h=>?_,fun h=>?_,fun _ _=>?_⟩
  ·simp only [List.getElem_cons_succ,List.getElem_cons_zero,L.ci]
   cases k <;> simp; omega
  ·simp [L.c9] at h
  ·simp [keyedO,L.c9] at h
  ·simp only [List.getElem_cons_succ,List.getElem_cons_zero]
   rw [hr]
   exact ⟨ho,by simp [L.ce],hw,by simp [L.ce],fun h=>by rw [L.c9] at h; simp at h⟩
theorem came_whole (mx:Nat) (h0:0 < mx) (h1:mx ≤ 16) (l:List Va) (hl:l.length ≤ 1000):cameD mx (List.replicate 16 1000) 0 l = l:=by
 refine cameD_all mx h0 _ l 0 fun r hr=>?_
 have h2:=Nat.mod_lt r h0
 have h3:=Nat.div_le_self r mx
 unfold comesD
 rw [Bool.and_eq_true,decide_eq_true_eq,decide_eq_true_eq]
 refine ⟨by simp; omega, ?_⟩
 rw [List.getD_eq_getElem?_getD,List.getElem?_replicate,if_pos (by omega)]
 simp; omega
theorem line_whole {a b c:Nd} (L:Line a b c) (hK:keyedO b.op.k = true→KeyedAt [a,b,c] true 1 b) (x:InD) (hm:a.mx ≤ 16) {out bad:List Va} (h:nodeO b.op true x.rows = some (out,bad)) (hx:x.rows.length ≤ 1000)
  (hk:keyedO b.op.k = true→KeyOk b.op x.rows) (ha:keyedO b.op.k = false→ApplyOk b.op x.rows) (ho:out.length ≤ 10000) (hb:bad.length ≤ 100000) (hw:∀ y ∈ out,Wv 1000000000 y) :
  Abs.Fn Tryz.prog deno_Whole_i [] [.p (.slice ([a,b,c].map encN)),.p (.slice ([x].map encI))] (.p (encD (sortD ⟨[out],bad.map fun y=>(1,y)⟩))) []:=by
 have am:=L.am
 have hc:=came_whole a.mx.toNat (by omega) (by omega) x.rows hx
 refine Whole_spec (n:=1) rfl (by simp) (by omega) ?_
 have:=line_front L true hK x (List.replicate 16 1000) (out:=out) (bad:=bad) (by rw [hc]; exact h) hx (by simp) (by rw [hc]; exact hk) (by rw [hc]; exact ha) ho hb hw
 exact this
end Go.Proofs.YtdmgbhamigegfaaGreatDoor
end

section
/- The laws' helpers: a job of numbers, rows of numbers, known. -/
set_option linter.unusedSimpArgs false
set_option linter.unusedVariables false
namespace Go.Proofs.YtdmgbhamigegfaaGreatDoor
open Go Go.Abs
attribute [local irreducible] Abs.Fn
def inN (l:List Int):InD:=⟨[115],l.map intV⟩
def inK:InD:=inN [5,3]
theorem line_small:Line (srcG 2 4) mapG (sinkG 1 2 4):=⟨rfl,rfl,by simp,rfl,by simp,by simp,rfl,rfl,rfl⟩
theorem known10_spec:Abs.Fn Tryz.prog runnellaw10_known_i [] [] (.p (.bool true)) []:=by
 have hlen1:(inK).rows.length = 2:=rfl
 have hrows:∀ x ∈ inK.rows,Wv 1000000000 x:=fun x hx=>by
  simp only [inK,inN,List.map_cons,List.map_nil,List.mem_cons,List.not_mem_nil,or_false] at hx
  rcases hx with rfl | rfl <;> exact wv_int _
 have hap:∀ l:List Va,l.length ≤ 10→(∀ x ∈ l,Wv 1000000000 x)→ApplyOk mapG.op l:=fun l h1 h2=>⟨by omega,fun e he=>by
  simp only [List.mem_cons,List.not_mem_nil,or_false] at he
  subst he
  exact we_2 we_x (we_l (wv_int _)),h2,by simp,by simp⟩
 have n1:nodeO mapG.op true inK.rows = some ([intV 6,intV 4],[]):=by rfl
 have hW:=line_whole line_small (by simp [keyedO]) inK (by simp) n1 (by simp [hlen1]) (by simp [keyedO]) (fun _=>hap _ (by simp [hlen1]) hrows) (by simp) (by simp) (fun y hy=>by
  simp only [List.mem_cons,List.not_mem_nil,or_false] at hy
  rcases hy with rfl | rfl <;> exact wv_int _)
 have n2:nodeO mapG.op false (cameD (srcG 2 4).mx.toNat [1,0,0,0] 0 inK.rows) = some ([intV 6],[]):=by rfl
 have hc2:cameD (srcG 2 4).mx.toNat [1,0,0,0] 0 inK.rows = [intV 5]:=by rfl
 have hF:=line_front line_small false (by simp [keyedO]) inK [1,0,0,0] n2 (by simp [hlen1]) (by simp) (by simp [keyedO]) (fun _=>by rw [hc2]; exact hap _ (by simp) (fun x hx=>by simp at hx; subst hx; exact wv_int _)) (by simp) (by simp) (fun y hy=>by
  simp only [List.mem_cons,List.not_mem_nil,or_false] at hy
  subst hy; exact wv_int _)
 have s1:sortD ⟨[[intV 6,intV 4]],([]:List Va).map fun y=>((1:Int),y)⟩ = ⟨[[intV 4,intV 6]],[]⟩:=by rfl
 have s2:sortD ⟨[[intV 6]],([]:List Va).map fun y=>((1:Int),y)⟩ = ⟨[[intV 6]],[]⟩:=by rfl
 rw [s1] at hW
 rw [s2] at hF
 have hC1:=CheckD_spec smallG okN_small (by simp [smallG]) [inK] (by simp) (by simp [hlen1]) (by simpa using hrows)
 have hC2:=CheckD_spec smallG okN_small (by simp [smallG]) [] (by simp) (by simp) (by simp)
 have e1:checkD smallG [inK] = 0:=by rfl
 have e2:checkD smallG [] = 6:=by rfl
 rw [e1] at hC1
 rw [e2] at hC2
 have hWi1:=Within_spec ⟨[[intV 6]],[]⟩ ⟨[[intV 4,intV 6]],[]⟩ (by simp) (by simp) (by simp) (by simp) (by simp) (by simp)
 have hWi2:=Within_spec ⟨[[intV 4,intV 6]],[]⟩ ⟨[[intV 6]],[]⟩ (by simp) (by simp) (by simp) (by simp) (by simp) (by simp)
 have hS1:=DSame_spec ⟨[[intV 4,intV 6]],[]⟩ ⟨[[intV 4,intV 6]],[]⟩
 have hS2:=DSame_spec ⟨[[intV 4,intV 6]],[]⟩ ⟨[[intV 6]],[]⟩
 have f1:withinD ⟨[[intV 6]],[]⟩ ⟨[[intV 4,intV 6]],[]⟩ = true:=by rfl
 have f2:withinD ⟨[[intV 4,intV 6]],[]⟩ ⟨[[intV 6]],[]⟩ = false:=by rfl
 have f3:sameD ⟨[[intV 4,intV 6]],[]⟩ ⟨[[intV 4,intV 6]],[]⟩ = true:=by simp [sameD]
 have f4:sameD ⟨[[intV 4,intV 6]],[]⟩ ⟨[[intV 6]],[]⟩ = false:=by rfl
 rw [f1] at hWi1
 rw [f2] at hWi2
 rw [f3] at hS1
 rw [f4] at hS2
 have hSp:=Split_spec smallG 0 (by simp [smallG]) 5 (by simp [smallG])
 have hSm:=Small_spec
 rw [show (5:Int).tmod (smallG[0]'(by simp [smallG])).mx = 1 from rfl] at hSp
 rw [show [srcG 2 4,mapG,sinkG 1 2 4] = smallG from rfl] at hW hF
 clear hap hrows n1 n2 hc2 s1 s2 e1 e2 f1 f2 f3 f4
 generalize smallG.map encN = gT at *
 simp [inK,inN,encI,intV,encD,encL] at hW hF hC1 hC2 hWi1 hWi2 hS1 hS2 hSp hSm
 apply runnellaw10_known_fn
 simp [runnellaw10_known]
 (first | refine aCall_fold rfl ?_ | refine aCallT_fold rfl ?_)
 (first | refine aCallU_p (hSm) ?_ | refine aCallTU_p (hSm) ?_ | refine aCallU_of (hSm) ?_ | refine aCallTU_of (hSm) rfl ?_ | refine aCallTU_of (hSm) (by simp [AV.pur]; rfl) ?_)
 try simp
 (first | refine aCall_fold rfl ?_ | refine aCallT_fold rfl ?_)
 (first | refine aCallU_p (Int_spec 5) ?_ | refine aCallTU_p (Int_spec 5) ?_ | refine aCallU_of (Int_spec 5) ?_ | refine aCallTU_of (Int_spec 5) rfl ?_ | refine aCallTU_of (Int_spec 5) (by simp [AV.pur]; rfl) ?_)
 try simp
 (first | refine aCall_fold rfl ?_ | refine aCallT_fold rfl ?_)
 (first | refine aCallU_p (Int_spec 3) ?_ | refine aCallTU_p (Int_spec 3) ?_ | refine aCallU_of (Int_spec 3) ?_ | refine aCallTU_of (Int_spec 3) rfl ?_ | refine aCallTU_of (Int_spec 3) (by simp [AV.pur]; rfl) ?_)
 try simp
 (first | refine aCall_fold rfl ?_ | refine aCallT_fold rfl ?_)
 (first | refine aCallU_p (hW) ?_ | refine aCallTU_p (hW) ?_ | refine aCallU_of (hW) ?_ | refine aCallTU_of (hW) rfl ?_ | refine aCallTU_of (hW) (by simp [AV.pur]; rfl) ?_)
 try simp
 (first | refine aCall_fold rfl ?_ | refine aCallT_fold rfl ?_)
 (first | refine aCallU_p (hF) ?_ | refine aCallTU_p (hF) ?_ | refine aCallU_of (hF) ?_ | refine aCallTU_of (hF) rfl ?_ | refine aCallTU_of (hF) (by simp [AV.pur]; rfl) ?_)
 try simp
 (first | refine aCall_fold rfl ?_ | refine aCallT_fold rfl ?_)
 (first | refine aCallU_p (hC1) ?_ | refine aCallTU_p (hC1) ?_ | refine aCallU_of (hC1) ?_ | refine aCallTU_of (hC1) rfl ?_ | refine aCallTU_of (hC1) (by simp [AV.pur]; rfl) ?_)
 try simp
 refine aMerge_intro true (fun _=>?_) ?_
 ·refine aCallW_of rfl rfl hC2 ?_
  simp
 simp
 refine aMerge_intro true (fun _=>?_) ?_
 ·refine aCallW_of rfl rfl hWi1 ?_
  simp
 simp
 refine aMerge_intro true (fun _=>?_) ?_
 ·refine aCallW_of rfl rfl hWi2 ?_
  simp
 simp
 refine aMerge_intro true (fun _=>?_) ?_
 ·refine aCallW_of rfl rfl hS1 ?_
  simp
 simp
 refine aMerge_intro true (fun _=>?_) ?_
 ·refine aCallW_of rfl rfl hS2 ?_
  simp
 simp
 refine aMerge_intro true (fun _=>?_) ?_
 ·refine aCallW_of rfl rfl hSp ?_
  simp
 simp
 exact gives_p rfl
end Go.Proofs.YtdmgbhamigegfaaGreatDoor
end

section
/- The law DenoTwo. -/
set_option linter.unusedSimpArgs false
set_option linter.unusedVariables false
namespace Go.Proofs.YtdmgbhamigegfaaGreatDoor
open Go Go.Abs
attribute [local irreducible] Abs.Fn
theorem goodV_wv {v:Va} (h:goodV v = true):Wv 1000000000 v:=by
 have:fewV v = true:=by
  unfold goodV at h
  simp only [Bool.and_eq_true] at h
  exact h.1
 exact Wv.mono (by omega) (fewV_small this)
set_option maxRecDepth 100000 in
theorem DenoTwo_spec (a b:List Va) (i j:Int):Abs.Fn Tryz.prog runnellaw10_DenoTwo_i [] [.p (.slice (a.map encV)),.p (.slice (b.map encV)),.p (.int .i64 i),.p (.int .i64 j)] (.p (.bool true)) []:=by
 apply runnellaw10_DenoTwo_fn
 simp [runnellaw10_DenoTwo]
 refine aCallW_of rfl rfl known10_spec ?_
 simp
 try intro hml
 refine ⟨fun _=>gives_p rfl,fun ha hb=>?_⟩
 refine loop_by (σ:=Nat) (n:=0) (fun k=>[.p (.int .i64 k)]) (fun _=>[]) (fun k=>k ≤ a.length ∧ ∀ v ∈ a.take k,goodV v = true) (fun k=>a.length - k) [] 0 (fun _=>rfl) ?_ (by simp) (fun k B hk hB=>?_)
 ·simp [ghosts]
 obtain ⟨k1,k2⟩:=hk
 simp [runnellaw10_DenoTwo_L1]
 intro _
 refine ⟨fun hlt=>?_,fun hge=>?_⟩
 ·have hg:=good2_spec a[k]
  simp only [encV_eta] at hg
  simp [hlt]
  refine aCallW_of rfl rfl hg ?_
  simp
  refine ⟨fun _=>gives_p rfl,fun hz=>?_⟩
  rw [IntWalk.i64_in _ (by omega)]
  refine hB (k + 1) _ ⟨by omega,fun v hv=>?_⟩ (by omega) (by simp) (by simp) (by simp) (by simp [AV.under,AV.under1])
  rw [List.take_succ_eq_append_getElem hlt] at hv
  rcases List.mem_append.1 hv with hv | hv
  ·exact k2 v hv
  ·simp at hv; subst hv; exact hz
 rw [List.take_of_length_le hge] at k2
 clear hB k1 hge
 refine loop_by (σ:=Nat) (n:=0) (fun k=>[.p (.int .i64 k)]) (fun _=>[]) (fun k=>k ≤ b.length ∧ ∀ v ∈ b.take k,goodV v = true) (fun k=>b.length - k) [] 0 (fun _=>rfl) ?_ (by simp) (fun k B2 hk hB2=>?_)
 ·simp [ghosts]
 obtain ⟨q1,q2⟩:=hk
 simp [runnellaw10_DenoTwo_L2]
 intro _
 refine ⟨fun hlt=>?_,fun hge=>?_⟩
 ·have hg:=good2_spec b[k]
  simp only [encV_eta] at hg
  simp [hlt]
  refine aCallW_of rfl rfl hg ?_
  simp
  refine ⟨fun _=>gives_p rfl,fun hz=>?_⟩
  rw [IntWalk.i64_in _ (by omega)]
  refine hB2 (k + 1) _ ⟨by omega,fun v hv=>?_⟩ (by omega) (by simp) (by simp) (by simp) (by simp [AV.under,AV.under1])
  rw [List.take_succ_eq_append_getElem hlt] at hv
  rcases List.mem_append.1 hv with hv | hv
  ·exact q2 v hv
  ·simp at hv; subst hv; exact hz
 rw [List.take_of_length_le hge] at q2
 clear hB2 q1 hge
 have wa:∀ v ∈ a,Wv 1000000000 v:=fun v hv=>goodV_wv (k2 v hv)
 have wb:∀ v ∈ b,Wv 1000000000 v:=fun v hv=>goodV_wv (q2 v hv)
 have oa:=OfAll_spec a wa (by omega)
 have ob:=OfAll_spec b wb (by omega)
 have sa:=SortedR_spec a (by omega)
 have sb:=SortedR_spec b (by omega)
 have wA:∀ v ∈ sortO cmpV a,Wv 1000000000 v:=fun v hv=>wa v ((sortO_perm ordV a).mem_iff.1 hv)
 have wB:∀ v ∈ sortO cmpV b,Wv 1000000000 v:=fun v hv=>wb v ((sortO_perm ordV b).mem_iff.1 hv)
 have lA:=sortO_len ordV a
 have lB:=sortO_len ordV b
 generalize sortO cmpV a = A at *
 generalize sortO cmpV b = B at *
 have tx:=ToOutput_spec ⟨[A],[(i,intV 1)]⟩ (by simp) (by simp) (fun l hl=>by simp at hl; subst hl; exact ⟨by omega,wA⟩) (fun p hp=>by simp at hp; subst hp; exact wv_int _)
 have ty:=ToOutput_spec ⟨[B],[(j,intV 1)]⟩ (by simp) (by simp) (fun l hl=>by simp at hl; subst hl; exact ⟨by omega,wB⟩) (fun p hp=>by simp at hp; subst hp; exact wv_int _)
 have s1:=DSame_spec ⟨[A],[(i,intV 1)]⟩ ⟨[B],[(j,intV 1)]⟩
 have s2:=SameOutput_spec ⟨[A],[(i,intV 1)]⟩ ⟨[B],[(j,intV 1)]⟩ (by simp) (by simp) (fun l hl=>by simp at hl; subst hl; omega)
 have p1:=Within_spec ⟨[A],[(i,intV 1)]⟩ ⟨[B],[(j,intV 1)]⟩ (by simp) (fun l hl=>by simp at hl; subst hl; omega) (by simp) (by simp) (fun l hl=>by simp at hl; subst hl; omega) (by simp)
 have p2:=WithinR_spec ⟨[A],[(i,intV 1)]⟩ ⟨[B],[(j,intV 1)]⟩ (by simp) (by simp) (by simp) (fun l hl=>by simp at hl; subst hl; omega) (fun l hl=>by simp at hl; subst hl; omega)
 rw [two_within] at p2
 generalize sameD ⟨[A],[(i,intV 1)]⟩ ⟨[B],[(j,intV 1)]⟩ = sm at *
 generalize withinD ⟨[A],[(i,intV 1)]⟩ ⟨[B],[(j,intV 1)]⟩ = wi at *
 simp only [encD,encL,encW,intV,List.map_cons,List.map_nil,Va.k,Va.i,Va.b,Va.s,Va.t] at tx ty s1 s2 p1 p2
 refine aCallW_of rfl rfl oa ?_
 simp
 refine aCallW_of rfl rfl sa ?_
 simp
 refine aCallW_of rfl rfl (V_spec 1) ?_
 simp [intV]
 refine aCallW_of rfl rfl ob ?_
 simp
 refine aCallW_of rfl rfl sb ?_
 simp
 refine aCallW_of rfl rfl (V_spec 1) ?_
 simp [intV]
 refine aCallT_of rfl tx rfl ?_
 simp
 refine aCallT_of rfl ty rfl ?_
 simp
 refine aCallT_of rfl s1 rfl ?_
 simp
 refine aCallT_of rfl s2 rfl ?_
 simp
 refine aCallT_of rfl tx rfl ?_
 simp
 refine aCallT_of rfl ty rfl ?_
 simp
 refine aCallT_of rfl p1 rfl ?_
 simp
 refine aCallT_of rfl p2 rfl ?_
 simp
 exact gives_p rfl
end Go.Proofs.YtdmgbhamigegfaaGreatDoor
end
