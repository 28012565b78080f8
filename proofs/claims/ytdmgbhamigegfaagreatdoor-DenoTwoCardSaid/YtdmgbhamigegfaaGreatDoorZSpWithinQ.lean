/- slices.Values, slices.SortedFunc, deno.compare, deno.Sorted over trees. -/
import Derived.Test.YtdmgbhamigegfaaGreatDoorZSpSeqQ
import Derived.Test.YtdmgbhamigegfaaGreatDoorZSortK
import Derived.Test.YtdmgbhamigegfaaGreatDoorZLaidS
import Derived.Test.YtdmgbhamigegfaaGreatDoorZSpValBQ
import Derived.Test.YtdmgbhamigegfaaGreatDoorZPuDeno
import Derived.Test.YtdmgbhamigegfaaGreatDoorA3

section
/- slices.Values, slices.SortedFunc, deno.compare, deno.Sorted over trees. -/
set_option linter.unusedSimpArgs false
set_option linter.unusedVariables false
namespace Go.Proofs.YtdmgbhamigegfaaGreatDoor
open Go Go.Abs
attribute [local irreducible] Abs.Fn
theorem gives_frow {n:Nat} {v r:AV} {H Hout:List Ob} {id ver s:Nat} {es:List T} (ho:H[id]? = some (.frow ver s es)) (h:Gives n (v.unm id ver es) H r Hout):Gives n v H r Hout :=
 fun w G u hi hr=>h w G u hi (unm_of (Grow.refl G) (fun s off len u r hle=>frow_part hi ho r hle) hr)
theorem encV_cs (x:Va):∃ cs,encV x = .agg cs ∧ cs.length = 5:=by cases x; exact ⟨_,rfl,rfl⟩
theorem encW_cs (x:Int × Va):∃ cs,encW x = .agg cs ∧ cs.length = 6:=⟨_,rfl,rfl⟩
theorem valuesV_spec (es:List T):Abs.Fn Tryz.prog slices_Values_val_Value_val_Value_i [] [.p (.slice es)] (.p (.func slices_Values_val_Value_val_Value_1_i [.imm [.slice es] 0])) []:=by
 apply slices_Values_val_Value_val_Value_fn
 simp [slices_Values_val_Value_val_Value]
 exact gives_p rfl
theorem valuesW_spec (es:List T):Abs.Fn Tryz.prog slices_Values_deno_Bad_deno_Bad_i [] [.p (.slice es)] (.p (.func slices_Values_deno_Bad_deno_Bad_1_i [.imm [.slice es] 0])) []:=by
 apply slices_Values_deno_Bad_deno_Bad_fn
 simp [slices_Values_deno_Bad_deno_Bad]
 exact gives_p rfl
theorem sortedV_spec {g:Nat} (hcg:callable Tryz.prog g = true) {cf:Va→Va→Int} (ho:Ordr cf) (hcmp:∀ x y,Abs.Fn Tryz.prog g [] [.p (encV x),.p (encV y)] (.p (.int .i64 (cf x y))) []) (l:List Va) (hl:l.length ≤ 1000000) :
  Abs.Fn Tryz.prog slices_SortedFunc_val_Value_i [] [.p (.func slices_Values_val_Value_val_Value_1_i [.imm [.slice (l.map encV)] 0]),.p (.func g [])] (.p (.slice ((sortO cf l).map encV))) []:=by
 have h1:=CollectV_spec (es:=l.map encV) (by simpa using hl) (fun e he=>by obtain ⟨x,_,rfl⟩:=List.mem_map.1 he; exact encV_cs x)
 have h2:Abs.Fn Tryz.prog slices_SortFunc_val_Value_val_Value_i [.mrow 0 5 (l.map encV)] [.msl 0 0 5 0 l.length,.p (.func g [])] (.tup []) [.frow 0 5 ((sortO cf l).map encV)] :=
  sort_fn (by decide) encV_cs ho Tryz.sortV Tryz.isAgg27 Tryz.sizeOf27 (by kernel_rfl) hcg hcmp l hl
 have hsl:=sortO_len ho l
 rw [List.length_map] at h1
 apply slices_SortedFunc_val_Value_fn
 simp [slices_SortedFunc_val_Value]
 refine aCallW_of rfl rfl h1 ?_
 simp
 refine aCallF_of [0] h2 rfl (by simp [renF]) (by simp) (by simp [framed,renF]) (by simp [AV.under,AV.under1]) (by simp [Ob.below]) ?_
 simp [renF,frameH,setAll]
 refine gives_frow (id:=0) rfl ?_
 simp [AV.unm,AV.unm1,hsl,List.take_of_length_le (show ((sortO cf l).map encV).length ≤ l.length by simp [hsl])]
 exact gives_p rfl
theorem sortedW_spec {g:Nat} (hcg:callable Tryz.prog g = true) {cf:Int × Va→Int × Va→Int} (ho:Ordr cf) (hcmp:∀ x y,Abs.Fn Tryz.prog g [] [.p (encW x),.p (encW y)] (.p (.int .i64 (cf x y))) []) (l:List (Int × Va)) (hl:l.length ≤ 1000000) :
  Abs.Fn Tryz.prog slices_SortedFunc_deno_Bad_i [] [.p (.func slices_Values_deno_Bad_deno_Bad_1_i [.imm [.slice (l.map encW)] 0]),.p (.func g [])] (.p (.slice ((sortO cf l).map encW))) []:=by
 have h1:=CollectW_spec (es:=l.map encW) (by simpa using hl) (fun e he=>by obtain ⟨x,_,rfl⟩:=List.mem_map.1 he; exact encW_cs x)
 have h2:Abs.Fn Tryz.prog slices_SortFunc_deno_Bad_deno_Bad_i [.mrow 0 6 (l.map encW)] [.msl 0 0 6 0 l.length,.p (.func g [])] (.tup []) [.frow 0 6 ((sortO cf l).map encW)] :=
  sort_fn (by decide) encW_cs ho Tryz.sortW Tryz.isAgg51 Tryz.sizeOf51 (by kernel_rfl) hcg hcmp l hl
 have hsl:=sortO_len ho l
 rw [List.length_map] at h1
 apply slices_SortedFunc_deno_Bad_fn
 simp [slices_SortedFunc_deno_Bad]
 refine aCallW_of rfl rfl h1 ?_
 simp
 refine aCallF_of [0] h2 rfl (by simp [renF]) (by simp) (by simp [framed,renF]) (by simp [AV.under,AV.under1]) (by simp [Ob.below]) ?_
 simp [renF,frameH,setAll]
 refine gives_frow (id:=0) rfl ?_
 simp [AV.unm,AV.unm1,hsl,List.take_of_length_le (show ((sortO cf l).map encW).length ≤ l.length by simp [hsl])]
 exact gives_p rfl
theorem encW_mk (n:Int) (v:Va):∃ a b c d e,encV v = .agg [a,b,c,d,e] ∧ encW (n,v) = .agg [.int .i64 n,a,b,c,d,e]:=by
 cases v; exact ⟨_,_,_,_,_,rfl,by simp [encW,encVs_eq,Va.k,Va.i,Va.b,Va.s,Va.t]⟩
theorem compareW_spec (x y:Int × Va):Abs.Fn Tryz.prog deno_compare_i [] [.p (encW x),.p (encW y)] (.p (.int .i64 (cmpW x y))) []:=by
 obtain ⟨n,v⟩:=x
 obtain ⟨m,u⟩:=y
 have hc:=Compare_spec v u
 have hr:cmpW (n,v) (m,u) = lexI (cmpI n m) (cmpV v u):=rfl
 rw [hr]
 obtain ⟨a1,a2,a3,a4,a5,e1,e2⟩:=encW_mk n v
 obtain ⟨b1,b2,b3,b4,b5,e3,e4⟩:=encW_mk m u
 rw [e1,e3] at hc
 rw [e2,e4]
 apply deno_compare_fn
 simp [deno_compare]
 refine aCallT_of rfl (cmpInt_spec n m) rfl ?_
 simp
 refine aCallT_of rfl hc rfl ?_
 simp
 refine aCallT_of rfl (by simpa using or_spec [cmpI n m,cmpV v u]) rfl ?_
 simp
 exact gives_p (by simp only [orI,lexI]; grind)
theorem ClipW_spec (es:List T):Abs.Fn Tryz.prog slices_Clip_deno_Bad_deno_Bad_i [] [.p (.slice es)] (.p (.slice es)) []:=by
 apply slices_Clip_deno_Bad_deno_Bad_fn
 simp [slices_Clip_deno_Bad_deno_Bad]
 intro _
 simp [aSliceSl,atSize]
 exact gives_pure (by simp [AV.pur,List.take_of_length_le])
theorem Sorted_spec (o:OutD) (h1:o.sinks.length ≤ 1000000) (h2:∀ l ∈ o.sinks,l.length ≤ 1000000) (h3:o.bad.length ≤ 1000000):Abs.Fn Tryz.prog deno_Sorted_i [] [.p (encD o)] (.p (encD (sortD o))) []:=by
 obtain ⟨S,B⟩:=o
 simp only at h1 h2 h3
 have hb:=sortedW_spec (by kernel_rfl) ordW compareW_spec B h3
 have hM:∀ i (hi:i < S.length),((sortD ⟨S,B⟩).sinks.map encL)[i]? = some (.slice ((sortO cmpV S[i]).map encV)):=fun i hi=>by simp [sortD,encL,hi]
 have hMl:((sortD ⟨S,B⟩).sinks.map encL).length = S.length:=by simp [sortD]
 have hMB:(sortD ⟨S,B⟩).bad = sortO cmpW B:=rfl
 have hM1:∀ e ∈ (sortD ⟨S,B⟩).sinks.map encL,e.cells.length = 1:=fun e he=>by obtain ⟨x,_,rfl⟩:=List.mem_map.1 he; rfl
 simp only [encD]
 rw [hMB]
 generalize (sortD ⟨S,B⟩).sinks.map encL = M at *
 clear hMB
 apply deno_Sorted_fn
 simp [deno_Sorted]
 intro hml
 refine loop_by (σ:=Nat) (n:=4) (fun i=>[.p (.int .i64 i)]) (fun i=>[.box [.p (.slice (S.map encL)),.p (.slice (B.map encW))],.box [.full [],.full []],.box [.own 3 (M.take i),.full []],.row i 1]) (fun i=>i ≤ S.length) (fun i=>S.length - i) [.cell 2 0 1] 0 (fun _=>rfl) ⟨rfl,by simp⟩ (by simp) (fun i Bk hi hBk=>?_)
 simp [deno_Sorted_L1]
 refine ⟨fun hlt=>?_,fun hge=>?_⟩
 ·have hs:=sortedV_spec (by kernel_rfl) ordV Compare_spec S[i] (h2 _ (List.getElem_mem hlt))
  have hsn:=take_snoc (l:=M) (i:=i) (by omega)
  have hMi:=hM i hlt
  rw [List.getElem?_eq_getElem (by omega),Option.some.injEq] at hMi
  rw [hMi] at hsn
  simp [hlt,encL]
  refine aCallT_of rfl (valuesV_spec _) rfl ?_
  simp
  refine aCallT_of rfl hs rfl ?_
  simp
  refine aCallT_of rfl (clipV_spec _) rfl ?_
  simp
  refine ⟨by omega,⟨fun e he=>hM1 e (List.mem_of_mem_take he),by simp,by simp; omega⟩, ?_⟩
  rw [IntWalk.i64_in _ (by omega),hsn]
  exact hBk (i + 1) _ (by omega) (by omega) (by simp [encL]) (by simp [Ob.below,AV.under1]) (by simp) (by simp [AV.under,AV.under1])
 ·have:i = S.length:=by omega
  subst this
  rw [List.take_of_length_le (by omega)]
  refine aCallW_of rfl rfl (valuesW_spec _) ?_
  simp
  refine aCallW_of rfl rfl hb ?_
  simp
  refine aCallW_of rfl rfl (ClipW_spec _) ?_
  simp
  exact gives_pure (by simp [AV.pur,AV.toT,allT,AV.cellT])
end Go.Proofs.YtdmgbhamigegfaaGreatDoor
end

section
/- deno.within, deno.Within, deno.Same over trees. -/
set_option linter.unusedSimpArgs false
set_option linter.unusedVariables false
namespace Go.Proofs.YtdmgbhamigegfaaGreatDoor
open Go Go.Abs
attribute [local irreducible] Abs.Fn
theorem withinO_nil {α:Type} (c:α→α→Int) (x:α) (r:List α):withinO c (x :: r) [] = false:=by simp [withinO]
theorem withinO_lt {α:Type} (c:α→α→Int) {x y:α} {r q:List α} (h:c y x < 0):withinO c (x :: r) (y :: q) = withinO c (x :: r) q:=by simp [withinO,h]
theorem withinO_ge {α:Type} (c:α→α→Int) {x y:α} {r q:List α} (h:¬ c y x < 0):withinO c (x :: r) (y :: q) = (decide (c y x = 0) && withinO c r q):=by simp [withinO,List.dropWhile,h]
theorem withinV_spec {g:Nat} (hcg:callable Tryz.prog g = true) {cf:Va→Va→Int} (ho:Ordr cf) (hcmp:∀ x y,Abs.Fn Tryz.prog g [] [.p (encV x),.p (encV y)] (.p (.int .i64 (cf x y))) []) (a b:List (Va)) (ha:a.length ≤ 1000000) (hb:b.length ≤ 1000000) :
  Abs.Fn Tryz.prog deno_within_val_Value_i [] [.p (.slice (a.map encV)),.p (.slice (b.map encV)),.p (.func g [])] (.p (.bool (withinO cf (sortO cf a) (sortO cf b)))) []:=by
 have hsa:=sortedV_spec hcg ho hcmp a ha
 have hsb:=sortedV_spec hcg ho hcmp b hb
 have hla:=sortO_len ho a
 have hlb:=sortO_len ho b
 generalize sortO cf a = A at *
 generalize sortO cf b = B at *
 apply deno_within_val_Value_fn
 simp [deno_within_val_Value]
 refine aCallW_of rfl rfl (valuesV_spec _) ?_
 simp
 refine aCallW_of rfl rfl hsb ?_
 simp
 refine aCallW_of rfl rfl (valuesV_spec _) ?_
 simp
 refine aCallW_of rfl rfl hsa ?_
 simp
 intro hml
 generalize hR:withinO cf A B = R
 refine loop_by (σ:=Nat × List (Va)) (n:=0) (fun s=>[.p (.slice (s.2.map encV)),.p (.int .i64 s.1)]) (fun _=>[]) (fun s=>s.1 ≤ A.length ∧ s.2.length ≤ 1000000 ∧ withinO cf (A.drop s.1) s.2 = R) (fun s=>A.length - s.1) [] (0,B) (fun _=>rfl) ⟨rfl,rfl⟩ ⟨by simp,(show B.length ≤ 1000000 by omega),by simpa using hR⟩ (fun s Bk hs hBk=>?_)
 obtain ⟨i,q⟩:=s
 obtain ⟨h1,h1q,h2⟩:=hs
 simp only at h1 h2 h1q hBk
 simp [deno_within_val_Value_L1]
 refine ⟨fun hlt=>?_,fun hge=>?_⟩
 ·rw [List.drop_eq_getElem_cons hlt] at h2
  generalize hx:A[i] = x at *
  simp [hlt,hx]
  refine loop_by (σ:=List (Va)) (n:=1) (fun q=>[.p (.slice (q.map encV))]) (fun _=>[.box [.p (.int .i64 x.k),.p (.int .i64 x.i),.p (.bool x.b),.p (.str x.s),.p (.slice (x.t.map encV))]]) (fun q=>q.length ≤ 1000000 ∧ withinO cf (x :: A.drop (i + 1)) q = R) (fun q=>q.length) [] q (fun _=>rfl) ⟨rfl,rfl⟩ ⟨h1q,h2⟩ (fun q Bk2 hq hBk2=>?_)
  obtain ⟨h3,h4⟩:=hq
  cases q with
  | nil =>
   rw [withinO_nil] at h4
   subst h4
   simp [deno_within_val_Value_L2,maxLen]
   exact gives_p rfl
  | cons y r =>
   have hcy:=hcmp y x
   simp only [encV_eta] at hcy
   simp only [List.length_cons] at h3 hBk2
   have hsl:((encV y :: r.map encV).take (r.length + 1)).drop 1 = r.map encV:=by simp [List.take_of_length_le]
   simp [deno_within_val_Value_L2]
   refine ⟨by unfold maxLen; omega, ?_⟩
   refine aCallT_of rfl hcy rfl ?_
   simp
   refine ⟨fun hlt0=>?_,fun hge0=>?_⟩
   ·rw [withinO_lt cf hlt0] at h4
    simp [aSliceSl,atSize]
    refine ⟨by omega,fun hr=>?_, ?_⟩
    ·cases r with
     | nil=>simp at hr
     | cons z r'=>simp
    rw [List.take_of_length_le (by simp)]
    exact hBk2 r _ ⟨by omega,h4⟩ (by omega) (by simp) (by simp [Ob.below,AV.under1]) (by simp) (by simp [AV.under,AV.under1])
   ·rw [withinO_ge cf (by omega)] at h4
    refine ⟨by unfold maxLen; omega,fun h0=>by omega,fun _=>?_⟩
    refine aCallT_of rfl hcy rfl ?_
    simp
    refine ⟨fun hne=>gives_p ?_,fun he0=>?_⟩
    ·rw [← h4]; simp [hne]
    ·simp [aSliceSl,atSize]
     refine ⟨by omega,fun hr=>?_, ?_⟩
     ·cases r with
      | nil=>simp at hr
      | cons z r'=>simp
     rw [List.take_of_length_le (by simp),IntWalk.i64_in _ (by omega)]
     refine hBk (i + 1,r) _ ⟨by simp only; omega,by simp only; omega, ?_⟩ (by simp only; omega) (by simp) (by simp) (by simp) (by simp [AV.under,AV.under1])
     rw [← h4]; simp [he0]
 ·have hd:A.drop i = []:=List.drop_of_length_le hge
  rw [hd] at h2
  exact gives_p (by rw [← h2]; rfl)
theorem withinW_spec {g:Nat} (hcg:callable Tryz.prog g = true) {cf:Int × Va→Int × Va→Int} (ho:Ordr cf) (hcmp:∀ x y,Abs.Fn Tryz.prog g [] [.p (encW x),.p (encW y)] (.p (.int .i64 (cf x y))) []) (a b:List (Int × Va)) (ha:a.length ≤ 1000000) (hb:b.length ≤ 1000000) :
  Abs.Fn Tryz.prog deno_within_deno_Bad_i [] [.p (.slice (a.map encW)),.p (.slice (b.map encW)),.p (.func g [])] (.p (.bool (withinO cf (sortO cf a) (sortO cf b)))) []:=by
 have hsa:=sortedW_spec hcg ho hcmp a ha
 have hsb:=sortedW_spec hcg ho hcmp b hb
 have hla:=sortO_len ho a
 have hlb:=sortO_len ho b
 generalize sortO cf a = A at *
 generalize sortO cf b = B at *
 apply deno_within_deno_Bad_fn
 simp [deno_within_deno_Bad]
 refine aCallW_of rfl rfl (valuesW_spec _) ?_
 simp
 refine aCallW_of rfl rfl hsb ?_
 simp
 refine aCallW_of rfl rfl (valuesW_spec _) ?_
 simp
 refine aCallW_of rfl rfl hsa ?_
 simp
 intro hml
 generalize hR:withinO cf A B = R
 refine loop_by (σ:=Nat × List (Int × Va)) (n:=0) (fun s=>[.p (.slice (s.2.map encW)),.p (.int .i64 s.1)]) (fun _=>[]) (fun s=>s.1 ≤ A.length ∧ s.2.length ≤ 1000000 ∧ withinO cf (A.drop s.1) s.2 = R) (fun s=>A.length - s.1) [] (0,B) (fun _=>rfl) ⟨rfl,rfl⟩ ⟨by simp,(show B.length ≤ 1000000 by omega),by simpa using hR⟩ (fun s Bk hs hBk=>?_)
 obtain ⟨i,q⟩:=s
 obtain ⟨h1,h1q,h2⟩:=hs
 simp only at h1 h2 h1q hBk
 simp [deno_within_deno_Bad_L1]
 refine ⟨fun hlt=>?_,fun hge=>?_⟩
 ·rw [List.drop_eq_getElem_cons hlt] at h2
  generalize hx:A[i] = x at *
  simp [hlt,hx,encW]
  refine loop_by (σ:=List (Int × Va)) (n:=1) (fun q=>[.p (.slice (q.map encW))]) (fun _=>[.box [.p (.int .i64 x.1),.p (.int .i64 x.2.k),.p (.int .i64 x.2.i),.p (.bool x.2.b),.p (.str x.2.s),.p (.slice (x.2.t.map encV))]]) (fun q=>q.length ≤ 1000000 ∧ withinO cf (x :: A.drop (i + 1)) q = R) (fun q=>q.length) [] q (fun _=>rfl) ⟨rfl,rfl⟩ ⟨h1q,h2⟩ (fun q Bk2 hq hBk2=>?_)
  obtain ⟨h3,h4⟩:=hq
  cases q with
  | nil =>
   rw [withinO_nil] at h4
   subst h4
   simp [deno_within_deno_Bad_L2,maxLen]
   exact gives_p rfl
  | cons y r =>
   have hcy:=hcmp y x
   simp only [encW] at hcy
   simp only [List.length_cons] at h3 hBk2
   have hsl:((encW y :: r.map encW).take (r.length + 1)).drop 1 = r.map encW:=by simp [List.take_of_length_le]
   simp [deno_within_deno_Bad_L2,encW]
   refine ⟨by unfold maxLen; omega, ?_⟩
   refine aCallT_of rfl hcy rfl ?_
   simp
   refine ⟨fun hlt0=>?_,fun hge0=>?_⟩
   ·rw [withinO_lt cf hlt0] at h4
    simp [aSliceSl,atSize,encW]
    refine ⟨by omega,fun hr=>?_, ?_⟩
    ·cases r with
     | nil=>simp at hr
     | cons z r'=>simp
    rw [List.take_of_length_le (by simp)]
    exact hBk2 r _ ⟨by omega,h4⟩ (by omega) (by simp) (by simp [Ob.below,AV.under1]) (by simp) (by simp [AV.under,AV.under1])
   ·rw [withinO_ge cf (by omega)] at h4
    refine ⟨by unfold maxLen; omega,fun h0=>by omega,fun _=>?_⟩
    refine aCallT_of rfl hcy rfl ?_
    simp
    refine ⟨fun hne=>gives_p ?_,fun he0=>?_⟩
    ·rw [← h4]; simp [hne]
    ·simp [aSliceSl,atSize,encW]
     refine ⟨by omega,fun hr=>?_, ?_⟩
     ·cases r with
      | nil=>simp at hr
      | cons z r'=>simp
     rw [List.take_of_length_le (by simp),IntWalk.i64_in _ (by omega)]
     refine hBk (i + 1,r) _ ⟨by simp only; omega,by simp only; omega, ?_⟩ (by simp only; omega) (by simp) (by simp) (by simp) (by simp [AV.under,AV.under1])
     rw [← h4]; simp [he0]
 ·have hd:A.drop i = []:=List.drop_of_length_le hge
  rw [hd] at h2
  exact gives_p (by rw [← h2]; rfl)
theorem withinS_drop {S Q:List (List Va)} {i:Nat} (h:i < S.length) (h':i < Q.length):withinS (S.drop i) (Q.drop i) = (withinO cmpV (sortO cmpV S[i]) (sortO cmpV Q[i]) && withinS (S.drop (i + 1)) (Q.drop (i + 1))):=by
 rw [List.drop_eq_getElem_cons h,List.drop_eq_getElem_cons h']
 simp [withinS]
theorem Within_spec (a b:OutD) (h1:a.sinks.length ≤ 1000000) (h2:∀ l ∈ a.sinks,l.length ≤ 1000000) (h3:a.bad.length ≤ 1000000) (k1:b.sinks.length ≤ 1000000) (k2:∀ l ∈ b.sinks,l.length ≤ 1000000) (k3:b.bad.length ≤ 1000000) :
  Abs.Fn Tryz.prog deno_Within_i [] [.p (encD a),.p (encD b)] (.p (.bool (withinD a b))) []:=by
 obtain ⟨S,B⟩:=a
 obtain ⟨Q,C⟩:=b
 simp only at h1 h2 h3 k1 k2 k3
 have hw:=withinW_spec (by kernel_rfl) ordW compareW_spec B C h3 k3
 generalize hR:withinD ⟨S,B⟩ ⟨Q,C⟩ = R
 unfold withinD at hR
 simp only at hR
 apply deno_Within_fn
 simp [deno_Within,encD]
 intro hm1 hm2
 refine ⟨fun hne=>gives_p ?_,fun heq=>?_⟩
 ·rw [← hR]; simp; omega
 have heq:S.length = Q.length:=by omega
 simp only [heq,decide_true,Bool.true_and] at hR
 intro _
 refine loop_by (σ:=Nat) (n:=2) (fun i=>[.p (.int .i64 i)]) (fun i=>[.box [.p (.slice (S.map encL)),.p (.slice (B.map encW))],.box [.p (.slice (Q.map encL)),.p (.slice (C.map encW))]]) (fun i=>i ≤ S.length ∧ withinS (S.drop i) (Q.drop i) = withinS S Q) (fun i=>S.length - i) [] 0 (fun _=>rfl) ⟨rfl,rfl⟩ (by simp) (fun i Bk hi hBk=>?_)
 obtain ⟨g1,g2⟩:=hi
 simp [deno_Within_L1]
 refine ⟨fun hlt=>?_,fun hge=>?_⟩
 ·have hlq:i < Q.length:=by omega
  have hv:=withinV_spec (by kernel_rfl) ordV Compare_spec S[i] Q[i] (h2 _ (List.getElem_mem hlt)) (k2 _ (List.getElem_mem hlq))
  rw [withinS_drop hlt hlq] at g2
  simp [hlt,hlq,encL]
  refine aCallW_of rfl rfl hv ?_
  simp
  refine ⟨fun hf=>gives_p ?_,fun ht=>?_⟩
  ·rw [← hR,← g2,hf]; simp
  ·rw [IntWalk.i64_in _ (by omega)]
   refine hBk (i + 1) _ ⟨by omega,by rw [← g2,ht]; simp⟩ (by omega) (by simp [encL]) (by simp [Ob.below,AV.under1]) (by simp) (by simp [AV.under,AV.under1])
 ·have e1:S.drop i = []:=List.drop_of_length_le hge
  rw [e1] at g2
  have g2:withinS S Q = true:=by rw [← g2]; rfl
  refine aCallW_of rfl rfl hw ?_
  exact gives_p (by rw [← hR,g2]; simp)
theorem equalV_spec {g:Nat} (hg:∀ x y,Abs.Fn Tryz.prog g [] [.p (encV x),.p (encV y)] (.p (.bool (decide (x = y)))) []) (a b:List (Va)):Abs.Fn Tryz.prog slices_EqualFunc_val_Value_val_Value_val_Value_val_Value_i [] [.p (.slice (a.map encV)),.p (.slice (b.map encV)),.p (.func g [])] (.p (.bool (decide (a = b)))) []:=by
 apply slices_EqualFunc_val_Value_val_Value_val_Value_val_Value_fn
 simp [slices_EqualFunc_val_Value_val_Value_val_Value_val_Value]
 intro _ _
 refine ⟨fun hne=>gives_p ?_,fun heq=>?_⟩
 ·simp; intro e; subst e; exact hne rfl
 intro _
 have heq:a.length = b.length:=by omega
 refine loop_by (σ:=Nat) (n:=0) (fun i=>[.p (.int .i64 i)]) (fun _=>[]) (fun i=>i ≤ a.length ∧ (a.drop i = b.drop i ↔ a = b)) (fun i=>a.length - i) [] 0 (fun _=>rfl) ⟨rfl,rfl⟩ (by simp) (fun i Bk hi hBk=>?_)
 obtain ⟨g1,g2⟩:=hi
 simp [slices_EqualFunc_val_Value_val_Value_val_Value_val_Value_L1]
 refine ⟨fun hlt=>?_,fun hge=>?_⟩
 ·have hlb:i < b.length:=by omega
  have hs:=hg a[i] b[i]
  rw [List.drop_eq_getElem_cons hlt,List.drop_eq_getElem_cons hlb,List.cons.injEq] at g2
  simp only [encV_eta] at hs
  simp [hlt,hlb]
  refine aCallW_of rfl rfl hs ?_
  simp
  refine ⟨fun hne=>gives_p ?_,fun he=>?_⟩
  ·have:a ≠ b:=fun e=>hne (g2.2 e).1
   simp [this]
  ·have hml:a.length ≤ maxLen:=by assumption
   simp only [maxLen] at hml
   rw [IntWalk.i64_in _ (by omega)]
   exact hBk (i + 1) _ ⟨by omega,by rw [← g2]; simp [he]⟩ (by omega) (by simp) (by simp) (by simp) (by simp [AV.under,AV.under1])
 ·have e1:a.drop i = []:=List.drop_of_length_le hge
  have e2:b.drop i = []:=List.drop_of_length_le (by omega)
  rw [e1,e2] at g2
  exact gives_p (by simp [g2.1 rfl])
theorem equalW_spec {g:Nat} (hg:∀ x y,Abs.Fn Tryz.prog g [] [.p (encW x),.p (encW y)] (.p (.bool (decide (x = y)))) []) (a b:List (Int × Va)):Abs.Fn Tryz.prog slices_EqualFunc_deno_Bad_deno_Bad_deno_Bad_deno_Bad_i [] [.p (.slice (a.map encW)),.p (.slice (b.map encW)),.p (.func g [])] (.p (.bool (decide (a = b)))) []:=by
 apply slices_EqualFunc_deno_Bad_deno_Bad_deno_Bad_deno_Bad_fn
 simp [slices_EqualFunc_deno_Bad_deno_Bad_deno_Bad_deno_Bad]
 intro _ _
 refine ⟨fun hne=>gives_p ?_,fun heq=>?_⟩
 ·simp; intro e; subst e; exact hne rfl
 intro _
 have heq:a.length = b.length:=by omega
 refine loop_by (σ:=Nat) (n:=0) (fun i=>[.p (.int .i64 i)]) (fun _=>[]) (fun i=>i ≤ a.length ∧ (a.drop i = b.drop i ↔ a = b)) (fun i=>a.length - i) [] 0 (fun _=>rfl) ⟨rfl,rfl⟩ (by simp) (fun i Bk hi hBk=>?_)
 obtain ⟨g1,g2⟩:=hi
 simp [slices_EqualFunc_deno_Bad_deno_Bad_deno_Bad_deno_Bad_L1]
 refine ⟨fun hlt=>?_,fun hge=>?_⟩
 ·have hlb:i < b.length:=by omega
  have hs:=hg a[i] b[i]
  rw [List.drop_eq_getElem_cons hlt,List.drop_eq_getElem_cons hlb,List.cons.injEq] at g2
  simp only [encW] at hs
  simp [hlt,hlb,encW]
  refine aCallW_of rfl rfl hs ?_
  simp
  refine ⟨fun hne=>gives_p ?_,fun he=>?_⟩
  ·have:a ≠ b:=fun e=>hne (g2.2 e).1
   simp [this]
  ·have hml:a.length ≤ maxLen:=by assumption
   simp only [maxLen] at hml
   rw [IntWalk.i64_in _ (by omega)]
   exact hBk (i + 1) _ ⟨by omega,by rw [← g2]; simp [he]⟩ (by omega) (by simp) (by simp) (by simp) (by simp [AV.under,AV.under1])
 ·have e1:a.drop i = []:=List.drop_of_length_le hge
  have e2:b.drop i = []:=List.drop_of_length_le (by omega)
  rw [e1,e2] at g2
  exact gives_p (by simp [g2.1 rfl])
theorem equalL_spec {g:Nat} (hg:∀ x y,Abs.Fn Tryz.prog g [] [.p (encL x),.p (encL y)] (.p (.bool (decide (x = y)))) []) (a b:List (List Va)):Abs.Fn Tryz.prog slices_EqualRows_val_Value_val_Value_val_Value_val_Value_i [] [.p (.slice (a.map encL)),.p (.slice (b.map encL)),.p (.func g [])] (.p (.bool (decide (a = b)))) []:=by
 apply slices_EqualRows_val_Value_val_Value_val_Value_val_Value_fn
 simp [slices_EqualRows_val_Value_val_Value_val_Value_val_Value]
 intro _ _
 refine ⟨fun hne=>gives_p ?_,fun heq=>?_⟩
 ·simp; intro e; subst e; exact hne rfl
 intro _
 have heq:a.length = b.length:=by omega
 refine loop_by (σ:=Nat) (n:=0) (fun i=>[.p (.int .i64 i)]) (fun _=>[]) (fun i=>i ≤ a.length ∧ (a.drop i = b.drop i ↔ a = b)) (fun i=>a.length - i) [] 0 (fun _=>rfl) ⟨rfl,rfl⟩ (by simp) (fun i Bk hi hBk=>?_)
 obtain ⟨g1,g2⟩:=hi
 simp [slices_EqualRows_val_Value_val_Value_val_Value_val_Value_L1]
 refine ⟨fun hlt=>?_,fun hge=>?_⟩
 ·have hlb:i < b.length:=by omega
  have hs:=hg a[i] b[i]
  rw [List.drop_eq_getElem_cons hlt,List.drop_eq_getElem_cons hlb,List.cons.injEq] at g2
  simp only [encL] at hs
  simp [hlt,hlb,encL]
  refine aCallW_of rfl rfl hs ?_
  simp
  refine ⟨fun hne=>gives_p ?_,fun he=>?_⟩
  ·have:a ≠ b:=fun e=>hne (g2.2 e).1
   simp [this]
  ·have hml:a.length ≤ maxLen:=by assumption
   simp only [maxLen] at hml
   rw [IntWalk.i64_in _ (by omega)]
   exact hBk (i + 1) _ ⟨by omega,by rw [← g2]; simp [he]⟩ (by omega) (by simp) (by simp) (by simp) (by simp [AV.under,AV.under1])
 ·have e1:a.drop i = []:=List.drop_of_length_le hge
  have e2:b.drop i = []:=List.drop_of_length_le (by omega)
  rw [e1,e2] at g2
  exact gives_p (by simp [g2.1 rfl])
theorem sameV_eq (x y:Va):Abs.Fn Tryz.prog val_Same_i [] [.p (encV x),.p (encV y)] (.p (.bool (decide (x = y)))) []:=by
 have:=Same_spec x y
 have e:decide (cmpV x y = 0) = decide (x = y):=decide_eq_decide.2 (cmpV_zero x y)
 rw [e] at this
 exact this
theorem Same1_spec (x y:List Va):Abs.Fn Tryz.prog deno_Same_1_i [] [.p (encL x),.p (encL y)] (.p (.bool (decide (x = y)))) []:=by
 apply deno_Same_1_fn
 simp [deno_Same_1,encL]
 refine aCallW_of rfl rfl (equalV_spec sameV_eq x y) ?_
 exact gives_p rfl
theorem Same2_spec (x y:Int × Va):Abs.Fn Tryz.prog deno_Same_2_i [] [.p (encW x),.p (encW y)] (.p (.bool (decide (x = y)))) []:=by
 have hc:=compareW_spec x y
 have hz:=ordW.zero x y
 simp only [encW] at hc
 apply deno_Same_2_fn
 simp [deno_Same_2,encW]
 refine aCallW_of rfl rfl hc ?_
 simp
 refine gives_p ?_
 have e:decide (cmpW x y = 0) = decide (x = y):=decide_eq_decide.2 hz
 rw [← e]
theorem DSame_spec (a b:OutD):Abs.Fn Tryz.prog deno_Same_i [] [.p (encD a),.p (encD b)] (.p (.bool (sameD a b))) []:=by
 obtain ⟨S,B⟩:=a
 obtain ⟨Q,C⟩:=b
 apply deno_Same_fn
 simp [deno_Same,encD]
 refine aCallW_of rfl rfl (equalL_spec Same1_spec S Q) ?_
 simp
 refine aMerge_intro (decide (S = Q) && decide (B = C)) (fun h=>?_) ?_
 ·refine aCallW_of rfl rfl (equalW_spec Same2_spec B C) ?_
  simp
  intro _
  simpa using h
 ·exact gives_p (by simp [sameD])
end Go.Proofs.YtdmgbhamigegfaaGreatDoor
end
