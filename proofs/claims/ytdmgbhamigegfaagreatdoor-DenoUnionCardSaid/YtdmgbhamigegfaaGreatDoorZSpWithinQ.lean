/- slices.Values, slices.SortedFunc, deno.compare, deno.Sorted over trees. -/
import Derived.Test.YtdmgbhamigegfaaGreatDoorZSpSeqQ
import Derived.Test.YtdmgbhamigegfaaGreatDoorZSortK
import Derived.Test.YtdmgbhamigegfaaGreatDoorZLaidS
import Derived.Test.YtdmgbhamigegfaaGreatDoorZSpValBQ
import Derived.Test.YtdmgbhamigegfaaGreatDoorZPuDeno
import Derived.Test.YtdmgbhamigegfaaGreatDoorA3

section
/- slices.Values, slices.SortedFunc, deno.compare, deno.Sorted over trees. -/
set_option linter.unusedSimpArgs false
set_option linter.unusedVariables false
namespace Go.Proofs.YtdmgbhamigegfaaGreatDoor
open Go Go.Abs
attribute [local irreducible] Abs.Fn
theorem zw6 {n:Nat} {v r:AV} {H Hout:List Ob} {id ver s:Nat} {es:List T} (ho:H[id]? = some (.frow ver s es)) (h:Gives n (v.unm id ver es) H r Hout):Gives n v H r Hout :=
 fun w G u hi hr=>h w G u hi (zGc (Grow.refl G) (fun s off len u r hle=>zt0 hi ho r hle) hr)
theorem zDV (x:Va):∃ cs,encV x=.agg cs∧cs.length=5:=by cases x; exact ⟨_,rfl,rfl⟩
theorem zDW (x:Int×Va):∃ cs,encW x=.agg cs∧cs.length=6:=⟨_,rfl,rfl⟩
theorem znO (es:List T):Abs.Fn Tryz.prog zaa [] [.p (.slice es)] (.p (.func zY [.imm [.slice es] 0])) []:=by
 apply zf6
 simp [zbq]
 exact zg rfl
theorem znP (es:List T):Abs.Fn Tryz.prog zac [] [.p (.slice es)] (.p (.func z8 [.imm [.slice es] 0])) []:=by
 apply zgX
 simp [zbF]
 exact zg rfl
theorem znK {g:Nat} (hcg:zcD Tryz.prog g=true) {cf:Va→Va→Int} (ho:Ordr cf) (hcmp:∀ x y,Abs.Fn Tryz.prog g [] [.p (encV x),.p (encV y)] (.p (.int .i64 (cf x y))) []) (l:List Va) (hl:l.length≤1000000) :
  Abs.Fn Tryz.prog zay [] [.p (.func zY [.imm [.slice (l.map encV)] 0]),.p (.func g [])] (.p (.slice ((sortO cf l).map encV))) []:=by
 have h1:=zya (es:=l.map encV) (by simpa using hl) (fun e he=>by obtain ⟨x,_,rfl⟩:=List.mem_map.1 he; exact zDV x)
 have h2:Abs.Fn Tryz.prog zcc [.mrow 0 5 (l.map encV)] [.msl 0 0 5 0 l.length,.p (.func g [])] (.tup []) [.frow 0 5 ((sortO cf l).map encV)] :=
  zEc (by decide) zDV ho Tryz.sortV Tryz.isAgg27 Tryz.sizeOf27 (by kernel_rfl) hcg hcmp l hl
 have hsl:=zdG ho l
 rw [List.length_map] at h1
 apply ziI
 simp [zcr]
 refine zo rfl rfl h1 ?_
 simp
 refine zqk [0] h2 rfl (by simp [renF]) (by simp) (by simp [zcG,renF]) (by simp [AV.under,AV.under1]) (by simp [Ob.below]) ?_
 simp [renF,zfH,zcK]
 refine zw6 (id:=0) rfl ?_
 simp [AV.unm,AV.unm1,hsl,List.take_of_length_le (show ((sortO cf l).map encV).length≤l.length by simp [hsl])]
 exact zg rfl
theorem znL {g:Nat} (hcg:zcD Tryz.prog g=true) {cf:Int×Va→Int×Va→Int} (ho:Ordr cf) (hcmp:∀ x y,Abs.Fn Tryz.prog g [] [.p (encW x),.p (encW y)] (.p (.int .i64 (cf x y))) []) (l:List (Int×Va)) (hl:l.length≤1000000) :
  Abs.Fn Tryz.prog zaI [] [.p (.func z8 [.imm [.slice (l.map encW)] 0]),.p (.func g [])] (.p (.slice ((sortO cf l).map encW))) []:=by
 have h1:=zyb (es:=l.map encW) (by simpa using hl) (fun e he=>by obtain ⟨x,_,rfl⟩:=List.mem_map.1 he; exact zDW x)
 have h2:Abs.Fn Tryz.prog zcx [.mrow 0 6 (l.map encW)] [.msl 0 0 6 0 l.length,.p (.func g [])] (.tup []) [.frow 0 6 ((sortO cf l).map encW)] :=
  zEc (by decide) zDW ho Tryz.sortW Tryz.isAgg51 Tryz.sizeOf51 (by kernel_rfl) hcg hcmp l hl
 have hsl:=zdG ho l
 rw [List.length_map] at h1
 apply zjq
 simp [zcM]
 refine zo rfl rfl h1 ?_
 simp
 refine zqk [0] h2 rfl (by simp [renF]) (by simp) (by simp [zcG,renF]) (by simp [AV.under,AV.under1]) (by simp [Ob.below]) ?_
 simp [renF,zfH,zcK]
 refine zw6 (id:=0) rfl ?_
 simp [AV.unm,AV.unm1,hsl,List.take_of_length_le (show ((sortO cf l).map encW).length≤l.length by simp [hsl])]
 exact zg rfl
theorem zDX (n:Int) (v:Va):∃ a b c d e,encV v=.agg [a,b,c,d,e]∧encW (n,v)=.agg [.int .i64 n,a,b,c,d,e]:=by
 cases v; exact ⟨_,_,_,_,_,rfl,by simp [encW,zA8,Va.k,Va.i,Va.b,Va.s,Va.t]⟩
theorem zlM (x y:Int×Va):Abs.Fn Tryz.prog zeO [] [.p (encW x),.p (encW y)] (.p (.int .i64 (cmpW x y))) []:=by
 obtain ⟨n,v⟩:=x
 obtain ⟨m,u⟩:=y
 have hc:=zfn v u
 have hr:cmpW (n,v) (m,u)=lexI (cmpI n m) (cmpV v u):=rfl
 rw [hr]
 obtain ⟨a1,a2,a3,a4,a5,e1,e2⟩:=zDX n v
 obtain ⟨b1,b2,b3,b4,b5,e3,e4⟩:=zDX m u
 rw [e1,e3] at hc
 rw [e2,e4]
 apply zvm
 simp [zm6]
 refine zF rfl (zoR n m) rfl ?_
 simp
 refine zF rfl hc rfl ?_
 simp
 refine zF rfl (by simpa using zD5 [cmpI n m,cmpV v u]) rfl ?_
 simp
 exact zg (by simp only [orI,lexI]; grind)
theorem zCi (es:List T):Abs.Fn Tryz.prog zbC [] [.p (.slice es)] (.p (.slice es)) []:=by
 apply zhR
 simp [zb1]
 intro _
 simp [zbU,zih]
 exact zj (by simp [AV.pur,List.take_of_length_le])
theorem zAK (o:OutD) (h1:o.sinks.length≤1000000) (h2:∀ l∈o.sinks,l.length≤1000000) (h3:o.bad.length≤1000000):Abs.Fn Tryz.prog zlP [] [.p (encD o)] (.p (encD (sortD o))) []:=by
 obtain ⟨S,B⟩:=o
 simp only at h1 h2 h3
 have hb:=znL (by kernel_rfl) ordW zlM B h3
 have hM:∀ i (hi:i < S.length),((sortD ⟨S,B⟩).sinks.map encL)[i]? = some (.slice ((sortO cmpV S[i]).map encV)):=fun i hi=>by simp [sortD,encL,hi]
 have hMl:((sortD ⟨S,B⟩).sinks.map encL).length=S.length:=by simp [sortD]
 have hMB:(sortD ⟨S,B⟩).bad=sortO cmpW B:=rfl
 have hM1:∀ e∈(sortD ⟨S,B⟩).sinks.map encL,e.cells.length=1:=fun e he=>by obtain ⟨x,_,rfl⟩:=List.mem_map.1 he; rfl
 simp only [encD]
 rw [hMB]
 generalize (sortD ⟨S,B⟩).sinks.map encL=M at *
 clear hMB
 apply zwj
 simp [zo2]
 intro hml
 refine zA (σ:=Nat) (n:=4) (fun i=>[.p (.int .i64 i)]) (fun i=>[.box [.p (.slice (S.map encL)),.p (.slice (B.map encW))],.box [.full [],.full []],.box [.own 3 (M.take i),.full []],.row i 1]) (fun i=>i≤S.length) (fun i=>S.length - i) [.cell 2 0 1] 0 (fun _=>rfl) ⟨rfl,by simp⟩ (by simp) (fun i Bk hi hBk=>?_)
 simp [zo3]
 refine ⟨fun hlt=>?_,fun hge=>?_⟩
 ·have hs:=znK (by kernel_rfl) ordV zfn S[i] (h2 _ (List.getElem_mem hlt))
  have hsn:=zag (l:=M) (i:=i) (by omega)
  have hMi:=hM i hlt
  rw [List.getElem?_eq_getElem (by omega),Option.some.injEq] at hMi
  rw [hMi] at hsn
  simp [hlt,encL]
  refine zF rfl (znO _) rfl ?_
  simp
  refine zF rfl hs rfl ?_
  simp
  refine zF rfl (zv8 _) rfl ?_
  simp
  refine ⟨by omega,⟨fun e he=>hM1 e (List.mem_of_mem_take he),by simp,by simp; omega⟩, ?_⟩
  rw [IntWalk.i64_in _ (by omega),hsn]
  exact hBk (i + 1) _ (by omega) (by omega) (by simp [encL]) (by simp [Ob.below,AV.under1]) (by simp) (by simp [AV.under,AV.under1])
 ·have:i=S.length:=by omega
  subst this
  rw [List.take_of_length_le (by omega)]
  refine zo rfl rfl (znP _) ?_
  simp
  refine zo rfl rfl hb ?_
  simp
  refine zo rfl rfl (zCi _) ?_
  simp
  exact zj (by simp [AV.pur,AV.toT,allT,AV.cellT])
end Go.Proofs.YtdmgbhamigegfaaGreatDoor
end

section
/- deno.within, deno.Within, deno.Same over trees. -/
set_option linter.unusedSimpArgs false
set_option linter.unusedVariables false
namespace Go.Proofs.YtdmgbhamigegfaaGreatDoor
open Go Go.Abs
attribute [local irreducible] Abs.Fn
theorem zvf {α:Type} (c:α→α→Int) (x:α) (r:List α):zce c (x::r) []=false:=by simp [zce]
theorem zx8 {α:Type} (c:α→α→Int) {x y:α} {r q:List α} (h:c y x < 0):zce c (x::r) (y::q)=zce c (x::r) q:=by simp [zce,h]
theorem zx7 {α:Type} (c:α→α→Int) {x y:α} {r q:List α} (h:¬ c y x < 0):zce c (x::r) (y::q)=(decide (c y x=0) && zce c r q):=by simp [zce,List.dropWhile,h]
theorem zAD {g:Nat} (hcg:zcD Tryz.prog g=true) {cf:Va→Va→Int} (ho:Ordr cf) (hcmp:∀ x y,Abs.Fn Tryz.prog g [] [.p (encV x),.p (encV y)] (.p (.int .i64 (cf x y))) []) (a b:List (Va)) (ha:a.length≤1000000) (hb:b.length≤1000000) :
  Abs.Fn Tryz.prog zdu [] [.p (.slice (a.map encV)),.p (.slice (b.map encV)),.p (.func g [])] (.p (.bool (zce cf (sortO cf a) (sortO cf b)))) []:=by
 have hsa:=znK hcg ho hcmp a ha
 have hsb:=znK hcg ho hcmp b hb
 have hla:=zdG ho a
 have hlb:=zdG ho b
 generalize sortO cf a=A at *
 generalize sortO cf b=B at *
 apply zlR
 simp [zej]
 refine zo rfl rfl (znO _) ?_
 simp
 refine zo rfl rfl hsb ?_
 simp
 refine zo rfl rfl (znO _) ?_
 simp
 refine zo rfl rfl hsa ?_
 simp
 intro hml
 generalize hR:zce cf A B=R
 refine zA (σ:=Nat×List (Va)) (n:=0) (fun s=>[.p (.slice (s.2.map encV)),.p (.int .i64 s.1)]) (fun _=>[]) (fun s=>s.1≤A.length∧s.2.length≤1000000∧zce cf (A.drop s.1) s.2=R) (fun s=>A.length - s.1) [] (0,B) (fun _=>rfl) ⟨rfl,rfl⟩ ⟨by simp,(show B.length≤1000000 by omega),by simpa using hR⟩ (fun s Bk hs hBk=>?_)
 obtain ⟨i,q⟩:=s
 obtain ⟨h1,h1q,h2⟩:=hs
 simp only at h1 h2 h1q hBk
 simp [zga]
 refine ⟨fun hlt=>?_,fun hge=>?_⟩
 ·rw [List.drop_eq_getElem_cons hlt] at h2
  generalize hx:A[i]=x at *
  simp [hlt,hx]
  refine zA (σ:=List (Va)) (n:=1) (fun q=>[.p (.slice (q.map encV))]) (fun _=>[.box [.p (.int .i64 x.k),.p (.int .i64 x.i),.p (.bool x.b),.p (.str x.s),.p (.slice (x.t.map encV))]]) (fun q=>q.length≤1000000∧zce cf (x::A.drop (i + 1)) q=R) (fun q=>q.length) [] q (fun _=>rfl) ⟨rfl,rfl⟩ ⟨h1q,h2⟩ (fun q Bk2 hq hBk2=>?_)
  obtain ⟨h3,h4⟩:=hq
  cases q with
  | nil =>
   rw [zvf] at h4
   subst h4
   simp [zc9,maxLen]
   exact zg rfl
  | cons y r =>
   have hcy:=hcmp y x
   simp only [zd7] at hcy
   simp only [List.length_cons] at h3 hBk2
   have hsl:((encV y::r.map encV).take (r.length + 1)).drop 1=r.map encV:=by simp [List.take_of_length_le]
   simp [zc9]
   refine ⟨by unfold maxLen; omega, ?_⟩
   refine zF rfl hcy rfl ?_
   simp
   refine ⟨fun hlt0=>?_,fun hge0=>?_⟩
   ·rw [zx8 cf hlt0] at h4
    simp [zbU,zih]
    refine ⟨by omega,fun hr=>?_, ?_⟩
    ·cases r with
     | nil=>simp at hr
     | cons z r'=>simp
    rw [List.take_of_length_le (by simp)]
    exact hBk2 r _ ⟨by omega,h4⟩ (by omega) (by simp) (by simp [Ob.below,AV.under1]) (by simp) (by simp [AV.under,AV.under1])
   ·rw [zx7 cf (by omega)] at h4
    refine ⟨by unfold maxLen; omega,fun h0=>by omega,fun _=>?_⟩
    refine zF rfl hcy rfl ?_
    simp
    refine ⟨fun hne=>zg ?_,fun he0=>?_⟩
    ·rw [← h4]; simp [hne]
    ·simp [zbU,zih]
     refine ⟨by omega,fun hr=>?_, ?_⟩
     ·cases r with
      | nil=>simp at hr
      | cons z r'=>simp
     rw [List.take_of_length_le (by simp),IntWalk.i64_in _ (by omega)]
     refine hBk (i + 1,r) _ ⟨by simp only; omega,by simp only; omega, ?_⟩ (by simp only; omega) (by simp) (by simp) (by simp) (by simp [AV.under,AV.under1])
     rw [← h4]; simp [he0]
 ·have hd:A.drop i=[]:=List.drop_of_length_le hge
  rw [hd] at h2
  exact zg (by rw [← h2]; rfl)
theorem zAE {g:Nat} (hcg:zcD Tryz.prog g=true) {cf:Int×Va→Int×Va→Int} (ho:Ordr cf) (hcmp:∀ x y,Abs.Fn Tryz.prog g [] [.p (encW x),.p (encW y)] (.p (.int .i64 (cf x y))) []) (a b:List (Int×Va)) (ha:a.length≤1000000) (hb:b.length≤1000000) :
  Abs.Fn Tryz.prog zdK [] [.p (.slice (a.map encW)),.p (.slice (b.map encW)),.p (.func g [])] (.p (.bool (zce cf (sortO cf a) (sortO cf b)))) []:=by
 have hsa:=znL hcg ho hcmp a ha
 have hsb:=znL hcg ho hcmp b hb
 have hla:=zdG ho a
 have hlb:=zdG ho b
 generalize sortO cf a=A at *
 generalize sortO cf b=B at *
 apply zmn
 simp [zeP]
 refine zo rfl rfl (znP _) ?_
 simp
 refine zo rfl rfl hsb ?_
 simp
 refine zo rfl rfl (znP _) ?_
 simp
 refine zo rfl rfl hsa ?_
 simp
 intro hml
 generalize hR:zce cf A B=R
 refine zA (σ:=Nat×List (Int×Va)) (n:=0) (fun s=>[.p (.slice (s.2.map encW)),.p (.int .i64 s.1)]) (fun _=>[]) (fun s=>s.1≤A.length∧s.2.length≤1000000∧zce cf (A.drop s.1) s.2=R) (fun s=>A.length - s.1) [] (0,B) (fun _=>rfl) ⟨rfl,rfl⟩ ⟨by simp,(show B.length≤1000000 by omega),by simpa using hR⟩ (fun s Bk hs hBk=>?_)
 obtain ⟨i,q⟩:=s
 obtain ⟨h1,h1q,h2⟩:=hs
 simp only at h1 h2 h1q hBk
 simp [zg3]
 refine ⟨fun hlt=>?_,fun hge=>?_⟩
 ·rw [List.drop_eq_getElem_cons hlt] at h2
  generalize hx:A[i]=x at *
  simp [hlt,hx,encW]
  refine zA (σ:=List (Int×Va)) (n:=1) (fun q=>[.p (.slice (q.map encW))]) (fun _=>[.box [.p (.int .i64 x.1),.p (.int .i64 x.2.k),.p (.int .i64 x.2.i),.p (.bool x.2.b),.p (.str x.2.s),.p (.slice (x.2.t.map encV))]]) (fun q=>q.length≤1000000∧zce cf (x::A.drop (i + 1)) q=R) (fun q=>q.length) [] q (fun _=>rfl) ⟨rfl,rfl⟩ ⟨h1q,h2⟩ (fun q Bk2 hq hBk2=>?_)
  obtain ⟨h3,h4⟩:=hq
  cases q with
  | nil =>
   rw [zvf] at h4
   subst h4
   simp [zdt,maxLen]
   exact zg rfl
  | cons y r =>
   have hcy:=hcmp y x
   simp only [encW] at hcy
   simp only [List.length_cons] at h3 hBk2
   have hsl:((encW y::r.map encW).take (r.length + 1)).drop 1=r.map encW:=by simp [List.take_of_length_le]
   simp [zdt,encW]
   refine ⟨by unfold maxLen; omega, ?_⟩
   refine zF rfl hcy rfl ?_
   simp
   refine ⟨fun hlt0=>?_,fun hge0=>?_⟩
   ·rw [zx8 cf hlt0] at h4
    simp [zbU,zih,encW]
    refine ⟨by omega,fun hr=>?_, ?_⟩
    ·cases r with
     | nil=>simp at hr
     | cons z r'=>simp
    rw [List.take_of_length_le (by simp)]
    exact hBk2 r _ ⟨by omega,h4⟩ (by omega) (by simp) (by simp [Ob.below,AV.under1]) (by simp) (by simp [AV.under,AV.under1])
   ·rw [zx7 cf (by omega)] at h4
    refine ⟨by unfold maxLen; omega,fun h0=>by omega,fun _=>?_⟩
    refine zF rfl hcy rfl ?_
    simp
    refine ⟨fun hne=>zg ?_,fun he0=>?_⟩
    ·rw [← h4]; simp [hne]
    ·simp [zbU,zih,encW]
     refine ⟨by omega,fun hr=>?_, ?_⟩
     ·cases r with
      | nil=>simp at hr
      | cons z r'=>simp
     rw [List.take_of_length_le (by simp),IntWalk.i64_in _ (by omega)]
     refine hBk (i + 1,r) _ ⟨by simp only; omega,by simp only; omega, ?_⟩ (by simp only; omega) (by simp) (by simp) (by simp) (by simp [AV.under,AV.under1])
     rw [← h4]; simp [he0]
 ·have hd:A.drop i=[]:=List.drop_of_length_le hge
  rw [hd] at h2
  exact zg (by rw [← h2]; rfl)
theorem zAC {S Q:List (List Va)} {i:Nat} (h:i < S.length) (h':i < Q.length):zlG (S.drop i) (Q.drop i)=(zce cmpV (sortO cmpV S[i]) (sortO cmpV Q[i]) && zlG (S.drop (i + 1)) (Q.drop (i + 1))):=by
 rw [List.drop_eq_getElem_cons h,List.drop_eq_getElem_cons h']
 simp [zlG]
theorem zuG (a b:OutD) (h1:a.sinks.length≤1000000) (h2:∀ l∈a.sinks,l.length≤1000000) (h3:a.bad.length≤1000000) (k1:b.sinks.length≤1000000) (k2:∀ l∈b.sinks,l.length≤1000000) (k3:b.bad.length≤1000000) :
  Abs.Fn Tryz.prog ziJ [] [.p (encD a),.p (encD b)] (.p (.bool (ztA a b))) []:=by
 obtain ⟨S,B⟩:=a
 obtain ⟨Q,C⟩:=b
 simp only at h1 h2 h3 k1 k2 k3
 have hw:=zAE (by kernel_rfl) ordW zlM B C h3 k3
 generalize hR:ztA ⟨S,B⟩ ⟨Q,C⟩=R
 unfold ztA at hR
 simp only at hR
 apply zwl
 simp [zo6,encD]
 intro hm1 hm2
 refine ⟨fun hne=>zg ?_,fun heq=>?_⟩
 ·rw [← hR]; simp; omega
 have heq:S.length=Q.length:=by omega
 simp only [heq,decide_true,Bool.true_and] at hR
 intro _
 refine zA (σ:=Nat) (n:=2) (fun i=>[.p (.int .i64 i)]) (fun i=>[.box [.p (.slice (S.map encL)),.p (.slice (B.map encW))],.box [.p (.slice (Q.map encL)),.p (.slice (C.map encW))]]) (fun i=>i≤S.length∧zlG (S.drop i) (Q.drop i)=zlG S Q) (fun i=>S.length - i) [] 0 (fun _=>rfl) ⟨rfl,rfl⟩ (by simp) (fun i Bk hi hBk=>?_)
 obtain ⟨g1,g2⟩:=hi
 simp [zo7]
 refine ⟨fun hlt=>?_,fun hge=>?_⟩
 ·have hlq:i < Q.length:=by omega
  have hv:=zAD (by kernel_rfl) ordV zfn S[i] Q[i] (h2 _ (List.getElem_mem hlt)) (k2 _ (List.getElem_mem hlq))
  rw [zAC hlt hlq] at g2
  simp [hlt,hlq,encL]
  refine zo rfl rfl hv ?_
  simp
  refine ⟨fun hf=>zg ?_,fun ht=>?_⟩
  ·rw [← hR,← g2,hf]; simp
  ·rw [IntWalk.i64_in _ (by omega)]
   refine hBk (i + 1) _ ⟨by omega,by rw [← g2,ht]; simp⟩ (by omega) (by simp [encL]) (by simp [Ob.below,AV.under1]) (by simp) (by simp [AV.under,AV.under1])
 ·have e1:S.drop i=[]:=List.drop_of_length_le hge
  rw [e1] at g2
  have g2:zlG S Q=true:=by rw [← g2]; rfl
  refine zo rfl rfl hw ?_
  exact zg (by rw [← hR,g2]; simp)
theorem zBc {g:Nat} (hg:∀ x y,Abs.Fn Tryz.prog g [] [.p (encV x),.p (encV y)] (.p (.bool (decide (x=y)))) []) (a b:List (Va)):Abs.Fn Tryz.prog zS [] [.p (.slice (a.map encV)),.p (.slice (b.map encV)),.p (.func g [])] (.p (.bool (decide (a=b)))) []:=by
 apply zbL
 simp [zU]
 intro _ _
 refine ⟨fun hne=>zg ?_,fun heq=>?_⟩
 ·simp; intro e; subst e; exact hne rfl
 intro _
 have heq:a.length=b.length:=by omega
 refine zA (σ:=Nat) (n:=0) (fun i=>[.p (.int .i64 i)]) (fun _=>[]) (fun i=>i≤a.length∧(a.drop i=b.drop i↔a=b)) (fun i=>a.length - i) [] 0 (fun _=>rfl) ⟨rfl,rfl⟩ (by simp) (fun i Bk hi hBk=>?_)
 obtain ⟨g1,g2⟩:=hi
 simp [zao]
 refine ⟨fun hlt=>?_,fun hge=>?_⟩
 ·have hlb:i < b.length:=by omega
  have hs:=hg a[i] b[i]
  rw [List.drop_eq_getElem_cons hlt,List.drop_eq_getElem_cons hlb,List.cons.injEq] at g2
  simp only [zd7] at hs
  simp [hlt,hlb]
  refine zo rfl rfl hs ?_
  simp
  refine ⟨fun hne=>zg ?_,fun he=>?_⟩
  ·have:a≠b:=fun e=>hne (g2.2 e).1
   simp [this]
  ·have hml:a.length≤maxLen:=by assumption
   simp only [maxLen] at hml
   rw [IntWalk.i64_in _ (by omega)]
   exact hBk (i + 1) _ ⟨by omega,by rw [← g2]; simp [he]⟩ (by omega) (by simp) (by simp) (by simp) (by simp [AV.under,AV.under1])
 ·have e1:a.drop i=[]:=List.drop_of_length_le hge
  have e2:b.drop i=[]:=List.drop_of_length_le (by omega)
  rw [e1,e2] at g2
  exact zg (by simp [g2.1 rfl])
theorem zBd {g:Nat} (hg:∀ x y,Abs.Fn Tryz.prog g [] [.p (encW x),.p (encW y)] (.p (.bool (decide (x=y)))) []) (a b:List (Int×Va)):Abs.Fn Tryz.prog zZ [] [.p (.slice (a.map encW)),.p (.slice (b.map encW)),.p (.func g [])] (.p (.bool (decide (a=b)))) []:=by
 apply zb7
 simp [z6]
 intro _ _
 refine ⟨fun hne=>zg ?_,fun heq=>?_⟩
 ·simp; intro e; subst e; exact hne rfl
 intro _
 have heq:a.length=b.length:=by omega
 refine zA (σ:=Nat) (n:=0) (fun i=>[.p (.int .i64 i)]) (fun _=>[]) (fun i=>i≤a.length∧(a.drop i=b.drop i↔a=b)) (fun i=>a.length - i) [] 0 (fun _=>rfl) ⟨rfl,rfl⟩ (by simp) (fun i Bk hi hBk=>?_)
 obtain ⟨g1,g2⟩:=hi
 simp [zaE]
 refine ⟨fun hlt=>?_,fun hge=>?_⟩
 ·have hlb:i < b.length:=by omega
  have hs:=hg a[i] b[i]
  rw [List.drop_eq_getElem_cons hlt,List.drop_eq_getElem_cons hlb,List.cons.injEq] at g2
  simp only [encW] at hs
  simp [hlt,hlb,encW]
  refine zo rfl rfl hs ?_
  simp
  refine ⟨fun hne=>zg ?_,fun he=>?_⟩
  ·have:a≠b:=fun e=>hne (g2.2 e).1
   simp [this]
  ·have hml:a.length≤maxLen:=by assumption
   simp only [maxLen] at hml
   rw [IntWalk.i64_in _ (by omega)]
   exact hBk (i + 1) _ ⟨by omega,by rw [← g2]; simp [he]⟩ (by omega) (by simp) (by simp) (by simp) (by simp [AV.under,AV.under1])
 ·have e1:a.drop i=[]:=List.drop_of_length_le hge
  have e2:b.drop i=[]:=List.drop_of_length_le (by omega)
  rw [e1,e2] at g2
  exact zg (by simp [g2.1 rfl])
theorem zBb {g:Nat} (hg:∀ x y,Abs.Fn Tryz.prog g [] [.p (encL x),.p (encL y)] (.p (.bool (decide (x=y)))) []) (a b:List (List Va)):Abs.Fn Tryz.prog zT [] [.p (.slice (a.map encL)),.p (.slice (b.map encL)),.p (.func g [])] (.p (.bool (decide (a=b)))) []:=by
 apply zbN
 simp [zV]
 intro _ _
 refine ⟨fun hne=>zg ?_,fun heq=>?_⟩
 ·simp; intro e; subst e; exact hne rfl
 intro _
 have heq:a.length=b.length:=by omega
 refine zA (σ:=Nat) (n:=0) (fun i=>[.p (.int .i64 i)]) (fun _=>[]) (fun i=>i≤a.length∧(a.drop i=b.drop i↔a=b)) (fun i=>a.length - i) [] 0 (fun _=>rfl) ⟨rfl,rfl⟩ (by simp) (fun i Bk hi hBk=>?_)
 obtain ⟨g1,g2⟩:=hi
 simp [zap]
 refine ⟨fun hlt=>?_,fun hge=>?_⟩
 ·have hlb:i < b.length:=by omega
  have hs:=hg a[i] b[i]
  rw [List.drop_eq_getElem_cons hlt,List.drop_eq_getElem_cons hlb,List.cons.injEq] at g2
  simp only [encL] at hs
  simp [hlt,hlb,encL]
  refine zo rfl rfl hs ?_
  simp
  refine ⟨fun hne=>zg ?_,fun he=>?_⟩
  ·have:a≠b:=fun e=>hne (g2.2 e).1
   simp [this]
  ·have hml:a.length≤maxLen:=by assumption
   simp only [maxLen] at hml
   rw [IntWalk.i64_in _ (by omega)]
   exact hBk (i + 1) _ ⟨by omega,by rw [← g2]; simp [he]⟩ (by omega) (by simp) (by simp) (by simp) (by simp [AV.under,AV.under1])
 ·have e1:a.drop i=[]:=List.drop_of_length_le hge
  have e2:b.drop i=[]:=List.drop_of_length_le (by omega)
  rw [e1,e2] at g2
  exact zg (by simp [g2.1 rfl])
theorem zF5 (x y:Va):Abs.Fn Tryz.prog zgZ [] [.p (encV x),.p (encV y)] (.p (.bool (decide (x=y)))) []:=by
 have:=zcU x y
 have e:decide (cmpV x y=0)=decide (x=y):=decide_eq_decide.2 (zfp x y)
 rw [e] at this
 exact this
theorem zCn (x y:List Va):Abs.Fn Tryz.prog zlN [] [.p (encL x),.p (encL y)] (.p (.bool (decide (x=y)))) []:=by
 apply zwf
 simp [zo0,encL]
 refine zo rfl rfl (zBc zF5 x y) ?_
 exact zg rfl
theorem zCo (x y:Int×Va):Abs.Fn Tryz.prog zlO [] [.p (encW x),.p (encW y)] (.p (.bool (decide (x=y)))) []:=by
 have hc:=zlM x y
 have hz:=ordW.zero x y
 simp only [encW] at hc
 apply zwh
 simp [zo1,encW]
 refine zo rfl rfl hc ?_
 simp
 refine zg ?_
 have e:decide (cmpW x y=0)=decide (x=y):=decide_eq_decide.2 hz
 rw [← e]
theorem zvA (a b:OutD):Abs.Fn Tryz.prog zlj [] [.p (encD a),.p (encD b)] (.p (.bool (sameD a b))) []:=by
 obtain ⟨S,B⟩:=a
 obtain ⟨Q,C⟩:=b
 apply zzw
 simp [ztN,encD]
 refine zo rfl rfl (zBb zCn S Q) ?_
 simp
 refine zz (decide (S=Q) && decide (B=C)) (fun h=>?_) ?_
 ·refine zo rfl rfl (zBd zCo B C) ?_
  simp
  intro _
  simpa using h
 ·exact zg (by simp [sameD])
end Go.Proofs.YtdmgbhamigegfaaGreatDoor
end
