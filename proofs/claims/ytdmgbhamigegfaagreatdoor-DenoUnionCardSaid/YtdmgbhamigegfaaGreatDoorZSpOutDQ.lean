/- The objects of a front; what an operator that goes by keys wants. -/
import Derived.Test.YtdmgbhamigegfaaGreatDoorZPuDeno
import Derived.Test.YtdmgbhamigegfaaGreatDoorZSpEvalCQ
import Derived.Test.YtdmgbhamigegfaaGreatDoorZSpRowIQ
import Derived.Test.YtdmgbhamigegfaaGreatDoorZSpRepQ
import Derived.Test.YtdmgbhamigegfaaGreatDoorS1
import Derived.Test.YtdmgbhamigegfaaGreatDoorZSpOfAllQ
import Derived.Test.YtdmgbhamigegfaaGreatDoorZSpValBQ
import Derived.Test.YtdmgbhamigegfaaGreatDoorS2

section
/- The objects of a front; what an operator that goes by keys wants. -/
set_option linter.unusedSimpArgs false
set_option linter.unusedVariables false
namespace Go.Proofs.YtdmgbhamigegfaaGreatDoor
open Go Go.Abs
abbrev frH (g:List Nd) (outs:List T) (no:Nat) (bads:List (Int×Va)) (last:Bool):List Ob:=[.box [.p (.slice (g.map encN)),.own 1 outs,.own 2 (bads.map encW),.p (.bool last)],.row no 1,.row bads.length 6]
structure KeyOk (o:Opr) (rows:List Va):Prop where
 len:rows.length≤100000
 key:We 1000000000 o.key
 row:∀ x∈rows,Wv 1000000000 x
 int:∀ x∈rows,∀ k,evE o.key x=some (.ok k)→I64 k.i
 red:o.k=5→∃ e,o.es=[e]∧We 1000000000 e
 tal:o.k=6→o.n≠0
end Go.Proofs.YtdmgbhamigegfaaGreatDoor
end

section
/- deno's Whole over trees. -/
set_option linter.unusedSimpArgs false
set_option linter.unusedVariables false
namespace Go.Proofs.YtdmgbhamigegfaaGreatDoor
open Go Go.Abs
attribute [local irreducible] Abs.Fn
def endT:T:=.slice (List.replicate 16 (.int .i64 1000))
theorem zvH {gt it:T} {n:Nat} {ts:List T} (hit:it=.slice ts) (hts:ts.length=n) (hn:n≤1000) {a b:T} (hfr:Abs.Fn Tryz.prog zfq [] [.p gt,.p it,.p (.slice (List.replicate n endT)),.p (.bool true)] (.p (.agg [a,b])) []) :
  Abs.Fn Tryz.prog zfr [] [.p gt,.p it] (.p (.agg [a,b])) []:=by
 subst hit
 apply zyp
 simp [zrT]
 intro hml
 refine zA (σ:=Nat) (n:=2) (fun j=>[.own 1 (List.replicate j endT),.p (.int .i64 j)]) (fun j=>[.box [.full [],.full []],.row j 1]) (fun j=>j≤n) (fun j=>n - j) [.slot 0 1] 0 (fun _=>rfl) ?_ (by simp) (fun j B hj hB=>?_)
 ·simp [zbo,ghost]
 simp [zre,hts]
 refine ⟨fun hlt=>?_,fun hge=>?_⟩
 ·refine zo rfl rfl (zAJ 1000) ?_
  simp
  refine ⟨⟨fun e he=>?_,by simp [T.cells],by simp; omega⟩, ?_⟩
  ·rw [List.eq_of_mem_replicate he]; rfl
  rw [IntWalk.i64_in _ (by omega)]
  have e:List.replicate j endT++[T.slice [.int .i64 1000,.int .i64 1000,.int .i64 1000,.int .i64 1000,.int .i64 1000,.int .i64 1000,.int .i64 1000,.int .i64 1000,.int .i64 1000,.int .i64 1000,.int .i64 1000,.int .i64 1000,.int .i64 1000,.int .i64 1000,.int .i64 1000,.int .i64 1000]]=List.replicate (j + 1) endT:=by
   rw [List.replicate_succ']; rfl
  rw [e]
  exact hB (j + 1) _ (by omega) (by omega) (by simp) (by simp [Ob.below,AV.under1]) (by simp) (by simp [AV.under,AV.under1])
 ·obtain rfl:j=n:=by omega
  refine zmg [] hfr rfl (by simp [treeQ]) (by simp) (by simp [zcG]) (by simp [AV.under,AV.under1]) (by simp) ?_
  simp [zfH,renF,zcK]
  exact zj (by simp [AV.pur,toTs])
end Go.Proofs.YtdmgbhamigegfaaGreatDoor
end

section
/- One output within another, told by order and told by counting. No program in sight. -/
set_option linter.unusedSimpArgs false
set_option linter.unusedVariables false
namespace Go.Proofs.YtdmgbhamigegfaaGreatDoor
open Go Go.Abs
variable {α:Type} {c:α→α→Int} [DecidableEq α]
end Go.Proofs.YtdmgbhamigegfaaGreatDoor
end

section
/- The document's outputs: sorted rows, alike, one within another. -/
set_option linter.unusedSimpArgs false
set_option linter.unusedVariables false
namespace Go.Proofs.YtdmgbhamigegfaaGreatDoor
open Go Go.Abs
attribute [local irreducible] Abs.Fn
theorem zDA {l r:List Va} {x:Va} (hs:zgu cmpV (l++r)) (h1:∀ y,l.getLast? = some y→cmpV y x≤0) (h2:∀ y,r.head? = some y→0 < cmpV y x):zgu cmpV (l++[x]++r):=by
 have hl:∀ y∈l,cmpV y x≤0:=by
  intro y hy
  rcases List.eq_nil_or_concat l with rfl | ⟨q,z,rfl⟩
  ·simp at hy
  ·have hz:=h1 z (by simp)
   rw [List.concat_eq_append] at hy hs
   rcases List.mem_append.1 hy with hy | hy
   ·have:=(List.pairwise_append.1 (List.pairwise_append.1 hs).1).2.2 y hy z (by simp)
    exact ordV.le_trans this hz
   ·simp at hy; subst hy; exact hz
 have hr:∀ y∈r,cmpV x y≤0:=by
  intro y hy
  cases r with
  | nil=>simp at hy
  | cons z q =>
   have hz:=h2 z rfl
   have hzx:cmpV x z≤0:=by have:=ordV.anti z x; omega
   rcases List.mem_cons.1 hy with rfl | hy
   ·exact hzx
   ·exact ordV.le_trans hzx ((List.pairwise_cons.1 (List.pairwise_append.1 hs).2.1).1 y hy)
 obtain ⟨a,b,c⟩:=List.pairwise_append.1 hs
 unfold zgu
 rw [List.append_assoc,List.pairwise_append]
 refine ⟨a, ?_,fun y hy z hz=>?_⟩
 ·rw [List.singleton_append,List.pairwise_cons]
  exact ⟨hr,b⟩
 ·rw [List.singleton_append] at hz
  rcases List.mem_cons.1 hz with rfl | hz
  ·exact hl y hy
  ·exact c y hy z hz
theorem zEV {l:List Va} {i k:Nat} (hi:i < l.length) (h1:0 < k→∀ h:k - 1 < (sortO cmpV (l.take i)).length,cmpV (sortO cmpV (l.take i))[k - 1] l[i]≤0)
  (h2:∀ h:k < (sortO cmpV (l.take i)).length,0 < cmpV (sortO cmpV (l.take i))[k] l[i]) (hk:k≤(sortO cmpV (l.take i)).length) :
  (sortO cmpV (l.take i)).take k++[l[i]]++(sortO cmpV (l.take i)).drop k=sortO cmpV (l.take (i + 1)):=by
 have hs:=znJ ordV (l.take i)
 have hp:=zla ordV (l.take i)
 generalize sortO cmpV (l.take i)=out at *
 refine zxM ordV ?_ ?_
 ·refine zDA (by rw [List.take_append_drop]; exact hs) (fun y hy=>?_) (fun y hy=>?_)
  ·rw [List.getLast?_eq_getElem?,List.length_take,Nat.min_eq_left hk] at hy
   rcases Nat.eq_zero_or_pos k with rfl | hpos
   ·simp at hy
   ·rw [List.getElem?_take,if_pos (by omega),List.getElem?_eq_getElem (by omega)] at hy
    obtain rfl:=Option.some.inj hy
    exact h1 hpos _
  ·rw [List.head?_drop] at hy
   by_cases hkl:k < out.length
   ·rw [List.getElem?_eq_getElem hkl] at hy
    obtain rfl:=Option.some.inj hy
    exact h2 hkl
   ·rw [List.getElem?_eq_none (by omega)] at hy; simp at hy
 ·rw [List.take_succ_eq_append_getElem hi]
  refine List.Perm.trans ?_ (hp.append_right [l[i]])
  rw [List.append_assoc]
  refine List.Perm.trans ((List.perm_append_comm (l₁:=[l[i]]) (l₂:=out.drop k)).append_left _) ?_
  rw [← List.append_assoc,List.take_append_drop]
set_option maxRecDepth 100000 in
theorem zzn (l:List Va) (hl:l.length≤10000):Abs.Fn Tryz.prog ze7 [] [.p (.slice (l.map encV))] (.p (.slice ((sortO cmpV l).map encV))) []:=by
 apply zox
 simp [zgN]
 refine zD1 (σ:=Nat) (n:=0) (fun i=>[.p (.slice ((sortO cmpV (l.take i)).map encV)),.p (.int .i64 i)]) (fun _=>[]) (fun i=>i≤l.length) (fun i=>l.length - i) [] 0 (fun _=>rfl) ?_ (by simp) (fun i B hi hB=>?_)
 ·simp [zbo,sortO]
 simp [zh5]
 intro hml
 have hol:(sortO cmpV (l.take i)).length=i:=by rw [zdG ordV]; simp; omega
 refine ⟨fun hlt=>?_,fun hge=>?_⟩
 ·have hst:=fun k=>zEV (l:=l) (i:=i) (k:=k) hlt
  generalize hout:sortO cmpV (l.take i)=out at *
  intro hml2
  refine zA (σ:=Nat) (n:=0) (fun k=>[.p (.int .i64 k)]) (fun _=>[]) (fun k=>k≤out.length ∧ ∀ h:k < out.length,0 < cmpV out[k] l[i]) (fun k=>k) [] out.length (fun _=>rfl) ?_ (by simp) (fun k B2 hk hB2=>?_)
  ·simp [zbo]
  obtain ⟨k1,k2⟩:=hk
  have fin:(0 < k→∀ h:k - 1 < out.length,cmpV out[k - 1] l[i]≤0)→∀ (es:List T) (m:Nat) (H2:List Ob),es=(out.take k++[l[i]]++out.drop k).map encV→B [.own m es,.p (.int .i64 ((i:Int) + 1))] H2:=by
   intro hk3 es m H2 hes
   rw [hst k hk3 k2 k1] at hes
   subst hes
   exact hB (i + 1) _ _ (by omega) (by omega) (by simp) (by simp) (by simp) (by simp [AV.under,AV.under1]) (by simp)
  have hE:∀ e∈out.map encV,e.cells.length=5:=fun e he=>by obtain ⟨y,_,rfl⟩:=List.mem_map.1 he; simp
  have ht:(out.map encV).take out.length=out.map encV:=List.take_of_length_le (by simp)
  rcases k with _ | q
  ·simp [zem,hlt,zbU,zih,zc8]
   rw [ht,IntWalk.i64_in _ (by omega)]
   refine ⟨⟨by simp,by simp,by simp⟩,⟨by simp,by simp [T.cells],by simp⟩,fun h=>by simp [h],⟨by simp [T.cells],hE,by simp; omega⟩,fin (by omega) _ _ _ (by simp)⟩
  ·have hw:IntKind.i64.wrap (q:Int)=q:=IntWalk.i64_in _ (by omega)
   have hql:q < out.length:=by omega
   have hcm:=zlH out[q] l[i]
   simp only [zd7] at hcm
   simp [zem,hlt,hw,hql]
   refine zF rfl hcm rfl ?_
   simp [hlt]
   refine ⟨fun hgt=>?_,fun hle=>?_⟩
   ·rw [hw]
    exact hB2 q _ ⟨by omega,fun _=>hgt⟩ (by omega) (by simp) (by simp) (by simp) (by simp [AV.under,AV.under1])
   ·simp [hlt,zbU,zih,zc8]
    rw [ht,IntWalk.i64_in _ (by omega)]
    refine ⟨by omega,⟨by simp,fun e he=>hE e (List.mem_of_mem_take he),by simp; omega⟩,⟨fun e he=>hE e (List.mem_of_mem_take he),by simp [T.cells],by simp; omega⟩,by omega,fun h=>?_,⟨fun e he=>?_,fun e he=>hE e (List.mem_of_mem_drop he),by simp; omega⟩,fin (fun _ _=>hle) _ _ _ (by simp)⟩
    ·have:q + 1 < out.length:=by omega
     simp [this]
    ·rcases List.mem_append.1 he with he | he
     ·exact hE e (List.mem_of_mem_take he)
     ·simp at he; subst he; rfl
 ·have:i=l.length:=by omega
  subst this
  simp
  exact zg rfl
end Go.Proofs.YtdmgbhamigegfaaGreatDoor
end

section
/- The document's outputs: alike, one within another; outputs as the document's, and back. -/
set_option linter.unusedSimpArgs false
set_option linter.unusedVariables false
namespace Go.Proofs.YtdmgbhamigegfaaGreatDoor
open Go Go.Abs
attribute [local irreducible] Abs.Fn
theorem zyH (a b:List Va) (hl:a.length≤1000000):Abs.Fn Tryz.prog zdU [] [.p (.slice (a.map encV)),.p (.slice (b.map encV))] (.p (.bool (decide (a=b)))) []:=by
 apply zmO
 simp [zfb]
 intro _ _
 refine ⟨fun h=>zg ?_,fun h=>?_⟩
 ·have:¬ a=b:=fun e=>by rw [e] at h; omega
  simp [this]
 have hab:a.length=b.length:=by omega
 refine zA (σ:=Nat) (n:=0) (fun i=>[.p (.int .i64 i)]) (fun _=>[]) (fun i=>i≤a.length∧a.take i=b.take i) (fun i=>a.length - i) [] 0 (fun _=>rfl) ?_ (by simp) (fun i B hi hB=>?_)
 ·simp [zbo]
 obtain ⟨h1,h2⟩:=hi
 simp [zha]
 intro _
 refine ⟨fun hlt=>?_,fun hge=>?_⟩
 ·have hlb:i < b.length:=by omega
  have hs:=zvF a[i] b[i]
  simp only [zd7] at hs
  simp [hlt,hlb]
  refine zF rfl hs rfl ?_
  simp
  refine ⟨fun hne=>zg ?_,fun heq=>?_⟩
  ·have:¬ a=b:=fun e=>hne (by subst e; exact ordV.self _)
   simp [this]
  ·rw [IntWalk.i64_in _ (by omega)]
   refine hB (i + 1) _ ⟨by omega, ?_⟩ (by omega) (by simp) (by simp) (by simp) (by simp [AV.under,AV.under1])
   rw [List.take_succ_eq_append_getElem hlt,List.take_succ_eq_append_getElem hlb,h2,(ordV.zero _ _).1 heq]
 ·rw [List.take_of_length_le hge,List.take_of_length_le (by omega)] at h2
  exact zg (by simp [h2])
set_option maxRecDepth 100000 in
theorem zvi (a b:OutD) (h1:a.sinks.length≤100000) (h2:a.bad.length≤100000) (h3:∀ l∈a.sinks,l.length≤1000000):Abs.Fn Tryz.prog zdb [] [.p (encD a),.p (encD b)] (.p (.bool (sameD a b))) []:=by
 obtain ⟨sa,ba⟩:=a
 obtain ⟨sb,bb⟩:=b
 simp only at h1 h2 h3
 apply zlg
 simp [zdR,encD]
 intro _ _
 refine ⟨fun h=>zg ?_,fun e1 e2=>?_⟩
 ·simp only [sameD]
  have:¬ (sa=sb∧ba=bb):=by
   rintro ⟨rfl,rfl⟩
   simp at h
  simp only [Bool.and_eq_false_iff,decide_eq_false_iff_not,T.bool.injEq]
  symm
  simp only [Bool.and_eq_false_iff,decide_eq_false_iff_not]
  by_cases hs:sa=sb
  ·exact .inr fun hb=>this ⟨hs,hb⟩
  ·exact .inl hs
 refine zA (σ:=Nat) (n:=2) (fun i=>[.p (.int .i64 i)]) (fun _=>[.box [.p (.slice (sa.map encL)),.p (.slice (ba.map encW))],.box [.p (.slice (sb.map encL)),.p (.slice (bb.map encW))]]) (fun i=>i≤sa.length∧sa.take i=sb.take i) (fun i=>sa.length - i) [] 0 (fun _=>rfl) ?_ (by simp) (fun i B hi hB=>?_)
 ·simp [zbo]
 obtain ⟨k1,k2⟩:=hi
 simp [zfB]
 intro _
 refine ⟨fun hlt=>?_,fun hge=>?_⟩
 ·have hlb:i < sb.length:=by omega
  have hs:=zyH sa[i] sb[i] (h3 _ (List.getElem_mem hlt))
  simp [hlt,hlb,encL]
  refine zF rfl hs rfl ?_
  simp
  refine ⟨fun hne=>zg ?_,fun heq=>?_⟩
  ·have:¬ sa=sb:=fun e=>hne (by subst e; rfl)
   simp [sameD,this]
  ·rw [IntWalk.i64_in _ (by omega)]
   refine hB (i + 1) _ ⟨by omega, ?_⟩ (by omega) (by simp [encL]) (by simp [Ob.below,AV.under1]) (by simp) (by simp [AV.under,AV.under1])
   rw [List.take_succ_eq_append_getElem hlt,List.take_succ_eq_append_getElem hlb,k2,heq]
 ·rw [List.take_of_length_le hge,List.take_of_length_le (by omega)] at k2
  refine zA (σ:=Nat) (n:=2) (fun i=>[.p (.int .i64 i)]) (fun _=>[.box [.p (.slice (sa.map encL)),.p (.slice (ba.map encW))],.box [.p (.slice (sb.map encL)),.p (.slice (bb.map encW))]]) (fun i=>i≤ba.length∧ba.take i=bb.take i) (fun i=>ba.length - i) [] 0 (fun _=>rfl) ?_ (by simp) (fun i B hi hB=>?_)
  ·simp [zbo]
  obtain ⟨q1,q2⟩:=hi
  simp [zfC]
  intro _
  refine ⟨fun hlt=>?_,fun hge2=>?_⟩
  ·have hlb:i < bb.length:=by omega
   have hs:=zvF ba[i].2 bb[i].2
   simp only [zd7] at hs
   simp [hlt,hlb,encW]
   refine ⟨fun hne=>zg ?_,fun heq=>?_⟩
   ·have:¬ ba=bb:=fun e=>hne (by subst e; rfl)
    simp [sameD,this]
   refine zF rfl hs rfl ?_
   simp
   refine ⟨fun hne=>zg ?_,fun heq2=>?_⟩
   ·have:¬ ba=bb:=fun e=>hne (by subst e; exact ordV.self _)
    simp [sameD,this]
   ·rw [IntWalk.i64_in _ (by omega)]
    refine hB (i + 1) _ ⟨by omega, ?_⟩ (by omega) (by simp [encW]) (by simp [Ob.below,AV.under1]) (by simp) (by simp [AV.under,AV.under1])
    rw [List.take_succ_eq_append_getElem hlt,List.take_succ_eq_append_getElem hlb,q2]
    have:ba[i]=bb[i]:=Prod.ext heq ((ordV.zero _ _).1 heq2)
    rw [this]
  ·rw [List.take_of_length_le hge2,List.take_of_length_le (by omega)] at q2
   exact zg (by simp [sameD,k2,q2])
end Go.Proofs.YtdmgbhamigegfaaGreatDoor
end

section
/- Outputs as the document's, and back. -/
set_option linter.unusedSimpArgs false
set_option linter.unusedVariables false
namespace Go.Proofs.YtdmgbhamigegfaaGreatDoor
open Go Go.Abs
attribute [local irreducible] Abs.Fn
abbrev outDH (o:OutD) (i j:Nat):List Ob:=[.box [.p (.slice (o.sinks.map encL)),.p (.slice (o.bad.map encW))],.box [.full [],.full []],.box [.own 3 ((o.sinks.take i).map encL),.own 4 ((o.bad.take j).map encW)],.row i 1,.row j 6]
set_option maxRecDepth 100000 in
theorem zyc (o:OutD) (h1:o.sinks.length≤1000) (h2:o.bad.length≤1000) (h3:∀ l∈o.sinks,l.length≤1000000 ∧ ∀ v∈l,Wv 1000000000 v) (h4:∀ p∈o.bad,Wv 1000000000 p.2):Abs.Fn Tryz.prog zdO [] [.p (encD o)] (.p (encD o)) []:=by
 apply zmF
 simp [ze5,encD]
 refine zA (σ:=Nat) (n:=5) (fun i=>[.p (.int .i64 i)]) (fun i=>outDH o i 0) (fun i=>i≤o.sinks.length) (fun i=>o.sinks.length - i) [.cell 2 0 1,.cell 2 1 6] 0 (fun _=>rfl) ?_ (by simp) (fun i B hi hB=>?_)
 ·simp [zbo,ghost]
 simp [zg8]
 intro hml
 refine ⟨fun hlt=>?_,fun hge=>?_⟩
 ·obtain ⟨a1,a2⟩:=h3 _ (List.getElem_mem hlt)
  have hs:=zvE o.sinks[i] a2 a1
  simp [hlt,encL]
  refine zF rfl hs rfl ?_
  simp
  refine ⟨by omega,⟨fun e he=>?_,by simp [T.cells],by simp; omega⟩, ?_⟩
  ·obtain ⟨y,_,rfl⟩:=List.mem_map.1 (List.mem_of_mem_take he); simp
  rw [IntWalk.i64_in _ (by omega)]
  have hs:=zag (l:=o.sinks.map encL) (i:=i) (by simpa using hlt)
  simp only [List.getElem_map,encL] at hs
  exact hB (i + 1) _ (by omega) (by omega) (by simp [hs,encL]) (by simp [Ob.below,AV.under1]) (by simp) (by simp [AV.under,AV.under1])
 ·obtain rfl:i=o.sinks.length:=by omega
  refine zA (σ:=Nat) (n:=5) (fun j=>[.p (.int .i64 j)]) (fun j=>outDH o o.sinks.length j) (fun j=>j≤o.bad.length) (fun j=>o.bad.length - j) [] 0 (fun _=>rfl) ?_ (by simp) (fun j B2 hj hB2=>?_)
  ·simp [zbo,ghost]
  simp [zg9]
  intro hml2
  refine ⟨fun hlt=>?_,fun hge2=>?_⟩
  ·have hv:=zkJ (h4 _ (List.getElem_mem hlt))
   simp only [zd7] at hv
   simp [hlt,encW]
   refine zF rfl hv rfl ?_
   simp [hlt,encW]
   refine ⟨by omega,⟨fun e he=>?_,by simp [T.cells],by simp; omega⟩, ?_⟩
   ·obtain ⟨y,_,rfl⟩:=List.mem_map.1 (List.mem_of_mem_take he); simp
   rw [IntWalk.i64_in _ (by omega)]
   have hs:=zag (l:=o.bad.map encW) (i:=j) (by simpa using hlt)
   simp only [List.getElem_map,encW] at hs
   exact hB2 (j + 1) _ (by omega) (by omega) (by simp [hs,encW]) (by simp [Ob.below,AV.under1]) (by simp) (by simp [AV.under,AV.under1])
  ·obtain rfl:j=o.bad.length:=by omega
   rw [List.take_of_length_le (by simp)]
   exact zj (by simp [AV.pur,toTs,encD])
end Go.Proofs.YtdmgbhamigegfaaGreatDoor
end
