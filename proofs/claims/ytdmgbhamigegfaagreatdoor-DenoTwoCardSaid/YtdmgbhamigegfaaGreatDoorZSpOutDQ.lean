/- The objects of a front; what an operator that goes by keys wants. -/
import Derived.Test.YtdmgbhamigegfaaGreatDoorZPuDeno
import Derived.Test.YtdmgbhamigegfaaGreatDoorZSpEvalCQ
import Derived.Test.YtdmgbhamigegfaaGreatDoorZPuTypeQ
import Derived.Test.YtdmgbhamigegfaaGreatDoorZSpRepQ
import Derived.Test.YtdmgbhamigegfaaGreatDoorS1
import Derived.Test.YtdmgbhamigegfaaGreatDoorZSpOfAllQ
import Derived.Test.YtdmgbhamigegfaaGreatDoorZSpValBQ
import Derived.Test.YtdmgbhamigegfaaGreatDoorS2

section
/- The objects of a front; what an operator that goes by keys wants. -/
set_option linter.unusedSimpArgs false
set_option linter.unusedVariables false
namespace Go.Proofs.YtdmgbhamigegfaaGreatDoor
open Go Go.Abs
abbrev frH (g:List Nd) (outs:List T) (no:Nat) (bads:List (Int × Va)) (last:Bool):List Ob:=[.box [.p (.slice (g.map encN)),.own 1 outs,.own 2 (bads.map encW),.p (.bool last)],.row no 1,.row bads.length 6]
structure KeyOk (o:Opr) (rows:List Va):Prop where
 len:rows.length ≤ 100000
 key:We 1000000000 o.key
 row:∀ x ∈ rows,Wv 1000000000 x
 int:∀ x ∈ rows,∀ k,evE o.key x = some (.ok k)→I64 k.i
 red:o.k = 5→∃ e,o.es = [e] ∧ We 1000000000 e
 tal:o.k = 6→o.n ≠ 0
end Go.Proofs.YtdmgbhamigegfaaGreatDoor
end

section
/- deno's Whole over trees. -/
set_option linter.unusedSimpArgs false
set_option linter.unusedVariables false
namespace Go.Proofs.YtdmgbhamigegfaaGreatDoor
open Go Go.Abs
attribute [local irreducible] Abs.Fn
def endT:T:=.slice (List.replicate 16 (.int .i64 1000))
theorem Whole_spec {gt it:T} {n:Nat} {ts:List T} (hit:it = .slice ts) (hts:ts.length = n) (hn:n ≤ 1000) {a b:T} (hfr:Abs.Fn Tryz.prog deno_Front_i [] [.p gt,.p it,.p (.slice (List.replicate n endT)),.p (.bool true)] (.p (.agg [a,b])) []) :
  Abs.Fn Tryz.prog deno_Whole_i [] [.p gt,.p it] (.p (.agg [a,b])) []:=by
 subst hit
 apply deno_Whole_fn
 simp [deno_Whole]
 intro hml
 refine loop_by (σ:=Nat) (n:=2) (fun j=>[.own 1 (List.replicate j endT),.p (.int .i64 j)]) (fun j=>[.box [.full [],.full []],.row j 1]) (fun j=>j ≤ n) (fun j=>n - j) [.slot 0 1] 0 (fun _=>rfl) ?_ (by simp) (fun j B hj hB=>?_)
 ·simp [ghosts,ghost]
 simp [deno_Whole_L1,hts]
 refine ⟨fun hlt=>?_,fun hge=>?_⟩
 ·refine aCallW_of rfl rfl (Repeat_spec 1000) ?_
  simp
  refine ⟨⟨fun e he=>?_,by simp [T.cells],by simp; omega⟩, ?_⟩
  ·rw [List.eq_of_mem_replicate he]; rfl
  rw [IntWalk.i64_in _ (by omega)]
  have e:List.replicate j endT ++ [T.slice [.int .i64 1000,.int .i64 1000,.int .i64 1000,.int .i64 1000,.int .i64 1000,.int .i64 1000,.int .i64 1000,.int .i64 1000,.int .i64 1000,.int .i64 1000,.int .i64 1000,.int .i64 1000,.int .i64 1000,.int .i64 1000,.int .i64 1000,.int .i64 1000]] = List.replicate (j + 1) endT:=by
   rw [List.replicate_succ']; rfl
  rw [e]
  exact hB (j + 1) _ (by omega) (by omega) (by simp) (by simp [Ob.below,AV.under1]) (by simp) (by simp [AV.under,AV.under1])
 ·obtain rfl:j = n:=by omega
  refine aCallQ_of [] hfr rfl (by simp [treeQ]) (by simp) (by simp [framed]) (by simp [AV.under,AV.under1]) (by simp) ?_
  simp [frameH,renF,setAll]
  exact gives_pure (by simp [AV.pur,toTs])
end Go.Proofs.YtdmgbhamigegfaaGreatDoor
end

section
/- One output within another, told by order and told by counting. No program in sight. -/
set_option linter.unusedSimpArgs false
set_option linter.unusedVariables false
namespace Go.Proofs.YtdmgbhamigegfaaGreatDoor
open Go Go.Abs
variable {α:Type} {c:α→α→Int} [DecidableEq α]
theorem within_le:∀ a b:List α,Ordr c→withinO c a b = true→∀ z,a.count z ≤ b.count z
 | [],b,_,_,z=>by simp
 | x :: r,b,h,hw,z=>by
  simp only [withinO] at hw
  have hd:=(List.dropWhile_suffix (fun y=>decide (c y x < 0)) (l:=b)).sublist.count_le z
  cases hb:b.dropWhile (fun y=>decide (c y x < 0)) with
  | nil=>rw [hb] at hw; simp at hw
  | cons y q =>
   rw [hb] at hw hd
   simp only [Bool.and_eq_true,decide_eq_true_eq,h.zero] at hw
   obtain ⟨rfl,hw⟩:=hw
   have:=within_le r q h hw z
   rw [List.count_cons] at hd ⊢
   omega
omit [DecidableEq α] in
theorem take_while (p:α→Bool):∀ (b:List α) (w:α),w ∈ b.takeWhile p→p w = true
 | [],w,h=>by simp at h
 | y :: q,w,h=>by
  rw [List.takeWhile_cons] at h
  split at h
  ·rcases List.mem_cons.1 h with rfl | h
   ·assumption
   ·exact take_while p q w h
  ·simp at h
theorem within_ge:∀ a b:List α,Ordr c→SortedO c a→SortedO c b→(∀ z,a.count z ≤ b.count z)→withinO c a b = true
 | [],b,_,_,_,_=>rfl
 | x :: r,b,h,ha,hb,hc=>by
  obtain ⟨a1,a2⟩:=List.pairwise_cons.1 ha
  have hx:x ∈ b:=List.count_pos_iff.1 (by have:=hc x; rw [List.count_cons_self] at this; omega)
  have hsp:=List.takeWhile_append_dropWhile (p:=fun y=>decide (c y x < 0)) (l:=b)
  have htk:∀ w ∈ b.takeWhile (fun y=>decide (c y x < 0)),c w x < 0:=fun w hw=>by
   exact of_decide_eq_true (take_while (fun y=>decide (c y x < 0)) b w hw)
  simp only [withinO]
  have hxd:x ∈ b.dropWhile (fun y=>decide (c y x < 0)):=by
   rw [← hsp] at hx
   rcases List.mem_append.1 hx with hx | hx
   ·have:=htk x hx; rw [h.self] at this; omega
   ·exact hx
  have hsd:SortedO c (b.dropWhile (fun y=>decide (c y x < 0))):=List.Pairwise.sublist (List.dropWhile_suffix _).sublist hb
  have hhd:∀ y q,b.dropWhile (fun y=>decide (c y x < 0)) = y :: q→¬ c y x < 0:=fun y q e=>by
   have:=List.head?_dropWhile_not (fun y=>decide (c y x < 0)) b
   rw [e] at this
   simpa using this
  generalize hT:b.takeWhile (fun y=>decide (c y x < 0)) = tk at *
  cases hD:b.dropWhile (fun y=>decide (c y x < 0)) with
  | nil=>rw [hD] at hxd; simp at hxd
  | cons y q =>
   rw [hD] at hxd hsd hsp
   have hny:=hhd y q hD
   have hyx:c y x ≤ 0:=by
    rcases List.mem_cons.1 hxd with e | e
    ·rw [← e,h.self]; exact Int.le_refl _
    ·exact (List.pairwise_cons.1 hsd).1 x e
   have e:c y x = 0:=by omega
   obtain rfl:=(h.zero _ _).1 e
   simp only [Bool.and_eq_true,decide_eq_true_eq]
   refine ⟨e,within_ge r q h a2 (List.pairwise_cons.1 hsd).2 fun z=>?_⟩
   have h1:=hc z
   rw [← hsp,List.count_append] at h1
   by_cases hz:z ∈ r
   ·have h0:tk.count z = 0:=List.count_eq_zero_of_not_mem fun hm=>by
     have p:=htk z hm
     have q:=a1 z hz
     have:=h.anti y z
     omega
    rw [List.count_cons,List.count_cons,h0] at h1
    omega
   ·rw [List.count_eq_zero_of_not_mem hz]; omega
def withinR (a b:List α):Bool:=a.all fun z=>decide (a.count z ≤ b.count z)
theorem withinR_iff (a b:List α):withinR a b = true ↔ ∀ z,a.count z ≤ b.count z:=by
 simp only [withinR,List.all_eq_true,decide_eq_true_eq]
 refine ⟨fun h z=>?_,fun h z _=>h z⟩
 by_cases hz:z ∈ a
 ·exact h z hz
 ·rw [List.count_eq_zero_of_not_mem hz]; omega
theorem within_eq (h:Ordr c) (a b:List α):withinO c (sortO c a) (sortO c b) = withinR a b:=by
 rw [Bool.eq_iff_iff,withinR_iff]
 have pa:=fun z=>(sortO_perm h a).count_eq z
 have pb:=fun z=>(sortO_perm h b).count_eq z
 constructor
 ·intro hw z
  have:=within_le _ _ h hw z
  rw [pa,pb] at this
  exact this
 ·intro hw
  exact within_ge _ _ h (sortO_sorted h a) (sortO_sorted h b) fun z=>by rw [pa,pb]; exact hw z
def badsV (l:List (Int × Va)) (n:Int):List Va:=(l.filter fun p=>decide (p.1 = n)).map (·.2)
def withinRS:List (List Va)→List (List Va)→Bool
 | x :: r,y :: q=>withinR x y && withinRS r q
 | _,_=>true
def withinRD (a b:OutD):Bool:=decide (a.sinks.length = b.sinks.length) && withinRS a.sinks b.sinks && a.bad.all fun p=>withinR (badsV a.bad p.1) (badsV b.bad p.1)
theorem two_within (A B:List Va) (i j:Int) (v:Va):withinRD ⟨[A],[(i,v)]⟩ ⟨[B],[(j,v)]⟩ = withinD ⟨[A],[(i,v)]⟩ ⟨[B],[(j,v)]⟩:=by
 have hb:withinO cmpW (sortO cmpW [(i,v)]) (sortO cmpW [(j,v)]) = decide (i = j):=by
  have hc:cmpW (j,v) (i,v) = cmpI j i:=by
   show lexI (cmpI j i) (cmpV v v) = _
   rw [ordV.self]
   unfold lexI
   split <;> omega
  show withinO cmpW [(i,v)] [(j,v)] = decide (i = j)
  simp only [withinO,List.dropWhile,hc]
  rcases Int.lt_trichotomy j i with h | h | h
  ·have:cmpI j i = -1:=by unfold cmpI; grind
   have e:¬ i = j:=by omega
   simp [this,e]
  ·subst h
   simp [cmpI,ordW.self]
  ·have:cmpI j i = 1:=by unfold cmpI; grind
   have e:¬ i = j:=by omega
   simp [this,hc,e]
 have hr:withinR (badsV [(i,v)] i) (badsV [(j,v)] i) = decide (i = j):=by
  by_cases e:i = j
  ·subst e; simp [badsV,withinR]
  ·simp [badsV,withinR,e]
   exact fun h=>e h.symm
 simp only [withinD,withinRD,withinRS,withinS,within_eq ordV,hb,List.all_cons,List.all_nil,hr,Bool.and_true]
end Go.Proofs.YtdmgbhamigegfaaGreatDoor
end

section
/- The document's outputs: sorted rows, alike, one within another. -/
set_option linter.unusedSimpArgs false
set_option linter.unusedVariables false
namespace Go.Proofs.YtdmgbhamigegfaaGreatDoor
open Go Go.Abs
attribute [local irreducible] Abs.Fn
theorem sorted_mid {l r:List Va} {x:Va} (hs:SortedO cmpV (l ++ r)) (h1:∀ y,l.getLast? = some y→cmpV y x ≤ 0) (h2:∀ y,r.head? = some y→0 < cmpV y x):SortedO cmpV (l ++ [x] ++ r):=by
 have hl:∀ y ∈ l,cmpV y x ≤ 0:=by
  intro y hy
  rcases List.eq_nil_or_concat l with rfl | ⟨q,z,rfl⟩
  ·simp at hy
  ·have hz:=h1 z (by simp)
   rw [List.concat_eq_append] at hy hs
   rcases List.mem_append.1 hy with hy | hy
   ·have:=(List.pairwise_append.1 (List.pairwise_append.1 hs).1).2.2 y hy z (by simp)
    exact ordV.le_trans this hz
   ·simp at hy; subst hy; exact hz
 have hr:∀ y ∈ r,cmpV x y ≤ 0:=by
  intro y hy
  cases r with
  | nil=>simp at hy
  | cons z q =>
   have hz:=h2 z rfl
   have hzx:cmpV x z ≤ 0:=by have:=ordV.anti z x; omega
   rcases List.mem_cons.1 hy with rfl | hy
   ·exact hzx
   ·exact ordV.le_trans hzx ((List.pairwise_cons.1 (List.pairwise_append.1 hs).2.1).1 y hy)
 obtain ⟨a,b,c⟩:=List.pairwise_append.1 hs
 unfold SortedO
 rw [List.append_assoc,List.pairwise_append]
 refine ⟨a, ?_,fun y hy z hz=>?_⟩
 ·rw [List.singleton_append,List.pairwise_cons]
  exact ⟨hr,b⟩
 ·rw [List.singleton_append] at hz
  rcases List.mem_cons.1 hz with rfl | hz
  ·exact hl y hy
  ·exact c y hy z hz
theorem sort_step {l:List Va} {i k:Nat} (hi:i < l.length) (h1:0 < k→∀ h:k - 1 < (sortO cmpV (l.take i)).length,cmpV (sortO cmpV (l.take i))[k - 1] l[i] ≤ 0)
  (h2:∀ h:k < (sortO cmpV (l.take i)).length,0 < cmpV (sortO cmpV (l.take i))[k] l[i]) (hk:k ≤ (sortO cmpV (l.take i)).length) :
  (sortO cmpV (l.take i)).take k ++ [l[i]] ++ (sortO cmpV (l.take i)).drop k = sortO cmpV (l.take (i + 1)):=by
 have hs:=sortO_sorted ordV (l.take i)
 have hp:=sortO_perm ordV (l.take i)
 generalize sortO cmpV (l.take i) = out at *
 refine sortO_of ordV ?_ ?_
 ·refine sorted_mid (by rw [List.take_append_drop]; exact hs) (fun y hy=>?_) (fun y hy=>?_)
  ·rw [List.getLast?_eq_getElem?,List.length_take,Nat.min_eq_left hk] at hy
   rcases Nat.eq_zero_or_pos k with rfl | hpos
   ·simp at hy
   ·rw [List.getElem?_take,if_pos (by omega),List.getElem?_eq_getElem (by omega)] at hy
    obtain rfl:=Option.some.inj hy
    exact h1 hpos _
  ·rw [List.head?_drop] at hy
   by_cases hkl:k < out.length
   ·rw [List.getElem?_eq_getElem hkl] at hy
    obtain rfl:=Option.some.inj hy
    exact h2 hkl
   ·rw [List.getElem?_eq_none (by omega)] at hy; simp at hy
 ·rw [List.take_succ_eq_append_getElem hi]
  refine List.Perm.trans ?_ (hp.append_right [l[i]])
  rw [List.append_assoc]
  refine List.Perm.trans ((List.perm_append_comm (l₁:=[l[i]]) (l₂:=out.drop k)).append_left _) ?_
  rw [← List.append_assoc,List.take_append_drop]
set_option maxRecDepth 100000 in
theorem SortedR_spec (l:List Va) (hl:l.length ≤ 10000):Abs.Fn Tryz.prog runnelref10_Sorted_i [] [.p (.slice (l.map encV))] (.p (.slice ((sortO cmpV l).map encV))) []:=by
 apply runnelref10_Sorted_fn
 simp [runnelref10_Sorted]
 refine loop_le (σ:=Nat) (n:=0) (fun i=>[.p (.slice ((sortO cmpV (l.take i)).map encV)),.p (.int .i64 i)]) (fun _=>[]) (fun i=>i ≤ l.length) (fun i=>l.length - i) [] 0 (fun _=>rfl) ?_ (by simp) (fun i B hi hB=>?_)
 ·simp [ghosts,sortO]
 simp [runnelref10_Sorted_L1]
 intro hml
 have hol:(sortO cmpV (l.take i)).length = i:=by rw [sortO_len ordV]; simp; omega
 refine ⟨fun hlt=>?_,fun hge=>?_⟩
 ·have hst:=fun k=>sort_step (l:=l) (i:=i) (k:=k) hlt
  generalize hout:sortO cmpV (l.take i) = out at *
  intro hml2
  refine loop_by (σ:=Nat) (n:=0) (fun k=>[.p (.int .i64 k)]) (fun _=>[]) (fun k=>k ≤ out.length ∧ ∀ h:k < out.length,0 < cmpV out[k] l[i]) (fun k=>k) [] out.length (fun _=>rfl) ?_ (by simp) (fun k B2 hk hB2=>?_)
  ·simp [ghosts]
  obtain ⟨k1,k2⟩:=hk
  have fin:(0 < k→∀ h:k - 1 < out.length,cmpV out[k - 1] l[i] ≤ 0)→∀ (es:List T) (m:Nat) (H2:List Ob),es = (out.take k ++ [l[i]] ++ out.drop k).map encV→B [.own m es,.p (.int .i64 ((i:Int) + 1))] H2:=by
   intro hk3 es m H2 hes
   rw [hst k hk3 k2 k1] at hes
   subst hes
   exact hB (i + 1) _ _ (by omega) (by omega) (by simp) (by simp) (by simp) (by simp [AV.under,AV.under1]) (by simp)
  have hE:∀ e ∈ out.map encV,e.cells.length = 5:=fun e he=>by obtain ⟨y,_,rfl⟩:=List.mem_map.1 he; simp
  have ht:(out.map encV).take out.length = out.map encV:=List.take_of_length_le (by simp)
  rcases k with _ | q
  ·simp [runnelref10_Sorted_L2,hlt,aSliceSl,atSize,boundK]
   rw [ht,IntWalk.i64_in _ (by omega)]
   refine ⟨⟨by simp,by simp,by simp⟩,⟨by simp,by simp [T.cells],by simp⟩,fun h=>by simp [h],⟨by simp [T.cells],hE,by simp; omega⟩,fin (by omega) _ _ _ (by simp)⟩
  ·have hw:IntKind.i64.wrap (q:Int) = q:=IntWalk.i64_in _ (by omega)
   have hql:q < out.length:=by omega
   have hcm:=CompareR_spec out[q] l[i]
   simp only [encV_eta] at hcm
   simp [runnelref10_Sorted_L2,hlt,hw,hql]
   refine aCallT_of rfl hcm rfl ?_
   simp [hlt]
   refine ⟨fun hgt=>?_,fun hle=>?_⟩
   ·rw [hw]
    exact hB2 q _ ⟨by omega,fun _=>hgt⟩ (by omega) (by simp) (by simp) (by simp) (by simp [AV.under,AV.under1])
   ·simp [hlt,aSliceSl,atSize,boundK]
    rw [ht,IntWalk.i64_in _ (by omega)]
    refine ⟨by omega,⟨by simp,fun e he=>hE e (List.mem_of_mem_take he),by simp; omega⟩,⟨fun e he=>hE e (List.mem_of_mem_take he),by simp [T.cells],by simp; omega⟩,by omega,fun h=>?_,⟨fun e he=>?_,fun e he=>hE e (List.mem_of_mem_drop he),by simp; omega⟩,fin (fun _ _=>hle) _ _ _ (by simp)⟩
    ·have:q + 1 < out.length:=by omega
     simp [this]
    ·rcases List.mem_append.1 he with he | he
     ·exact hE e (List.mem_of_mem_take he)
     ·simp at he; subst he; rfl
 ·have:i = l.length:=by omega
  subst this
  simp
  exact gives_p rfl
end Go.Proofs.YtdmgbhamigegfaaGreatDoor
end

section
/- The document's outputs: alike, one within another; outputs as the document's, and back. -/
set_option linter.unusedSimpArgs false
set_option linter.unusedVariables false
namespace Go.Proofs.YtdmgbhamigegfaaGreatDoor
open Go Go.Abs
attribute [local irreducible] Abs.Fn
theorem sameRows_spec (a b:List Va) (hl:a.length ≤ 1000000):Abs.Fn Tryz.prog runnelref10_sameRows_i [] [.p (.slice (a.map encV)),.p (.slice (b.map encV))] (.p (.bool (decide (a = b)))) []:=by
 apply runnelref10_sameRows_fn
 simp [runnelref10_sameRows]
 intro _ _
 refine ⟨fun h=>gives_p ?_,fun h=>?_⟩
 ·have:¬ a = b:=fun e=>by rw [e] at h; omega
  simp [this]
 have hab:a.length = b.length:=by omega
 refine loop_by (σ:=Nat) (n:=0) (fun i=>[.p (.int .i64 i)]) (fun _=>[]) (fun i=>i ≤ a.length ∧ a.take i = b.take i) (fun i=>a.length - i) [] 0 (fun _=>rfl) ?_ (by simp) (fun i B hi hB=>?_)
 ·simp [ghosts]
 obtain ⟨h1,h2⟩:=hi
 simp [runnelref10_sameRows_L1]
 intro _
 refine ⟨fun hlt=>?_,fun hge=>?_⟩
 ·have hlb:i < b.length:=by omega
  have hs:=SameR_spec a[i] b[i]
  simp only [encV_eta] at hs
  simp [hlt,hlb]
  refine aCallT_of rfl hs rfl ?_
  simp
  refine ⟨fun hne=>gives_p ?_,fun heq=>?_⟩
  ·have:¬ a = b:=fun e=>hne (by subst e; exact ordV.self _)
   simp [this]
  ·rw [IntWalk.i64_in _ (by omega)]
   refine hB (i + 1) _ ⟨by omega, ?_⟩ (by omega) (by simp) (by simp) (by simp) (by simp [AV.under,AV.under1])
   rw [List.take_succ_eq_append_getElem hlt,List.take_succ_eq_append_getElem hlb,h2,(ordV.zero _ _).1 heq]
 ·rw [List.take_of_length_le hge,List.take_of_length_le (by omega)] at h2
  exact gives_p (by simp [h2])
set_option maxRecDepth 100000 in
theorem SameOutput_spec (a b:OutD) (h1:a.sinks.length ≤ 100000) (h2:a.bad.length ≤ 100000) (h3:∀ l ∈ a.sinks,l.length ≤ 1000000):Abs.Fn Tryz.prog runnelref10_SameOutput_i [] [.p (encD a),.p (encD b)] (.p (.bool (sameD a b))) []:=by
 obtain ⟨sa,ba⟩:=a
 obtain ⟨sb,bb⟩:=b
 simp only at h1 h2 h3
 apply runnelref10_SameOutput_fn
 simp [runnelref10_SameOutput,encD]
 intro _ _
 refine ⟨fun h=>gives_p ?_,fun e1 e2=>?_⟩
 ·simp only [sameD]
  have:¬ (sa = sb ∧ ba = bb):=by
   rintro ⟨rfl,rfl⟩
   simp at h
  simp only [Bool.and_eq_false_iff,decide_eq_false_iff_not,T.bool.injEq]
  symm
  simp only [Bool.and_eq_false_iff,decide_eq_false_iff_not]
  by_cases hs:sa = sb
  ·exact .inr fun hb=>this ⟨hs,hb⟩
  ·exact .inl hs
 refine loop_by (σ:=Nat) (n:=2) (fun i=>[.p (.int .i64 i)]) (fun _=>[.box [.p (.slice (sa.map encL)),.p (.slice (ba.map encW))],.box [.p (.slice (sb.map encL)),.p (.slice (bb.map encW))]]) (fun i=>i ≤ sa.length ∧ sa.take i = sb.take i) (fun i=>sa.length - i) [] 0 (fun _=>rfl) ?_ (by simp) (fun i B hi hB=>?_)
 ·simp [ghosts]
 obtain ⟨k1,k2⟩:=hi
 simp [runnelref10_SameOutput_L1]
 intro _
 refine ⟨fun hlt=>?_,fun hge=>?_⟩
 ·have hlb:i < sb.length:=by omega
  have hs:=sameRows_spec sa[i] sb[i] (h3 _ (List.getElem_mem hlt))
  simp [hlt,hlb,encL]
  refine aCallT_of rfl hs rfl ?_
  simp
  refine ⟨fun hne=>gives_p ?_,fun heq=>?_⟩
  ·have:¬ sa = sb:=fun e=>hne (by subst e; rfl)
   simp [sameD,this]
  ·rw [IntWalk.i64_in _ (by omega)]
   refine hB (i + 1) _ ⟨by omega, ?_⟩ (by omega) (by simp [encL]) (by simp [Ob.below,AV.under1]) (by simp) (by simp [AV.under,AV.under1])
   rw [List.take_succ_eq_append_getElem hlt,List.take_succ_eq_append_getElem hlb,k2,heq]
 ·rw [List.take_of_length_le hge,List.take_of_length_le (by omega)] at k2
  refine loop_by (σ:=Nat) (n:=2) (fun i=>[.p (.int .i64 i)]) (fun _=>[.box [.p (.slice (sa.map encL)),.p (.slice (ba.map encW))],.box [.p (.slice (sb.map encL)),.p (.slice (bb.map encW))]]) (fun i=>i ≤ ba.length ∧ ba.take i = bb.take i) (fun i=>ba.length - i) [] 0 (fun _=>rfl) ?_ (by simp) (fun i B hi hB=>?_)
  ·simp [ghosts]
  obtain ⟨q1,q2⟩:=hi
  simp [runnelref10_SameOutput_L2]
  intro _
  refine ⟨fun hlt=>?_,fun hge2=>?_⟩
  ·have hlb:i < bb.length:=by omega
   have hs:=SameR_spec ba[i].2 bb[i].2
   simp only [encV_eta] at hs
   simp [hlt,hlb,encW]
   refine ⟨fun hne=>gives_p ?_,fun heq=>?_⟩
   ·have:¬ ba = bb:=fun e=>hne (by subst e; rfl)
    simp [sameD,this]
   refine aCallT_of rfl hs rfl ?_
   simp
   refine ⟨fun hne=>gives_p ?_,fun heq2=>?_⟩
   ·have:¬ ba = bb:=fun e=>hne (by subst e; exact ordV.self _)
    simp [sameD,this]
   ·rw [IntWalk.i64_in _ (by omega)]
    refine hB (i + 1) _ ⟨by omega, ?_⟩ (by omega) (by simp [encW]) (by simp [Ob.below,AV.under1]) (by simp) (by simp [AV.under,AV.under1])
    rw [List.take_succ_eq_append_getElem hlt,List.take_succ_eq_append_getElem hlb,q2]
    have:ba[i] = bb[i]:=Prod.ext heq ((ordV.zero _ _).1 heq2)
    rw [this]
  ·rw [List.take_of_length_le hge2,List.take_of_length_le (by omega)] at q2
   exact gives_p (by simp [sameD,k2,q2])
end Go.Proofs.YtdmgbhamigegfaaGreatDoor
end

section
/- The document's Within; outputs as the document's, and back. -/
set_option linter.unusedSimpArgs false
set_option linter.unusedVariables false
namespace Go.Proofs.YtdmgbhamigegfaaGreatDoor
open Go Go.Abs
attribute [local irreducible] Abs.Fn
theorem times_spec (l:List Va) (x:Va) (hl:l.length ≤ 1000000):Abs.Fn Tryz.prog runnelref10_times_i [] [.p (.slice (l.map encV)),.p (encV x)] (.p (.int .i64 (l.count x:Nat))) []:=by
 apply runnelref10_times_fn
 simp [runnelref10_times]
 refine loop_by (σ:=Nat) (n:=1) (fun i=>[.p (.int .i64 ((l.take i).count x:Nat)),.p (.int .i64 i)]) (fun _=>[.box ((AV.p (encV x)).cells)]) (fun i=>i ≤ l.length) (fun i=>l.length - i) [] 0 (fun _=>rfl) ?_ (by simp) (fun i B hi hB=>?_)
 ·simp [ghosts]
 simp [runnelref10_times_L1]
 intro _
 refine ⟨fun hlt=>?_,fun hge=>?_⟩
 ·have hs:=SameR_spec l[i] x
  simp only [encV_eta] at hs
  have hc:(l.take i).count x ≤ 1000000:=Nat.le_trans List.count_le_length (by simp; omega)
  have hsn:(l.take (i + 1)).count x = (l.take i).count x + if l[i] = x then 1 else 0:=by
   rw [List.take_succ_eq_append_getElem hlt,List.count_append,List.count_singleton]
   by_cases e:l[i] = x <;> simp [e]
  simp [hlt]
  refine aCallT_of rfl hs rfl ?_
  simp
  refine ⟨fun heq=>?_,fun hne=>?_⟩
  ·rw [if_pos ((ordV.zero _ _).1 heq)] at hsn
   rw [IntWalk.i64_in _ (by omega),IntWalk.i64_in _ (by omega)]
   have e:(((l.take i).count x:Nat):Int) + 1 = (((l.take (i + 1)).count x:Nat):Int):=by omega
   rw [e]
   exact hB (i + 1) _ (by omega) (by omega) (by simp) (by simp [Ob.below,AV.under1]) (by simp) (by simp [AV.under,AV.under1])
  ·rw [if_neg (fun e=>hne ((ordV.zero _ _).2 e))] at hsn
   rw [IntWalk.i64_in _ (by omega)]
   have e:(((l.take i).count x:Nat):Int) = (((l.take (i + 1)).count x:Nat):Int):=by omega
   rw [e]
   exact hB (i + 1) _ (by omega) (by omega) (by simp) (by simp [Ob.below,AV.under1]) (by simp) (by simp [AV.under,AV.under1])
 ·rw [List.take_of_length_le hge]
  exact gives_p rfl
theorem bads_spec (l:List (Int × Va)) (n:Int) (hl:l.length ≤ 100000):Abs.Fn Tryz.prog runnelref10_bads_i [] [.p (.slice (l.map encW)),.p (.int .i64 n)] (.p (.slice ((badsV l n).map encV))) []:=by
 apply runnelref10_bads_fn
 simp [runnelref10_bads]
 have hle:∀ i,(badsV (l.take i) n).length ≤ 100000:=fun i=>by
  have h1:=List.length_filter_le (fun p:Int × Va=>decide (p.1 = n)) (l.take i)
  have h2:(l.take i).length ≤ l.length:=by simp; omega
  unfold badsV
  rw [List.length_map]
  omega
 refine loop_by (σ:=Nat) (n:=1) (fun i=>[.own 0 ((badsV (l.take i) n).map encV),.p (.int .i64 i)]) (fun i=>[.row (badsV (l.take i) n).length 5]) (fun i=>i ≤ l.length) (fun i=>l.length - i) [.slot 0 5] 0 (fun _=>rfl) ?_ (by simp) (fun i B hi hB=>?_)
 ·simp [ghosts,ghost,badsV]
 simp [runnelref10_bads_L1]
 intro _
 refine ⟨fun hlt=>?_,fun hge=>?_⟩
 ·have hsn:badsV (l.take (i + 1)) n = badsV (l.take i) n ++ if l[i].1 = n then [l[i].2] else []:=by
   rw [List.take_succ_eq_append_getElem hlt]
   simp only [badsV,List.filter_append,List.map_append]
   by_cases e:l[i].1 = n <;> simp [e]
  have h1:=hle (i + 1)
  have h0:=hle i
  have hBn:=hB (i + 1)
  generalize badsV (l.take (i + 1)) n = b1 at *
  generalize badsV (l.take i) n = b0 at *
  simp [hlt,encW]
  refine ⟨fun heq=>?_,fun hne=>?_⟩
  ·rw [if_pos heq] at hsn
   subst hsn
   refine ⟨⟨fun e he=>by obtain ⟨y,_,rfl⟩:=List.mem_map.1 he; simp,by simp [T.cells],by simp; omega⟩, ?_⟩
   rw [IntWalk.i64_in _ (by omega)]
   have:=hBn [.row (b0.length + 1) 5] (by omega) (by omega) (by simp) (by simp [Ob.below,AV.under1]) (by simp) (by simp [AV.under,AV.under1])
   simpa using this
  ·rw [if_neg hne,List.append_nil] at hsn
   subst hsn
   rw [IntWalk.i64_in _ (by omega)]
   exact hBn _ (by omega) (by omega) (by simp) (by simp [Ob.below,AV.under1]) (by simp) (by simp [AV.under,AV.under1])
 ·rw [List.take_of_length_le hge]
  exact gives_pure (by simp [AV.pur])
theorem within_spec (a b:List Va) (ha:a.length ≤ 1000000) (hb:b.length ≤ 1000000):Abs.Fn Tryz.prog runnelref10_within_i [] [.p (.slice (a.map encV)),.p (.slice (b.map encV))] (.p (.bool (withinR a b))) []:=by
 apply runnelref10_within_fn
 simp [runnelref10_within]
 refine loop_by (σ:=Nat) (n:=0) (fun i=>[.p (.int .i64 i)]) (fun _=>[]) (fun i=>i ≤ a.length ∧ (a.take i).all (fun z=>decide (a.count z ≤ b.count z)) = true) (fun i=>a.length - i) [] 0 (fun _=>rfl) ?_ (by simp) (fun i B hi hB=>?_)
 ·simp [ghosts]
 obtain ⟨h1,h2⟩:=hi
 simp [runnelref10_within_L1]
 intro _
 refine ⟨fun hlt=>?_,fun hge=>?_⟩
 ·have t1:=times_spec a a[i] ha
  have t2:=times_spec b a[i] hb
  simp only [encV_eta] at t1 t2
  simp [hlt]
  refine aCallT_of rfl t1 rfl ?_
  simp [hlt]
  refine aCallT_of rfl t2 rfl ?_
  simp
  refine ⟨fun hgt=>gives_p ?_,fun hle=>?_⟩
  ·have:withinR a b = false:=by
    unfold withinR
    rw [List.all_eq_false]
    exact ⟨_,List.getElem_mem hlt,by simp; omega⟩
   rw [this]
  ·rw [IntWalk.i64_in _ (by omega)]
   refine hB (i + 1) _ ⟨by omega, ?_⟩ (by omega) (by simp) (by simp) (by simp) (by simp [AV.under,AV.under1])
   rw [List.take_succ_eq_append_getElem hlt,List.all_append,h2]
   simp; omega
 ·rw [List.take_of_length_le hge] at h2
  exact gives_p (by unfold withinR; rw [h2])
theorem badsV_len (l:List (Int × Va)) (n:Int):(badsV l n).length ≤ l.length:=by
 unfold badsV
 rw [List.length_map]
 exact List.length_filter_le _ _
theorem withinRS_of:∀ (sa sb:List (List Va)),withinRS sa sb = true ↔ ∀ i (h1:i < sa.length) (h2:i < sb.length),withinR sa[i] sb[i] = true
 | [],sb=>by simp [withinRS]
 | x :: r,[]=>by simp [withinRS]
 | x :: r,y :: q=>by
  simp only [withinRS,Bool.and_eq_true,withinRS_of r q]
  constructor
  ·rintro ⟨h,k⟩ i h1 h2
   cases i with
   | zero=>exact h
   | succ i=>exact k i (by simpa using h1) (by simpa using h2)
  ·intro h
   exact ⟨h 0 (by simp) (by simp),fun i h1 h2=>h (i + 1) (by simpa using h1) (by simpa using h2)⟩
set_option maxRecDepth 100000 in
theorem WithinR_spec (a b:OutD) (h1:a.sinks.length ≤ 1000) (h2:a.bad.length ≤ 1000) (h3:b.bad.length ≤ 1000) (h4:∀ l ∈ a.sinks,l.length ≤ 1000000) (h5:∀ l ∈ b.sinks,l.length ≤ 1000000):Abs.Fn Tryz.prog runnelref10_Within_i [] [.p (encD a),.p (encD b)] (.p (.bool (withinRD a b))) []:=by
 obtain ⟨sa,ba⟩:=a
 obtain ⟨sb,bb⟩:=b
 simp only at h1 h2 h3 h4 h5
 apply runnelref10_Within_fn
 simp [runnelref10_Within,encD]
 intro _ _
 refine ⟨fun h=>gives_p ?_,fun e1=>?_⟩
 ·have:¬ sa.length = sb.length:=by omega
  simp [withinRD,this]
 have hab:sa.length = sb.length:=by omega
 refine loop_by (σ:=Nat) (n:=2) (fun i=>[.p (.int .i64 i)]) (fun _=>[.box [.p (.slice (sa.map encL)),.p (.slice (ba.map encW))],.box [.p (.slice (sb.map encL)),.p (.slice (bb.map encW))]]) (fun i=>i ≤ sa.length ∧ ∀ k (h1:k < sa.length) (h2:k < sb.length),k < i→withinR sa[k] sb[k] = true) (fun i=>sa.length - i) [] 0 (fun _=>rfl) ?_ (by simp) (fun i B hi hB=>?_)
 ·simp [ghosts]
 obtain ⟨k1,k2⟩:=hi
 simp [runnelref10_Within_L1]
 intro _
 refine ⟨fun hlt=>?_,fun hge=>?_⟩
 ·have hlb:i < sb.length:=by omega
  have hs:=within_spec sa[i] sb[i] (h4 _ (List.getElem_mem hlt)) (h5 _ (List.getElem_mem hlb))
  simp [hlt,hlb,encL]
  refine aCallT_of rfl hs rfl ?_
  simp
  refine ⟨fun hne=>gives_p ?_,fun heq=>?_⟩
  ·have:withinRS sa sb = false:=by
    rw [Bool.eq_false_iff]
    intro h
    have:=(withinRS_of sa sb).1 h i hlt hlb
    rw [this] at hne
    simp at hne
   simp [withinRD,this]
  ·rw [IntWalk.i64_in _ (by omega)]
   refine hB (i + 1) _ ⟨by omega,fun k p1 p2 p3=>?_⟩ (by omega) (by simp [encL]) (by simp [Ob.below,AV.under1]) (by simp) (by simp [AV.under,AV.under1])
   by_cases e:k = i
   ·subst e; exact heq
   ·exact k2 k p1 p2 (by omega)
 ·have hS:withinRS sa sb = true:=(withinRS_of sa sb).2 fun k p1 p2=>k2 k p1 p2 (by omega)
  refine loop_by (σ:=Nat) (n:=2) (fun i=>[.p (.int .i64 i)]) (fun _=>[.box [.p (.slice (sa.map encL)),.p (.slice (ba.map encW))],.box [.p (.slice (sb.map encL)),.p (.slice (bb.map encW))]]) (fun i=>i ≤ ba.length ∧ (ba.take i).all (fun p=>withinR (badsV ba p.1) (badsV bb p.1)) = true) (fun i=>ba.length - i) [] 0 (fun _=>rfl) ?_ (by simp) (fun i B hi hB=>?_)
  ·simp [ghosts]
  obtain ⟨q1,q2⟩:=hi
  simp [runnelref10_Within_L2]
  intro _
  refine ⟨fun hlt=>?_,fun hge2=>?_⟩
  ·have b1:=bads_spec ba ba[i].1 (by omega)
   have b2:=bads_spec bb ba[i].1 (by omega)
   have l1:=badsV_len ba ba[i].1
   have l2:=badsV_len bb ba[i].1
   have hw:=within_spec (badsV ba ba[i].1) (badsV bb ba[i].1) (by omega) (by omega)
   simp [hlt,encW]
   refine aCallT_of rfl b1 rfl ?_
   simp [hlt,encW]
   refine aCallT_of rfl b2 rfl ?_
   simp
   refine aCallT_of rfl hw rfl ?_
   simp
   refine ⟨fun hne=>gives_p ?_,fun heq=>?_⟩
   ·have:(ba.all fun p=>withinR (badsV ba p.1) (badsV bb p.1)) = false:=by
     rw [List.all_eq_false]
     exact ⟨_,List.getElem_mem hlt,by rw [hne]; simp⟩
    simp only [withinRD,this,Bool.and_false]
   ·rw [IntWalk.i64_in _ (by omega)]
    refine hB (i + 1) _ ⟨by omega, ?_⟩ (by omega) (by simp [encW]) (by simp [Ob.below,AV.under1]) (by simp) (by simp [AV.under,AV.under1])
    rw [List.take_succ_eq_append_getElem hlt,List.all_append,q2]
    simp [heq]
  ·rw [List.take_of_length_le hge2] at q2
   exact gives_p (by simp only [withinRD,hab,hS,q2,decide_true,Bool.and_self])
end Go.Proofs.YtdmgbhamigegfaaGreatDoor
end

section
/- Outputs as the document's, and back. -/
set_option linter.unusedSimpArgs false
set_option linter.unusedVariables false
namespace Go.Proofs.YtdmgbhamigegfaaGreatDoor
open Go Go.Abs
attribute [local irreducible] Abs.Fn
abbrev outDH (o:OutD) (i j:Nat):List Ob:=[.box [.p (.slice (o.sinks.map encL)),.p (.slice (o.bad.map encW))],.box [.full [],.full []],.box [.own 3 ((o.sinks.take i).map encL),.own 4 ((o.bad.take j).map encW)],.row i 1,.row j 6]
set_option maxRecDepth 100000 in
theorem ToOutput_spec (o:OutD) (h1:o.sinks.length ≤ 1000) (h2:o.bad.length ≤ 1000) (h3:∀ l ∈ o.sinks,l.length ≤ 1000000 ∧ ∀ v ∈ l,Wv 1000000000 v) (h4:∀ p ∈ o.bad,Wv 1000000000 p.2):Abs.Fn Tryz.prog runnellaw10_ToOutput_i [] [.p (encD o)] (.p (encD o)) []:=by
 apply runnellaw10_ToOutput_fn
 simp [runnellaw10_ToOutput,encD]
 refine loop_by (σ:=Nat) (n:=5) (fun i=>[.p (.int .i64 i)]) (fun i=>outDH o i 0) (fun i=>i ≤ o.sinks.length) (fun i=>o.sinks.length - i) [.cell 2 0 1,.cell 2 1 6] 0 (fun _=>rfl) ?_ (by simp) (fun i B hi hB=>?_)
 ·simp [ghosts,ghost]
 simp [runnellaw10_ToOutput_L1]
 intro hml
 refine ⟨fun hlt=>?_,fun hge=>?_⟩
 ·obtain ⟨a1,a2⟩:=h3 _ (List.getElem_mem hlt)
  have hs:=ToAll_spec o.sinks[i] a2 a1
  simp [hlt,encL]
  refine aCallT_of rfl hs rfl ?_
  simp
  refine ⟨by omega,⟨fun e he=>?_,by simp [T.cells],by simp; omega⟩, ?_⟩
  ·obtain ⟨y,_,rfl⟩:=List.mem_map.1 (List.mem_of_mem_take he); simp
  rw [IntWalk.i64_in _ (by omega)]
  have hs:=take_snoc (l:=o.sinks.map encL) (i:=i) (by simpa using hlt)
  simp only [List.getElem_map,encL] at hs
  exact hB (i + 1) _ (by omega) (by omega) (by simp [hs,encL]) (by simp [Ob.below,AV.under1]) (by simp) (by simp [AV.under,AV.under1])
 ·obtain rfl:i = o.sinks.length:=by omega
  refine loop_by (σ:=Nat) (n:=5) (fun j=>[.p (.int .i64 j)]) (fun j=>outDH o o.sinks.length j) (fun j=>j ≤ o.bad.length) (fun j=>o.bad.length - j) [] 0 (fun _=>rfl) ?_ (by simp) (fun j B2 hj hB2=>?_)
  ·simp [ghosts,ghost]
  simp [runnellaw10_ToOutput_L2]
  intro hml2
  refine ⟨fun hlt=>?_,fun hge2=>?_⟩
  ·have hv:=To2V_spec (h4 _ (List.getElem_mem hlt))
   simp only [encV_eta] at hv
   simp [hlt,encW]
   refine aCallT_of rfl hv rfl ?_
   simp [hlt,encW]
   refine ⟨by omega,⟨fun e he=>?_,by simp [T.cells],by simp; omega⟩, ?_⟩
   ·obtain ⟨y,_,rfl⟩:=List.mem_map.1 (List.mem_of_mem_take he); simp
   rw [IntWalk.i64_in _ (by omega)]
   have hs:=take_snoc (l:=o.bad.map encW) (i:=j) (by simpa using hlt)
   simp only [List.getElem_map,encW] at hs
   exact hB2 (j + 1) _ (by omega) (by omega) (by simp [hs,encW]) (by simp [Ob.below,AV.under1]) (by simp) (by simp [AV.under,AV.under1])
  ·obtain rfl:j = o.bad.length:=by omega
   rw [List.take_of_length_le (by simp)]
   exact gives_pure (by simp [AV.pur,toTs,encD])
end Go.Proofs.YtdmgbhamigegfaaGreatDoor
end
