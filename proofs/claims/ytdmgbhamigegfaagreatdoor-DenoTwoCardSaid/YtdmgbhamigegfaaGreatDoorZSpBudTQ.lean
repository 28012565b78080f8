/- Small expressions. No program in sight. -/
import Derived.Test.YtdmgbhamigegfaaGreatDoorZSpExpr
import Derived.Test.YtdmgbhamigegfaaGreatDoorZPuTypeQ

section
/- Small expressions. No program in sight. -/
set_option linter.unusedSimpArgs false
set_option linter.unusedVariables false
namespace Go.Proofs.YtdmgbhamigegfaaGreatDoor
open Go Go.Abs
abbrev eX:Ex:=.mk oX zeroV 0 []
abbrev eL (v:Va):Ex:=.mk oLit v 0 []
abbrev e2 (op:List UInt8) (a b:Ex):Ex:=.mk op zeroV 0 [a,b]
theorem we_x {n:Nat}:We n eX:=.mk _ _ _ _ (by simp) (by simp) (by simp)
theorem we_l {n:Nat} {v:Va} (h:Wv n v):We n (eL v):=.mk _ _ _ _ h (by simp) (by simp)
theorem we_2 {op:List UInt8} {a b:Ex} (ha:We 1000000000 a) (hb:We 1000000000 b):We 1000000000 (e2 op a b):=.mk _ _ _ _ (by simp) (by simp) (by simp [ha,hb])
end Go.Proofs.YtdmgbhamigegfaaGreatDoor
end

section
/- What the document's check of expressions answers, over trees. -/
set_option linter.unusedSimpArgs false
set_option linter.unusedVariables false
namespace Go.Proofs.YtdmgbhamigegfaaGreatDoor
open Go Go.Abs
theorem ckE_unfold (op:List UInt8) (v:Va) (n:Int) (a:List Ex) (t:Ty) (d:Int):ckE (.mk op v n a) t d =
  if arE op = -2 then .er 6 else if 12 < d then .er 9 else if fieldsE op v n a.length = false then .er 1
  else if op = oLit then (if checkV v 0 ≠ 0 then .er (checkV v 0) else .ok (kindV v))
  else if op = oX then .ok t
  else match ckL a t (d + 1) with
   | .er e=>.er e
   | .ok l=>opT op n l:=by
 simp only [ckE]
 rfl
theorem fieldsE_eq (op:List UInt8) (v:Va) (n:Int) (m:Nat):fieldsE op v n m = ((if arE op = -1 then decide (1 ≤ m ∧ m ≤ 8) else decide ((m:Int) = arE op)) && (decide (op = oAt) || decide (n = 0)) && (decide (op = oLit) || nilV v)):=rfl
theorem ckL_snoc (t:Ty) (d:Int):∀ (a:List Ex) (i:Nat) (l:List Ty),(hi:i < a.length)→ckL (a.take i) t d = .ok l→ckL (a.take (i + 1)) t d = match ckE a[i] t d with
  | .er f=>.er f
  | .ok u=>.ok (l ++ [u])
 | [],i,l,hi,h=>by simp at hi
 | e :: r,0,l,hi,h=>by
  simp [ckL] at h
  subst h
  simp only [List.take_succ_cons,List.take_zero,ckL,List.getElem_cons_zero]
  cases ckE e t d <;> rfl
 | e :: r,i + 1,l,hi,h=>by
  simp only [List.take_succ_cons,ckL] at h ⊢
  cases he:ckE e t d with
  | er f=>simp [he] at h
  | ok u =>
   simp only [he] at h ⊢
   cases hr:ckL (r.take i) t d with
   | er f=>simp [hr] at h
   | ok l' =>
    simp [hr] at h
    subst h
    have hi':i < r.length:=by simpa using hi
    rw [ckL_snoc t d r i l' hi' hr]
    simp only [List.getElem_cons_succ]
    cases ckE r[i] t d <;> rfl
theorem ckL_er_take (t:Ty) (d:Int):∀ (a:List Ex) (i:Nat) (f:Int),ckL (a.take i) t d = .er f→ckL a t d = .er f
 | [],i,f,h=>by simp [ckL] at h
 | e :: r,0,f,h=>by simp [ckL] at h
 | e :: r,i + 1,f,h=>by
  simp only [List.take_succ_cons,ckL] at h ⊢
  cases he:ckE e t d with
  | er g=>simpa [he] using h
  | ok u =>
   simp only [he] at h ⊢
   cases hr:ckL (r.take i) t d with
   | er g =>
    simp [hr] at h
    subst h
    simp [ckL_er_take t d r i g hr]
   | ok l'=>simp [hr] at h
theorem opT_er' {op:List UInt8} {n:Int} {l:List Ty} {f:Int} (h:opT op n l = .er f):f ≠ 0:=by
 unfold opT at h
 repeat' split at h
 all_goals first | (simp at h; omega) | simp at h
mutual
theorem ckE_er:∀ (e:Ex) (t:Ty) (d f:Int),ckE e t d = .er f→f ≠ 0
 | .mk op v n a,t,d,f,h=>by
  rw [ckE_unfold] at h
  split at h
  ·simp at h; omega
  split at h
  ·simp at h; omega
  split at h
  ·simp at h; omega
  split at h
  ·split at h
   ·rename_i hc; simp at h; omega
   ·simp at h
  split at h
  ·simp at h
  split at h
  ·rename_i g hg; simp at h; subst h; exact ckL_er a t (d + 1) _ hg
  ·exact opT_er' h
theorem ckL_er:∀ (a:List Ex) (t:Ty) (d f:Int),ckL a t d = .er f→f ≠ 0
 | [],t,d,f,h=>by simp [ckL] at h
 | e :: r,t,d,f,h=>by
  simp only [ckL] at h
  split at h
  ·rename_i g hg; simp at h; subst h; exact ckE_er e t d _ hg
  ·split at h
   ·rename_i g hg; simp at h; subst h; exact ckL_er r t d _ hg
   ·simp at h
end
end Go.Proofs.YtdmgbhamigegfaaGreatDoor
end

section
/- What the package expr answers, over trees. -/
set_option linter.unusedSimpArgs false
set_option linter.unusedVariables false
namespace Go.Proofs.YtdmgbhamigegfaaGreatDoor
open Go Go.Abs
attribute [local irreducible] Abs.Fn
theorem TypeOfv_spec (v:Va) (h:checkV v 0 = 0→Wv 1000000000 v):Abs.Fn Tryz.prog val_TypeOf_i [] [.p (encV v)] (.p (encT (typeOfV v))) []:=by
 apply val_TypeOf_fn
 simp [val_TypeOf]
 (first | refine aCall_fold rfl ?_ | refine aCallT_fold rfl ?_)
 (first | refine aCallU_p (Checkv_spec v) ?_ | refine aCallTU_p (Checkv_spec v) ?_ | refine aCallU_of (Checkv_spec v) ?_ | refine aCallTU_of (Checkv_spec v) rfl ?_ | refine aCallTU_of (Checkv_spec v) (by simp [AV.pur]; rfl) ?_)
 try simp
 refine ⟨fun hc=>gives_pure (by simp [AV.pur,typeOfV,hc]),fun hc=>?_⟩
 (first | refine aCall_fold rfl ?_ | refine aCallT_fold rfl ?_)
 (first | refine aCallU_p (kind_spec (h hc)) ?_ | refine aCallTU_p (kind_spec (h hc)) ?_ | refine aCallU_of (kind_spec (h hc)) ?_ | refine aCallTU_of (kind_spec (h hc)) rfl ?_ | refine aCallTU_of (kind_spec (h hc)) (by simp [AV.pur]; rfl) ?_)
 try simp
 exact gives_pure (by simp [AV.pur,typeOfV,hc])
def encSh (s:Sh):T:=.agg [.int .i64 s.least,.int .i64 s.most,.slice (s.of.map (.int .i64)),.bool s.alike,.int .i64 s.out]
def encSp (p:List UInt8 × Sh):T:=.agg [.str p.1,.int .i64 p.2.least,.int .i64 p.2.most,.slice (p.2.of.map (.int .i64)),.bool p.2.alike,.int .i64 p.2.out]
def findS (o:Option Sh):AV :=
 match o with
 | some s=>.tup [.p (encSh s),.p (.bool true)]
 | none=>.tup [.p (encSh noSh),.p (.bool false)]
set_option maxRecDepth 100000 in
set_option maxHeartbeats 1000000 in
theorem shapes_spec:Abs.Fn Tryz.prog expr_shapes_i [] [] (.p (.slice (shL.map encSp))) []:=by
 apply expr_shapes_fn
 simp [expr_shapes]
 exact gives_pure (by simp [AV.pur,shL,encSp,numSh,askSh,bothSh,noSh])
theorem findSh_spec (l:List (List UInt8 × Sh)) (name:List UInt8):Abs.Fn Tryz.prog expr_find_string_expr_shape_i [] [.p (.slice (l.map encSp)),.p (.str name)] (findS (lookS name l)) []:=by
 apply expr_find_string_expr_shape_fn
 simp [expr_find_string_expr_shape]
 intro hl
 refine loop_by (σ:=Nat) (n:=1) (fun i=>[.p (.int .i64 i)]) (fun _=>[.box [.p (.int .i64 0),.p (.int .i64 0),.full [],.p (.bool false),.p (.int .i64 0)]]) (fun i=>i ≤ l.length ∧ lookS name (l.drop i) = lookS name l) (fun i=>l.length - i) [] 0 (fun _=>rfl) ⟨rfl,rfl⟩ (by simp) (fun i B hi hB=>?_)
 obtain ⟨h1,h2⟩:=hi
 simp [expr_find_string_expr_shape_L1]
 refine ⟨fun hlt=>?_,fun hge=>?_⟩
 ·have hd:=lookS_drop name l i hlt
  rw [h2] at hd
  simp [hlt,encSp]
  refine ⟨fun hz=>?_,fun hz=>?_⟩
  ·rw [hd,if_pos hz]
   exact gives_pure (by simp [AV.pur,findS,encSh])
  ·rw [IntWalk.i64_in _ (by simp [maxLen] at hl; omega)]
   exact hB (i + 1) _ ⟨by omega,by simp [hd,hz]⟩ (by omega) (by simp) (by simp [Ob.below,AV.under1]) (by simp) (by simp [AV.under,AV.under1])
 ·have:i = l.length:=by omega
  subst this
  rw [← h2]
  simp [lookS,findS]
  exact gives_pure (by simp [AV.pur,encSh,noSh])
theorem none_spec (v:Va):Abs.Fn Tryz.prog expr_none_i [] [.p (encV v)] (.p (.bool (nilV v))) []:=by
 apply expr_none_fn
 simp [expr_none]
 (first | refine aCall_fold rfl ?_ | refine aCallT_fold rfl ?_)
 (first | refine aCallU_p (Same_spec v zeroV) ?_ | refine aCallTU_p (Same_spec v zeroV) ?_ | refine aCallU_of (Same_spec v zeroV) ?_ | refine aCallTU_of (Same_spec v zeroV) rfl ?_ | refine aCallTU_of (Same_spec v zeroV) (by simp [AV.pur]; rfl) ?_)
 try simp
 exact gives_p (by simp [nilV])
def fieldsS (s:Sh) (op:List UInt8) (v:Va) (n:Int) (m:Nat):Bool:=decide (s.least ≤ m) && decide ((m:Int) ≤ s.most) && (decide (op = oLit) || nilV v) && (decide (op = oAt) || decide (n = 0))
theorem fields_spec (op:List UInt8) (v:Va) (n:Int) (a:List Ex) (s:Sh):Abs.Fn Tryz.prog expr_Expr_fields_i [] [.p (encE (.mk op v n a)),.p (encSh s)] (.p (.bool (fieldsS s op v n a.length))) []:=by
 apply expr_Expr_fields_fn
 simp [expr_Expr_fields,encSh]
 intro _
 refine aMerge_intro (decide (op = oLit) || nilV v) (fun _=>aMerge_intro (nilV v) (fun _=>?_) (by simp)) ?_
 ·(first | refine aCall_fold rfl ?_ | refine aCallT_fold rfl ?_)
  (first | refine aCallU_p (none_spec v) ?_ | refine aCallTU_p (none_spec v) ?_ | refine aCallU_of (none_spec v) ?_ | refine aCallTU_of (none_spec v) rfl ?_ | refine aCallTU_of (none_spec v) (by simp [AV.pur]; rfl) ?_)
  try simp [encSh]
 ·simp
  exact gives_p (by simp [fieldsS])
theorem fits_spec (s:Sh) (l:List Ty) (h:s.of.length ≤ l.length) (h2:s.alike = true→2 ≤ l.length) (hb:l.length ≤ 1000000000):Abs.Fn Tryz.prog expr_fits_i [] [.p (encSh s),.p (.slice (l.map encT))] (.p (.bool (fitsS s l))) []:=by
 apply expr_fits_fn
 simp [expr_fits,encSh]
 intro hl
 refine loop_by (σ:=Nat) (n:=1) (fun i=>[.p (.int .i64 i)]) (fun _=>[.box [.p (.int .i64 s.least),.p (.int .i64 s.most),.p (.slice (s.of.map (.int .i64))),.p (.bool s.alike),.p (.int .i64 s.out)]]) (fun i=>i ≤ s.of.length ∧ fitsK (s.of.drop i) (l.drop i) = fitsK s.of l) (fun i=>s.of.length - i) [] 0 (fun _=>rfl) ⟨rfl,rfl⟩ (by simp) (fun i B hi hB=>?_)
 obtain ⟨g1,g2⟩:=hi
 simp [expr_fits_L1]
 refine ⟨fun hlt=>?_,fun hge=>?_⟩
 ·have hlt':i < l.length:=by omega
  have hd:=fitsK_drop s.of l i hlt hlt'
  rw [g2] at hd
  simp [hlt,hlt']
  refine ⟨fun hz hk=>gives_p ?_,fun hz=>?_⟩
  ·simp [fitsS,hd,hz,hk]
  ·rw [IntWalk.i64_in _ (by simp [maxLen] at hl; omega)]
   refine hB (i + 1) _ ⟨by omega, ?_⟩ (by omega) (by simp) (by simp [Ob.below,AV.under1]) (by simp) (by simp [AV.under,AV.under1])
   rw [hd]
   by_cases hk:s.of[i] = 0 <;> simp [hk]
   simp [hz hk]
 ·have:i = s.of.length:=by omega
  subst this
  have hk:fitsK s.of l = true:=by rw [← g2]; simp [fitsK]
  refine ⟨fun ha=>gives_p (by simp [fitsS,hk,ha]),fun ha=>?_⟩
  have h2':=h2 ha
  rw [IntWalk.i64_in _ (by omega),IntWalk.i64_in _ (by omega)]
  have e1:((l.length:Int) - 1).toNat = l.length - 1:=by omega
  have e2:((l.length:Int) - 2).toNat = l.length - 2:=by omega
  have e3:l.length - 1 < l.length:=by omega
  have e4:l.length - 2 < l.length:=by omega
  simp [e1,e2,e3,e4]
  refine ⟨by simp [maxLen]; omega,by omega,by simp [maxLen]; omega,by omega, ?_⟩
  (first | refine aCall_fold rfl ?_ | refine aCallT_fold rfl ?_)
  (first | refine aCallU_p (same_spec _ _) ?_ | refine aCallTU_p (same_spec _ _) ?_ | refine aCallU_of (same_spec _ _) ?_ | refine aCallTU_of (same_spec _ _) rfl ?_ | refine aCallTU_of (same_spec _ _) (by simp [AV.pur]; rfl) ?_)
  try simp
  exact gives_p (by simp [fitsS,hk,ha,e3,e4])
theorem comes_spec (op:List UInt8) (v:Va) (n:Int) (a:List Ex) (s:Sh) (l:List Ty) (t:Ty) (hv:op = oLit→Wv 1000000000 v) (h1:op = oAt→1 ≤ l.length) (h2:op = oIf→2 ≤ l.length) (hm:op = oAt→(l.getD 0 (.mk 0 [])).of.length ≤ 1000000000) :
  Abs.Fn Tryz.prog expr_Expr_comes_i [] [.p (encE (.mk op v n a)),.p (encSh s),.p (.slice (l.map encT)),.p (encT t)] (tyR (if op = oLit then .ok (typeOfV v) else if op = oX then .ok t else comesE op n s.out l)) []:=by
 apply expr_Expr_comes_fn
 simp [expr_Expr_comes,encSh]
 refine ⟨fun hop=>?_,fun hlit=>⟨fun hop=>?_,fun hX=>⟨fun hop=>?_,fun hat=>⟨fun hop=>?_,fun htup=>⟨fun hop=>?_,fun hif=>?_⟩⟩⟩⟩⟩
 ·have hop:op = oLit:=hop
  rw [if_pos hop]
  (first | refine aCall_fold rfl ?_ | refine aCallT_fold rfl ?_)
  (first | refine aCallU_p (TypeOfv_spec v (fun _=>hv hop)) ?_ | refine aCallTU_p (TypeOfv_spec v (fun _=>hv hop)) ?_ | refine aCallU_of (TypeOfv_spec v (fun _=>hv hop)) ?_ | refine aCallTU_of (TypeOfv_spec v (fun _=>hv hop)) rfl ?_ | refine aCallTU_of (TypeOfv_spec v (fun _=>hv hop)) (by simp [AV.pur]; rfl) ?_)
  try simp
  exact tyR_gives (by simp [R.get,R.num])
 ·have hop:op = oX:=hop
  rw [if_neg hlit,if_pos hop]
  exact tyR_gives (by simp [R.get,R.num])
 ·have hop:op = oAt:=hop
  rw [if_neg hlit,if_neg hX]
  have hl:=h1 hop
  have hm:=hm hop
  obtain ⟨u,r,rfl⟩:∃ u r,l = u :: r:=by
   match l,hl with
   | u :: r,_=>exact ⟨u,r,rfl⟩
  simp at hm
  simp
  refine ⟨fun hn=>tyR_gives ?_,fun hn=>⟨by simp [maxLen]; omega,fun hge=>tyR_gives ?_,fun hlt=>?_⟩⟩
  ·simp only [comesE]
   rw [if_pos hop,if_pos (.inl hn)]
   simp [R.get,R.num]
  ·simp only [comesE]
   rw [if_pos hop,if_pos (.inr (by simpa using hge))]
   simp [R.get,R.num]
  ·have e1:n.toNat < u.of.length:=by omega
   simp [e1]
   refine ⟨by omega,tyR_gives ?_⟩
   simp only [comesE]
   rw [if_pos hop,if_neg (by simp; omega)]
   simp [R.get,R.num,e1]
 ·have hop:op = oTup:=hop
  subst hop
  (first | refine aCall_fold rfl ?_ | refine aCallT_fold rfl ?_)
  (first | refine aCallU_p (Check_spec _) ?_ | refine aCallTU_p (Check_spec _) ?_ | refine aCallU_of (Check_spec _) ?_ | refine aCallTU_of (Check_spec _) rfl ?_ | refine aCallTU_of (Check_spec _) (by simp [AV.pur]; rfl) ?_)
  try simp
  refine ⟨fun h=>tyR_gives ?_,fun h=>tyR_gives ?_⟩
  ·simp [comesE,h,R.get,R.num]
  ·simp [comesE,h,R.get,R.num]
 ·have hop:op = oIf:=hop
  subst hop
  have hl:=h2 rfl
  have e1:1 < l.length:=by omega
  simp [e1]
  exact ⟨by omega,tyR_gives (by simp [comesE,R.get,R.num,e1])⟩
 ·refine tyR_gives ?_
  have g3:op ≠ oAt:=hat
  have g4:op ≠ oTup:=htup
  have g5:op ≠ oIf:=hif
  rw [if_neg hlit,if_neg hX]
  simp only [comesE]
  rw [if_neg g3,if_neg g4,if_neg g5]
  simp [R.get,R.num]
theorem clipT_spec (l:List Ty):Abs.Fn Tryz.prog slices_Clip_typ_Type_typ_Type_i [] [.p (.slice (l.map encT))] (.p (.slice (l.map encT))) []:=by
 apply slices_Clip_typ_Type_typ_Type_fn
 simp [slices_Clip_typ_Type_typ_Type]
 intro _
 simp [aSliceSl,atSize]
 exact gives_pure (by simp [AV.pur,List.take_of_length_le])
theorem size_spec:∀ (e:Ex) (_:sizeE e ≤ 1000000000),Abs.Fn Tryz.prog expr_Size_i [] [.p (encE e)] (.p (.int .i64 (sizeE e))) []
 | .mk op v n a,hs=>by
  apply expr_Size_fn
  simp [expr_Size]
  intro _
  simp only [sizeE] at hs
  refine loop_by (σ:=Nat × Nat) (n:=1) (fun q=>[.p (.int .i64 q.2),.p (.int .i64 q.1)]) (fun q=>[.box [.p (.str op),.p (.int .i64 v.k),.p (.int .i64 v.i),.p (.bool v.b),.p (.str v.s),.p (.slice (v.t.map encV)),.p (.int .i64 n),.p (.slice (a.map encE))]])
   (fun q=>q.1 ≤ a.length ∧ q.2 + sizeEs (a.drop q.1) = 1 + sizeEs a) (fun q=>a.length - q.1) [] (0,1) (fun _=>rfl) ⟨rfl,rfl⟩ ⟨by simp,by simp⟩ (fun q B hq hB=>?_)
  obtain ⟨j,m⟩:=q
  obtain ⟨g1,g2⟩:=hq
  simp only at g1 g2
  simp [expr_Size_L1]
  refine ⟨fun hlt=>?_,fun hge=>gives_p ?_⟩
  ·have hm:a[j] ∈ a:=by simp
   have hd:=sizeEs_drop a j hlt
   simp [hlt]
   (first | refine aCall_fold rfl ?_ | refine aCallT_fold rfl ?_)
   (first | refine aCallU_p (size_spec a[j] (by omega)) ?_ | refine aCallTU_p (size_spec a[j] (by omega)) ?_ | refine aCallU_of (size_spec a[j] (by omega)) ?_ | refine aCallTU_of (size_spec a[j] (by omega)) rfl ?_ | refine aCallTU_of (size_spec a[j] (by omega)) (by simp [AV.pur]; rfl) ?_)
   try simp
   rw [IntWalk.i64_in _ (by omega),IntWalk.i64_in _ (by simp [maxLen] at *; omega)]
   exact hB (j + 1,m + sizeE a[j]) _ ⟨by simp; omega,by simp; omega⟩ (by simp; omega) (by simp) (by simp [Ob.below,AV.under1]) (by simp) (by simp [AV.under,AV.under1])
  ·rw [List.drop_of_length_le hge] at g2
   simp [sizeEs] at g2
   simp [sizeE,g2]
termination_by e=>SizeOf.sizeOf e
decreasing_by
 have:=List.sizeOf_lt_of_mem hm
 simp
 omega
theorem fieldsS_eq {op:List UInt8} {s:Sh} (hs:lookS op shL = some s) (v:Va) (n:Int) (m:Nat):fieldsE op v n m = fieldsS s op v n m ∧ (fieldsS s op v n m = true→ArOk' s m):=by
 have key:(if arE op = -1 then decide (1 ≤ m ∧ m ≤ 8) else decide ((m:Int) = arE op)) = (decide (s.least ≤ m) && decide ((m:Int) ≤ s.most)):=by
  rcases lookS_cases op with ⟨h,_⟩ | ⟨rfl,h⟩ | ⟨rfl,h⟩ | ⟨rfl,h⟩ | ⟨rfl,h⟩ | ⟨rfl,h⟩ | ⟨rfl,h⟩ | ⟨rfl,h⟩ | ⟨hop',h⟩ | ⟨hop',h⟩ | ⟨hop',h⟩ | ⟨rfl,h⟩ | ⟨rfl,h⟩ <;> rw [hs] at h
  ·simp at h
  case inr.inr.inr.inr.inr.inr.inr.inr.inl =>
   simp at h; subst h
   rcases hop' with rfl | rfl | rfl | rfl | rfl <;> (simp [arE,numSh]; grind)
  case inr.inr.inr.inr.inr.inr.inr.inr.inr.inl =>
   simp at h; subst h
   rcases hop' with rfl | rfl <;> (simp [arE,askSh]; grind)
  case inr.inr.inr.inr.inr.inr.inr.inr.inr.inr.inl =>
   simp at h; subst h
   rcases hop' with rfl | rfl <;> (simp [arE,bothSh]; grind)
  all_goals
   simp at h
   subst h
   simp [arE,noSh]
   try grind
 constructor
 ·rw [fieldsE_eq,key]
  simp only [fieldsS]
  generalize (decide (s.least ≤ m) && decide ((m:Int) ≤ s.most)) = x
  generalize (decide (op = oLit) || nilV v) = y
  generalize (decide (op = oAt) || decide (n = 0)) = z
  cases x <;> cases y <;> cases z <;> rfl
 ·intro h
  simp only [fieldsS,Bool.and_eq_true,decide_eq_true_eq] at h
  exact ⟨h.1.1.1,h.1.1.2⟩
theorem sh_of {op:List UInt8} {s:Sh} (hs:lookS op shL = some s):(s.of.length:Int) ≤ s.least ∧ (s.alike = true→2 ≤ s.least) ∧ (op = oAt→s.least = 1) ∧ (op = oIf→s.least = 3) ∧ arE op ≠ -2 ∧ ((op = oLit ∨ op = oX)→s.most = 0 ∧ s = noSh):=by
 rcases lookS_cases op with ⟨h,_⟩ | ⟨rfl,h⟩ | ⟨rfl,h⟩ | ⟨rfl,h⟩ | ⟨rfl,h⟩ | ⟨rfl,h⟩ | ⟨rfl,h⟩ | ⟨rfl,h⟩ | ⟨hop',h⟩ | ⟨hop',h⟩ | ⟨hop',h⟩ | ⟨rfl,h⟩ | ⟨rfl,h⟩ <;> rw [hs] at h
 ·simp at h
 case inr.inr.inr.inr.inr.inr.inr.inr.inl =>
  simp at h; subst h
  rcases hop' with rfl | rfl | rfl | rfl | rfl <;> simp [arE,numSh]
 case inr.inr.inr.inr.inr.inr.inr.inr.inr.inl =>
  simp at h; subst h
  rcases hop' with rfl | rfl <;> simp [arE,askSh]
 case inr.inr.inr.inr.inr.inr.inr.inr.inr.inr.inl =>
  simp at h; subst h
  rcases hop' with rfl | rfl <;> simp [arE,bothSh]
 all_goals
  simp at h
  subst h
  simp [arE,noSh]
theorem ckE_sh (op:List UInt8) (v:Va) (n:Int) (a:List Ex) (t:Ty) (d:Int) (ht:checkT t 0 = 0):ckE (.mk op v n a) t d = match lookS op shL with
  | none=>.er 6
  | some s=>if 12 < d then .er 9 else if fieldsS s op v n a.length = false then .er 1
   else if op = oLit ∧ checkV v 0 ≠ 0 then .er (checkV v 0)
   else match ckL a t (d + 1) with
    | .er e=>.er e
    | .ok l=>if fitsS s l = false then .er 5 else if op = oLit then .ok (typeOfV v) else if op = oX then .ok t else comesE op n s.out l:=by
 rw [ckE_unfold]
 cases hs:lookS op shL with
 | none =>
  rcases lookS_cases op with ⟨_,h⟩ | h | h | h | h | h | h | h | h | h | h | h | h
  ·rw [if_pos h]
  all_goals (rw [h.2] at hs; simp at hs)
 | some s =>
  obtain ⟨h1,h2,h3,h4,h5,h6⟩:=sh_of hs
  obtain ⟨f1,f2⟩:=fieldsS_eq hs v n a.length
  rw [if_neg h5,f1]
  simp only
  split
  ·rfl
  split
  ·rfl
  rename_i hf
  have ha:=f2 (by simpa using hf)
  by_cases hlit:op = oLit
  ·obtain ⟨m0,rfl⟩:=h6 (.inl hlit)
   have ha0:a = []:=by
    have:=ha.2
    rw [m0] at this
    exact List.eq_nil_of_length_eq_zero (by omega)
   subst ha0
   rw [if_pos hlit]
   by_cases hc:checkV v 0 = 0
   ·simp [hlit,hc,ckL,fitsS,noSh,fitsK,typeOfV]
   ·simp [hlit,hc]
  ·rw [if_neg hlit,if_neg (show ¬ (op = oLit ∧ checkV v 0 ≠ 0) from fun h=>hlit h.1)]
   by_cases hX:op = oX
   ·obtain ⟨m0,rfl⟩:=h6 (.inr hX)
    have ha0:a = []:=by
     have:=ha.2
     rw [m0] at this
     exact List.eq_nil_of_length_eq_zero (by omega)
    subst ha0
    rw [if_pos hX]
    simp [hX,ckL,fitsS,noSh,fitsK]
   ·rw [if_neg hX]
    cases hl:ckL a t (d + 1) with
    | er e=>rfl
    | ok l =>
     simp only
     rw [opT_sh hs n l ⟨hlit,hX⟩ (by rw [ckL_length a t (d + 1) l hl]; exact ha) (ckL_valid a t (d + 1) l hl ht),if_neg hlit,if_neg hX]
theorem checkT_of {t:Ty} (h:checkT t 0 = 0):t.of.length ≤ 8:=by
 obtain ⟨k,of⟩:=t
 simp only [checkT] at h
 simp
 unfold rowE at h
 split at h
 ·split at h
  ·rename_i h0; simp [h0]
  ·simp at h
 split at h
 ·grind
 ·simp at h
set_option maxHeartbeats 1000000 in
theorem check4_spec:∀ (e:Ex) (t:Ty) (d:Int) (_:0 ≤ d) (_:d ≤ 100) (_:We 1000000000 e) (_:checkT t 0 = 0),Abs.Fn Tryz.prog expr_check_i [] [.p (encE e),.p (encT t),.p (.int .i64 d)] (tyR (ckE e t d)) []
 | .mk op v n a,t,d,hd0,hd1,he,ht=>by
  have hla:a.length ≤ 1000000000:=by cases he; assumption
  have hv:Wv 1000000000 v:=by cases he; assumption
  have hsub:∀ e ∈ a,We 1000000000 e:=by cases he; assumption
  apply expr_check_fn
  simp [expr_check]
  (first | refine aCall_fold rfl ?_ | refine aCallT_fold rfl ?_)
  (first | refine aCallU_p (shapes_spec) ?_ | refine aCallTU_p (shapes_spec) ?_ | refine aCallU_of (shapes_spec) ?_ | refine aCallTU_of (shapes_spec) rfl ?_ | refine aCallTU_of (shapes_spec) (by simp [AV.pur]; rfl) ?_)
  try simp
  have hun:=ckE_sh op v n a t d ht
  have hfs:=findSh_spec shL op
  cases hs:lookS op shL with
  | none =>
   rw [hs] at hun hfs
   (first | refine aCall_fold rfl ?_ | refine aCallT_fold rfl ?_)
   (first | refine aCallU_p (hfs) ?_ | refine aCallTU_p (hfs) ?_ | refine aCallU_of (hfs) ?_ | refine aCallTU_of (hfs) rfl ?_ | refine aCallTU_of (hfs) (by simp [AV.pur]; rfl) ?_)
   try simp [encSh,noSh]
   refine tyR_gives ?_
   rw [hun]; simp [R.get,R.num]
  | some s =>
   rw [hs] at hun hfs
   obtain ⟨h1,h2,h3,h4,h5,h6⟩:=sh_of hs
   simp only at hun
   (first | refine aCall_fold rfl ?_ | refine aCallT_fold rfl ?_)
   (first | refine aCallU_p (hfs) ?_ | refine aCallTU_p (hfs) ?_ | refine aCallU_of (hfs) ?_ | refine aCallTU_of (hfs) rfl ?_ | refine aCallTU_of (hfs) (by simp [AV.pur]; rfl) ?_)
   try simp [encSh]
   refine ⟨fun h=>tyR_gives ?_,fun hd=>?_⟩
   ·rw [hun,if_pos h]; simp [R.get,R.num]
   have hd:¬ 12 < d:=by omega
   rw [if_neg hd] at hun
   have hfd:=fields_spec op v n a s
   simp only [encSh] at hfd
   (first | refine aCall_fold rfl ?_ | refine aCallT_fold rfl ?_)
   (first | refine aCallU_p (hfd) ?_ | refine aCallTU_p (hfd) ?_ | refine aCallU_of (hfd) ?_ | refine aCallTU_of (hfd) rfl ?_ | refine aCallTU_of (hfd) (by simp [AV.pur]; rfl) ?_)
   try simp
   refine ⟨fun h=>tyR_gives ?_,fun hf=>?_⟩
   ·rw [hun,if_pos h]; simp [R.get,R.num]
   rw [if_neg (by simp [hf])] at hun
   have ha:=(fieldsS_eq hs v n a.length).2 hf
   -- what comes behind
   have rest:(op = oLit→checkV v 0 = 0)→expr_check_J1 (.p (.int .i64 d)) (.bptr 0 0) (.bptr 1 0) (.bptr 2 0) (.bptr 3 0)
     [.box [.p (.str op),.p (.int .i64 v.k),.p (.int .i64 v.i),.p (.bool v.b),.p (.str v.s),.p (.slice (v.t.map encV)),.p (.int .i64 n),.p (.slice (a.map encE))],.box [.p (.int .i64 t.kind),.p (.slice (t.of.map encT))],.box [.p (.int .i64 0),.full []],
      .box [.p (.int .i64 s.least),.p (.int .i64 s.most),.p (.slice (s.of.map (.int .i64))),.p (.bool s.alike),.p (.int .i64 s.out)]] (fun u H'=>Gives 0 u H' (tyR (ckE (.mk op v n a) t d)) []):=by
    intro hlv
    rw [if_neg (fun h=>h.2 (hlv h.1))] at hun
    simp [expr_check_J1]
    intro _
    refine loop_by (σ:=Nat × List Ty) (n:=5) (fun q=>[.own 4 (q.2.map encT),.p (.int .i64 q.1)])
     (fun q=>[.box [.p (.str op),.p (.int .i64 v.k),.p (.int .i64 v.i),.p (.bool v.b),.p (.str v.s),.p (.slice (v.t.map encV)),.p (.int .i64 n),.p (.slice (a.map encE))],.box [.p (.int .i64 t.kind),.p (.slice (t.of.map encT))],.box [.p (.int .i64 0),.full []],
      .box [.p (.int .i64 s.least),.p (.int .i64 s.most),.p (.slice (s.of.map (.int .i64))),.p (.bool s.alike),.p (.int .i64 s.out)],.row q.2.length 2])
     (fun q=>q.1 ≤ a.length ∧ ckL (a.take q.1) t (d + 1) = .ok q.2 ∧ q.2.length = q.1) (fun q=>a.length - q.1) [.slot 0 2] (0,[]) (fun _=>rfl) (by simp [ghosts,ghost]) ⟨by simp,by simp [ckL],rfl⟩ (fun q B hq hB=>?_)
    obtain ⟨j,l⟩:=q
    obtain ⟨q1,q2,q3⟩:=hq
    simp only at q1 q2 q3
    simp [expr_check_L1]
    refine ⟨fun hlt=>?_,fun hge=>?_⟩
    ·have hm:a[j] ∈ a:=by simp
     have hsn:=ckL_snoc t (d + 1) a j l hlt q2
     simp [hlt]
     rw [IntWalk.i64_in _ (by omega)]
     have hrec:=check4_spec a[j] t (d + 1) (by omega) (by omega) (hsub _ hm) ht
     cases hck:ckE a[j] t (d + 1) with
     | er f =>
      rw [hck] at hrec
      simp only [tyR] at hrec
      have hne:=ckE_er _ _ _ _ hck
      simp only [hck] at hsn
      have h5:=ckL_er_take t (d + 1) a (j + 1) f hsn
      (first | refine aCall_fold rfl ?_ | refine aCallT_fold rfl ?_)
      (first | refine aCallU_p (hrec) ?_ | refine aCallTU_p (hrec) ?_ | refine aCallU_of (hrec) ?_ | refine aCallTU_of (hrec) rfl ?_ | refine aCallTU_of (hrec) (by simp [AV.pur]; rfl) ?_)
      try simp [R.num,R.get,hne]
      refine tyR_gives ?_
      rw [hun,h5]
      simp [R.get,R.num]
     | ok u =>
      rw [hck] at hrec
      simp only [tyR] at hrec
      simp only [hck] at hsn
      (first | refine aCall_fold rfl ?_ | refine aCallT_fold rfl ?_)
      (first | refine aCallU_p (hrec) ?_ | refine aCallTU_p (hrec) ?_ | refine aCallU_of (hrec) ?_ | refine aCallTU_of (hrec) rfl ?_ | refine aCallTU_of (hrec) (by simp [AV.pur]; rfl) ?_)
      try simp [R.num,R.get]
      refine ⟨⟨by simp,by simp,by simp; omega⟩, ?_⟩
      rw [IntWalk.i64_in _ (by omega)]
      refine cast (congrArg (fun x=>B x _) ?_) (hB (j + 1,l ++ [u]) _ ⟨by simp; omega,hsn,by simp [q3]⟩ (by simp; omega) ?_ ?_ ?_ (by simp [AV.under,AV.under1]))
      ·simp
      ·simp
      ·simp [Ob.below,AV.under1]
      ·simp
    ·have:j = a.length:=by omega
     subst this
     rw [List.take_of_length_le (Nat.le_refl _)] at q2
     have hlen:=ckL_length a t (d + 1) l q2
     rw [q2] at hun
     simp only at hun
     have hft:=fits_spec s l (by have:=ha.1; omega) (fun h=>by have:=h2 h; have:=ha.1; omega) (by omega)
     simp only [encSh] at hft
     (first | refine aCall_fold rfl ?_ | refine aCallT_fold rfl ?_)
     (first | refine aCallU_p (hft) ?_ | refine aCallTU_p (hft) ?_ | refine aCallU_of (hft) ?_ | refine aCallTU_of (hft) rfl ?_ | refine aCallTU_of (hft) (by simp [AV.pur]; rfl) ?_)
     try simp
     refine ⟨fun h=>tyR_gives ?_,fun h=>?_⟩
     ·rw [hun,if_pos h]; simp [R.get,R.num]
     ·rw [if_neg (by simp [h])] at hun
      (first | refine aCall_fold rfl ?_ | refine aCallT_fold rfl ?_)
      (first | refine aCallU_p (clipT_spec l) ?_ | refine aCallTU_p (clipT_spec l) ?_ | refine aCallU_of (clipT_spec l) ?_ | refine aCallTU_of (clipT_spec l) rfl ?_ | refine aCallTU_of (clipT_spec l) (by simp [AV.pur]; rfl) ?_)
      try simp
      have hcm:=comes_spec op v n a s l t (fun _=>hv) (fun h=>by have:=h3 h; have:=ha.1; omega) (fun h=>by have:=h4 h; have:=ha.1; omega) (fun h=>?_)
      ·simp only [encSh] at hcm
       rw [← hun] at hcm
       simp only [tyR] at hcm
       (first | refine aCall_fold rfl ?_ | refine aCallT_fold rfl ?_)
       (first | refine aCallU_p (hcm) ?_ | refine aCallTU_p (hcm) ?_ | refine aCallU_of (hcm) ?_ | refine aCallTU_of (hcm) rfl ?_ | refine aCallTU_of (hcm) (by simp [AV.pur]; rfl) ?_)
       try simp
       exact gives_pure (by simp [AV.pur,tyR])
      ·match l with
       | []=>simp
       | u :: r =>
        have:=checkT_of (ckL_valid a t (d + 1) _ q2 ht u (by simp))
        simp
        omega
   refine ⟨fun hop=>?_,fun hlit=>rest (fun h=>absurd h hlit)⟩
   have hop:op = oLit:=hop
   (first | refine aCall_fold rfl ?_ | refine aCallT_fold rfl ?_)
   (first | refine aCallU_p (Checkv_spec v) ?_ | refine aCallTU_p (Checkv_spec v) ?_ | refine aCallU_of (Checkv_spec v) ?_ | refine aCallTU_of (Checkv_spec v) rfl ?_ | refine aCallTU_of (Checkv_spec v) (by simp [AV.pur]; rfl) ?_)
   try simp
   refine ⟨fun h=>tyR_gives ?_,fun h=>rest (fun _=>h)⟩
   rw [hun,if_pos ⟨hop,h⟩]; simp [R.get,R.num]
termination_by e=>SizeOf.sizeOf e
decreasing_by
 have:=List.sizeOf_lt_of_mem hm
 simp
 omega
end Go.Proofs.YtdmgbhamigegfaaGreatDoor
end

section
/- How great a type is, as the laws measure it. -/
set_option linter.unusedSimpArgs false
set_option linter.unusedVariables false
namespace Go.Proofs.YtdmgbhamigegfaaGreatDoor
open Go Go.Abs
attribute [local irreducible] Abs.Fn
theorem CheckE_spec (e:Ex) (t:Ty) (he:We 1000000000 e) (hs:sizeE e ≤ 1000000000):Abs.Fn Tryz.prog expr_Check_i [] [.p (encE e),.p (encT t)] (tyR (checkE e t)) []:=by
 apply expr_Check_fn
 simp [expr_Check]
 (first | refine aCall_fold rfl ?_ | refine aCallT_fold rfl ?_)
 (first | refine aCallU_p (Check_spec t) ?_ | refine aCallTU_p (Check_spec t) ?_ | refine aCallU_of (Check_spec t) ?_ | refine aCallTU_of (Check_spec t) rfl ?_ | refine aCallTU_of (Check_spec t) (by simp [AV.pur]; rfl) ?_)
 try simp
 refine ⟨fun h=>tyR_gives (by simp [checkE,h,R.get,R.num]),fun h=>?_⟩
 (first | refine aCall_fold rfl ?_ | refine aCallT_fold rfl ?_)
 (first | refine aCallU_p (size_spec e hs) ?_ | refine aCallTU_p (size_spec e hs) ?_ | refine aCallU_of (size_spec e hs) ?_ | refine aCallTU_of (size_spec e hs) rfl ?_ | refine aCallTU_of (size_spec e hs) (by simp [AV.pur]; rfl) ?_)
 try simp
 refine ⟨fun h2=>tyR_gives ?_,fun h2=>?_⟩
 ·simp only [checkE]; rw [if_neg (by simpa using h),if_pos (by omega)]; simp [R.get,R.num]
 ·have hc:=check4_spec e t 0 (by omega) (by omega) he h
  have:checkE e t = ckE e t 0:=by simp only [checkE]; rw [if_neg (by simpa using h),if_neg (by omega)]
  rw [this]
  (first | refine aCall_fold rfl ?_ | refine aCallT_fold rfl ?_)
  (first | refine aCallU_p (hc) ?_ | refine aCallTU_p (hc) ?_ | refine aCallU_of (hc) ?_ | refine aCallTU_of (hc) rfl ?_ | refine aCallTU_of (hc) (by simp [AV.pur]; rfl) ?_)
  try simp [tyR]
  exact gives_pure (by simp [AV.pur])
end Go.Proofs.YtdmgbhamigegfaaGreatDoor
end
