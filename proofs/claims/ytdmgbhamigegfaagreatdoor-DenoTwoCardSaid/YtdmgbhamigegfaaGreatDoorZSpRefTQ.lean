/- What typ.Same answers, over trees. -/
import Derived.Test.YtdmgbhamigegfaaGreatDoorZSpTyp

section
/- What typ.Same answers, over trees. -/
namespace Go.Proofs.YtdmgbhamigegfaaGreatDoor
open Go Go.Abs
theorem equalFunc_spec {α β:Type} (l:List α) (q:List β) (ea:α→T) (eb:β→T) (f:Nat) (g:α→β→Bool) (ha:∀ e ∈ l,∃ a b,ea e = .agg [a,b]) (hb:∀ e ∈ q,∃ a b,eb e = .agg [a,b])
  (hf:∀ a ∈ l,∀ b ∈ q,Abs.Fn Tryz.prog f [] [.p (ea a),.p (eb b)] (.p (.bool (g a b))) []) :
  Abs.Fn Tryz.prog slices_EqualFunc_typ_Type_typ_Type_typ_Type_typ_Type_i [] [.p (.slice (l.map ea)),.p (.slice (q.map eb)),.p (.func f [])] (.p (.bool (allP g l q))) []:=by
 apply slices_EqualFunc_typ_Type_typ_Type_typ_Type_typ_Type_fn
 simp [slices_EqualFunc_typ_Type_typ_Type_typ_Type_typ_Type]
 intro hl hq
 refine ⟨fun h=>gives_p (by rw [allP_length g l q (by omega)]),fun h _=>?_⟩
 have hlen:l.length = q.length:=by omega
 refine loop_by (σ:=Nat) (n:=0) (fun i=>[.p (.int .i64 i)]) (fun _=>[]) (fun i=>i ≤ l.length ∧ allP g (l.drop i) (q.drop i) = allP g l q) (fun i=>l.length - i) [] 0 (fun _=>rfl) ⟨rfl,rfl⟩ (by simp) (fun i B hi hB=>?_)
 obtain ⟨h1,h2⟩:=hi
 simp [slices_EqualFunc_typ_Type_typ_Type_typ_Type_typ_Type_L1]
 constructor
 ·intro hlt
  have hlt':i < q.length:=by omega
  obtain ⟨a,b,hab⟩:=ha l[i] (by simp)
  obtain ⟨c,d,hcd⟩:=hb q[i] (by simp)
  have hfm:=hf l[i] (by simp) q[i] (by simp)
  have hd:=allP_drop g l q i hlt hlt'
  rw [h2] at hd
  rw [hab,hcd] at hfm
  simp [hlt,hab,hlt',hcd]
  refine aCall_p rfl hfm ?_
  simp
  refine ⟨fun hz=>gives_p (by simp [hd,hz]),fun hz=>?_⟩
  rw [IntWalk.i64_in _ (by simp [maxLen] at hl; omega)]
  exact hB (i + 1) _ ⟨by omega,by simp [hd,hz]⟩ (by omega) (by simp) (by simp) (by simp) (by simp [AV.under,AV.under1])
 ·intro hge
  have:i = l.length:=by omega
  subst this
  exact gives_p (by rw [← h2,List.drop_of_length_le (Nat.le_refl _),List.drop_of_length_le (by omega)]; rfl)
mutual
def sameT:Ty→Ty→Bool
 | .mk k of,.mk k' of'=>decide (k = k') && sameTs of of'
def sameTs:List Ty→List Ty→Bool
 | [],[]=>true
 | a :: r,b :: q=>sameT a b && sameTs r q
 | _,_=>false
end
theorem sameTs_eq:∀ l q:List Ty,sameTs l q = allP sameT l q
 | [],[]=>by simp [sameTs,allP]
 | [],_ :: _=>by simp [sameTs,allP]
 | _ :: _,[]=>by simp [sameTs,allP]
 | a :: r,b :: q=>by simp [sameTs,allP,sameTs_eq r q]
theorem same_spec (a b:Ty):Abs.Fn Tryz.prog typ_Same_i [] [.p (encT a),.p (encT b)] (.p (.bool (sameT a b))) []:=by
 apply typ_Same_fn
 obtain ⟨k,of⟩:=a
 obtain ⟨k',of'⟩:=b
 simp [typ_Same]
 refine aMerge_intro (sameTs of of') (fun hk=>?_) (gives_p (by simp [sameT]))
 refine aCall_p rfl (equalFunc_spec of of' encT encT typ_Same_i sameT (fun e _=>encT_agg e) (fun e _=>encT_agg e) ?_) ⟨by simp,by rw [sameTs_eq]⟩
 intro a ha b hb
 exact same_spec a b
termination_by SizeOf.sizeOf a
decreasing_by
 have:=List.sizeOf_lt_of_mem ha
 simp
 omega
mutual
theorem sameT_iff:∀ a b:Ty,sameT a b = true ↔ a = b
 | .mk k of,.mk k' of'=>by simp [sameT,sameTs_iff of of']
theorem sameTs_iff:∀ a b:List Ty,sameTs a b = true ↔ a = b
 | [],[]=>by simp [sameTs]
 | [],_ :: _=>by simp [sameTs]
 | _ :: _,[]=>by simp [sameTs]
 | a :: r,b :: q=>by simp [sameTs,sameT_iff a b,sameTs_iff r q]
end
end Go.Proofs.YtdmgbhamigegfaaGreatDoor
end

section
/- The document's types: what Of, checkType, CheckType, SameType answer, over trees. -/
namespace Go.Proofs.YtdmgbhamigegfaaGreatDoor
open Go Go.Abs
inductive Wd (n:Nat):Ty→Prop where
 | mk (k:Int) (of:List Ty) (h:of.length ≤ n) (ho:∀ t ∈ of,Wd n t):Wd n (.mk k of)
theorem Wd.mono {n m:Nat} (hnm:n ≤ m) {t:Ty} (h:Wd n t):Wd m t:=by
 induction h with
 | mk k of h _ ih=>exact .mk k of (by omega) ih
end Go.Proofs.YtdmgbhamigegfaaGreatDoor
end
