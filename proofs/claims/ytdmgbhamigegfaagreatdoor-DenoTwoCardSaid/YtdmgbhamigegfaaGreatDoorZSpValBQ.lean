/- What strings.Compare answers, over trees. -/
import Derived.Test.YtdmgbhamigegfaaGreatDoorS1
import Derived.Test.YtdmgbhamigegfaaGreatDoorZPuVal
import Derived.Lib.Strings
import Derived.Lib.Slices
import Derived.Lib.Walk
import Derived.Lib.Bytealg
import Derived.Test.YtdmgbhamigegfaaGreatDoorZSpRefTQ

section
/- What strings.Compare answers, over trees. -/
set_option linter.unusedSimpArgs false
set_option linter.unusedVariables false
namespace Go.Proofs.YtdmgbhamigegfaaGreatDoor
open Go Go.RowKit Go.Abs
set_option maxHeartbeats 1000000 in
set_option maxRecDepth 100000 in
theorem bytealg_CompareString (a b:ByteArray) (w:World) :
  Calls Tryz.prog 143 #[.string a,.string b] w fun e w'=>e = .returned (.int .i64 (Lib.compareBytes a.data.toList b.data.toList)) ∧ w' = w:=by
 go_enter Tryz.func143,Tryz.ntmps143
 go_wp2
 rw [run_callFunc_extern Tryz.func173 (by kernel_rfl) (by kernel_rfl) (by kernel_rfl) (e:=Extern.BytealgCompare.compare) (by kernel_rfl),Lib.run_compareString]
 simp only [Result.andThen]
 rw [Oper.upon_value]
 go_wp2
 go_ret
 exact ⟨rfl,rfl⟩
theorem cmpB_eq:∀ a b:List UInt8,Lib.compareBytes a b = cmpS a b
 | [],[]=>by simp [Lib.compareBytes,cmpS,Op.bytesLess]
 | [],_ :: _=>by simp [Lib.compareBytes,cmpS,Op.bytesLess]
 | _ :: _,[]=>by simp [Lib.compareBytes,cmpS,Op.bytesLess]
 | a :: r,b :: q=>by
  have ih:=cmpB_eq r q
  simp only [Lib.compareBytes,ih,cmpS,Op.bytesLess,List.cons.injEq]
  by_cases h1:a < b
  ·simp [h1]
  ·by_cases h2:b < a
   ·have:a ≠ b:=by rintro rfl; exact h1 h2
    simp [h1,h2,this]
   ·have:a = b:=by
     have:=UInt8.le_antisymm (UInt8.not_lt.1 h2) (UInt8.not_lt.1 h1)
     exact this
    subst this
    simp [h1]
theorem cmpStr_spec (a b:List UInt8):Abs.Fn Tryz.prog strings_Compare_i [] [.p (.str a),.p (.str b)] (.p (.int .i64 (cmpS a b))) []:=by
 have h0:Abs.Fn Tryz.prog internal_bytealg_CompareString_i [] [.p (.str a),.p (.str b)] (.p (.int .i64 (cmpS a b))) []:=by
  refine fn_below (by kernel_rfl) (fun w G vs hi hv=>?_)
  obtain ⟨hsz,hv⟩:=hv
  have h0:=repA_p.1 (hv 0 _ rfl)
  have h1:=repA_p.1 (hv 1 _ rfl)
  obtain ⟨v0,v1,rfl⟩:∃ v0 v1,vs = #[v0,v1]:=by
   obtain ⟨l⟩:=vs
   match l,hsz with
   | [a,b],_=>exact ⟨a,b,rfl⟩
  replace h0:RepT G.rd _ v0:=h0
  replace h1:RepT G.rd _ v1:=h1
  obtain ⟨rfl,_⟩:=repT_str.1 h0
  obtain ⟨rfl,_⟩:=repT_str.1 h1
  refine (bytealg_CompareString _ _ w).mono ?_
  rintro e w' ⟨rfl,rfl⟩
  exact ⟨_,rfl,by rw [cmpB_eq]; exact .p _ _ (.int _ _),Below.refl _ _,Nat.le_refl _⟩
 apply strings_Compare_fn
 simp [strings_Compare]
 exact aCall_p rfl h0 (gives_p rfl)
end Go.Proofs.YtdmgbhamigegfaaGreatDoor
end

section
/- What the functions of the package val, and the document's, answer of values, over trees. -/
set_option linter.unusedSimpArgs false
set_option linter.unusedVariables false
namespace Go.Proofs.YtdmgbhamigegfaaGreatDoor
open Go Go.Abs
theorem Int_spec (n:Int):Abs.Fn Tryz.prog val_Int_i [] [.p (.int .i64 n)] (.p (encV (intV n))) []:=by
 apply val_Int_fn
 simp [val_Int]
 exact gives_pure (by simp [AV.pur,intV])
theorem Bool_spec (b:Bool):Abs.Fn Tryz.prog val_Bool_i [] [.p (.bool b)] (.p (encV (boolV b))) []:=by
 apply val_Bool_fn
 simp [val_Bool]
 exact gives_pure (by simp [AV.pur,boolV])
theorem Str_spec (s:List UInt8):Abs.Fn Tryz.prog val_Str_i [] [.p (.str s)] (.p (encV (strV s))) []:=by
 apply val_Str_fn
 simp [val_Str]
 exact gives_pure (by simp [AV.pur,strV])
theorem cloneV_spec (l:List Va) (h:l.length ≤ 1000000000):Abs.Fn Tryz.prog slices_Clone_val_Value_val_Value_i [] [.p (.slice (l.map encV))] (.p (.slice (l.map encV))) []:=by
 refine fn_nil_cases (fun he=>?_) ?_
 ·apply slices_Clone_val_Value_val_Value_fn
  simp [slices_Clone_val_Value_val_Value]
  exact gives_pure (by simp [AV.pur,he])
 ·apply slices_Clone_val_Value_val_Value_fn
  simp [slices_Clone_val_Value_val_Value]
  exact ⟨⟨by simp,encV_size l,by simp; omega⟩,gives_pure (by simp [AV.pur])⟩
theorem clipV_spec (l:List Va):Abs.Fn Tryz.prog slices_Clip_val_Value_val_Value_i [] [.p (.slice (l.map encV))] (.p (.slice (l.map encV))) []:=by
 apply slices_Clip_val_Value_val_Value_fn
 simp [slices_Clip_val_Value_val_Value]
 intro _
 simp [aSliceSl,atSize]
 exact gives_pure (by simp [AV.pur,List.take_of_length_le])
theorem Tup_spec (l:List Va) (h:l.length ≤ 1000000000):Abs.Fn Tryz.prog val_Tup_i [] [.p (.slice (l.map encV))] (.p (encV (tupV l))) []:=by
 apply val_Tup_fn
 simp [val_Tup]
 refine aCall_p rfl (cloneV_spec l h) ?_
 simp
 refine aCall_p rfl (clipV_spec l) ?_
 simp
 exact gives_pure (by simp [AV.pur,tupV])
theorem spare_spec (v:Va):Abs.Fn Tryz.prog val_spare_i [] [.p (encV v)] (.p (.bool (spareV v))) []:=by
 apply val_spare_fn
 obtain ⟨k,i,b,s,t⟩:=v
 simp [val_spare]
 exact gives_p (by simp [spareV])
theorem checkv_spec:∀ (v:Va) (d:Int) (_:0 ≤ d) (_:d ≤ 100),Abs.Fn Tryz.prog val_check_i [] [.p (encV v),.p (.int .i64 d)] (.p (.int .i64 (checkV v d))) []
 | .mk k i b s t,d,h0,h1=>by
  apply val_check_fn
  have hsp:=spare_spec (.mk k i b s t)
  simp only [encV_mk] at hsp
  simp [val_check]
  refine ⟨fun h=>gives_p (by simp only [checkV]; grind),fun hk1 hk2=>aCall_p rfl hsp ?_⟩
  simp
  refine ⟨fun h=>gives_p (by simp only [checkV]; grind),fun hs _=>⟨fun h=>gives_p (by simp only [checkV]; grind),fun hl=>⟨fun h=>gives_p (by simp only [checkV]; grind),fun h4 _=>?_⟩⟩⟩
  subst h4
  refine aCall_p rfl (row_spec _ _) ?_
  simp
  have he:checkV (.mk 4 i b s t) d = if rowE t.length d ≠ 0 then rowE t.length d else firstE (fun v=>checkV v (d + 1)) t:=by
   simp only [checkV,checkVs_eq]
   grind
  refine loop_by (σ:=Nat × Int) (n:=1) (fun q=>[.p (.int .i64 q.2),.p (.int .i64 q.1)]) (fun q=>[.box [.p (.int .i64 4),.p (.int .i64 i),.p (.bool b),.p (.str s),.p (.slice (t.map encV))]])
   (fun q=>q.1 ≤ t.length ∧ (q.2 ≠ 0→checkV (.mk 4 i b s t) d = q.2) ∧ (q.2 = 0→rowE t.length d = 0 ∧ firstE (fun v=>checkV v (d + 1)) (t.drop q.1) = checkV (.mk 4 i b s t) d)) (fun q=>t.length - q.1) [] (0,rowE t.length d) (fun _=>rfl) ⟨rfl,rfl⟩
   ⟨by simp,fun h=>by rw [he]; simp [h],fun h=>⟨h,by have h:rowE t.length d = 0:=h; rw [he]; simp [h]⟩⟩ (fun q B hq hB=>?_)
  obtain ⟨j,e⟩:=q
  obtain ⟨g1,g2,g3⟩:=hq
  simp only at g1 g2 g3
  simp [val_check_L1]
  intro _
  refine ⟨fun hlt hez=>?_,fun hx=>gives_p ?_⟩
  ·subst hez
   obtain ⟨g4,g5⟩:=g3 rfl
   obtain ⟨a,b',c,d',f,hab⟩:=encV_agg t[j]
   have hm:t[j] ∈ t:=by simp
   have hd4:d ≤ 4:=by unfold rowE at g4; grind
   have ih:=checkv_spec t[j] (d + 1) (by omega) (by omega)
   have hdr:=firstE_drop (fun v=>checkV v (d + 1)) t j hlt
   rw [g5] at hdr
   rw [hab] at ih
   simp [hlt,hab]
   rw [IntWalk.i64_in _ (by omega)]
   refine aCall_p rfl ih ?_
   simp
   rw [IntWalk.i64_in _ (by unfold rowE at g4; grind)]
   exact hB (j + 1,checkV t[j] (d + 1)) _ ⟨by simp; omega,fun hz=>by rw [hdr]; simp at hz; simp [hz],fun hz=>by simp at hz; exact ⟨g4,by rw [hdr]; simp [hz]⟩⟩ (by simp; omega) (by simp) (by simp [Ob.below,AV.under1]) (by simp) (by simp [AV.under,AV.under1])
  ·by_cases hez:e = 0
   ·subst hez
    obtain ⟨g4,g5⟩:=g3 rfl
    have:j = t.length:=by
     rcases Nat.lt_or_ge j t.length with h | h
     ·exact absurd rfl (hx h)
     ·omega
    subst this
    rw [← g5]
    simp [firstE]
   ·rw [g2 hez]
termination_by v=>SizeOf.sizeOf v
decreasing_by
 have:=List.sizeOf_lt_of_mem hm
 simp
 omega
theorem Checkv_spec (v:Va):Abs.Fn Tryz.prog val_Check_i [] [.p (encV v)] (.p (.int .i64 (checkV v 0))) []:=by
 apply val_Check_fn
 have:=checkv_spec v 0 (by omega) (by omega)
 obtain ⟨k,i,b,s,t⟩:=v
 simp [val_Check]
 exact aCall_p rfl (by simpa using this) (gives_p rfl)
theorem kind_spec {v:Va} (h:Wv 1000000000 v):Abs.Fn Tryz.prog val_kind_i [] [.p (encV v)] (.p (encT (kindV v))) []:=by
 induction h with
 | mk k i b s t hs hl ho ih =>
  apply val_kind_fn
  simp [val_kind]
  intro _
  refine loop_by (σ:=Nat) (n:=4) (fun j=>[.p (.int .i64 j)]) (fun j=>[.box [.p (.int .i64 k),.p (.int .i64 i),.p (.bool b),.p (.str s),.p (.slice (t.map encV))],.box [.p (.int .i64 0),.full []],.box [.p (.int .i64 k),.own 3 ((t.map fun v=>encT (kindV v)).take j)],.row j 2])
   (fun j=>j ≤ t.length) (fun j=>t.length - j) [.cell 2 1 2] 0 (fun _=>rfl) ⟨rfl,rfl⟩ (by simp) (fun j B hj hB=>?_)
  simp [val_kind_L1]
  refine ⟨fun hlt=>?_,fun hge=>?_⟩
  ·obtain ⟨a,b',c,d',f,hab⟩:=encV_agg t[j]
   obtain ⟨a2,b2,hab2⟩:=encT_agg (kindV t[j])
   have hi:=ih t[j] (by simp)
   rw [hab,hab2] at hi
   simp [hlt,hab]
   refine aCallT_of rfl hi rfl ?_
   simp
   refine ⟨by omega,⟨fun e he=>by have:=List.mem_of_mem_take he; simp at this; obtain ⟨x,_,rfl⟩:=this; simp,by simp,by simp; omega⟩, ?_⟩
   simp (disch:=omega) only [IntWalk.i64_in]
   have:(t.map fun v=>encT (kindV v)).take j ++ [encT (kindV t[j])] = (t.map fun v=>encT (kindV v)).take (j + 1):=take_snoc_map hlt
   rw [hab2] at this
   rw [this]
   exact hB (j + 1) _ (by omega) (by omega) (by simp) (by simp [Ob.below,AV.under1]) (by simp) (by simp [AV.under,AV.under1])
  ·rw [List.take_of_length_le (by simpa using hge)]
   exact gives_pure (by simp [AV.pur,Function.comp_def])
theorem of2_spec {v:Va} (h:Wv 1000000000 v):Abs.Fn Tryz.prog runnellaw2_Of_i [] [.p (encV v)] (.p (encV v)) []:=by
 induction h with
 | mk k i b s t hs hl ho ih =>
  apply runnellaw2_Of_fn
  simp [runnellaw2_Of]
  refine loop_by (σ:=Nat) (n:=4) (fun j=>[.p (.int .i64 j)]) (fun j=>[.box [.p (.int .i64 k),.p (.int .i64 i),.p (.bool b),.p (.str s),.p (.slice (t.map encV))],.box [.p (.int .i64 0),.p (.int .i64 0),.p (.bool false),.p (.str []),.full []],
   .box [.p (.int .i64 k),.p (.int .i64 i),.p (.bool b),.p (.str s),.own 3 ((t.map encV).take j)],.row j 5])
   (fun j=>j ≤ t.length) (fun j=>t.length - j) [.cell 2 4 5] 0 (fun _=>rfl) ⟨rfl,rfl⟩ (by simp) (fun j B hj hB=>?_)
  simp [runnellaw2_Of_L1]
  intro _
  refine ⟨fun hlt=>?_,fun hge=>?_⟩
  ·obtain ⟨a,b',c,d',f,hab⟩:=encV_agg t[j]
   have hi:=ih t[j] (by simp)
   rw [hab] at hi
   simp [hlt,hab]
   refine aCallT_of rfl hi rfl ?_
   simp
   refine ⟨by omega,⟨encV_sizeT t j,by simp,by simp; omega⟩, ?_⟩
   simp (disch:=omega) only [IntWalk.i64_in]
   have:=take_snoc (l:=t.map encV) (i:=j) (by simpa using hlt)
   simp only [List.getElem_map,hab] at this
   rw [this]
   exact hB (j + 1) _ (by omega) (by omega) (by simp) (by simp [Ob.below,AV.under1]) (by simp) (by simp [AV.under,AV.under1])
  ·rw [List.take_of_length_le (by simpa using hge)]
   exact gives_pure (by simp [AV.pur,Function.comp_def])
theorem checkValue_spec:∀ (v:Va) (d:Int) (_:0 ≤ d) (_:d ≤ 100),Abs.Fn Tryz.prog runnelref6_checkValue_i [] [.p (encV v),.p (.int .i64 d)] (.p (.int .i64 (checkV v d))) []
 | .mk k i b s t,d,h0,h1=>by
  apply runnelref6_checkValue_fn
  simp [runnelref6_checkValue]
  refine ⟨fun h=>gives_p (by simp only [checkV]; grind),fun hk1 hk2=>⟨fun h=>gives_p (by simp only [checkV,spareV]; simp; grind),fun hs1 hs2 hs3 hs4 _=>?_⟩⟩
  have hsp:spareV (.mk k i b s t) = false:=by
   simp only [spareV]
   simp
   exact ⟨⟨⟨hs1,hs2⟩,hs3⟩,hs4⟩
  refine ⟨fun h=>gives_p ?_,fun hl=>⟨fun h=>gives_p ?_,fun h4 _=>⟨fun hz=>gives_p ?_,fun hz _=>⟨fun h8=>gives_p ?_,fun h8=>⟨fun hd=>gives_p ?_,fun hd=>?_⟩⟩⟩⟩⟩
  ·simp only [checkV,hsp]; grind
  ·simp only [checkV,hsp]; grind
  ·simp only [checkV,hsp,rowE]; simp [hz]; grind
  ·have:(t.length:Int) ≠ 0:=by simpa using hz
   simp only [checkV,hsp,rowE]; grind
  ·have:(t.length:Int) ≠ 0:=by simpa using hz
   simp only [checkV,hsp,rowE]; grind
  ·subst h4
   have hnz:(t.length:Int) ≠ 0:=by simpa using hz
   have he:checkV (.mk 4 i b s t) d = firstE (fun v=>checkV v (d + 1)) t:=by
    simp only [checkV,checkVs_eq,hsp,rowE]
    grind
   refine loop_by (σ:=Nat) (n:=1) (fun j=>[.p (.int .i64 j)]) (fun j=>[.box [.p (.int .i64 4),.p (.int .i64 i),.p (.bool b),.p (.str s),.p (.slice (t.map encV))]]) (fun j=>j ≤ t.length ∧ firstE (fun v=>checkV v (d + 1)) (t.drop j) = firstE (fun v=>checkV v (d + 1)) t) (fun j=>t.length - j) [] 0 (fun _=>rfl) ⟨rfl,rfl⟩ (by simp) (fun j B hj hB=>?_)
   obtain ⟨hj1,hj2⟩:=hj
   simp [runnelref6_checkValue_L1]
   intro _
   refine ⟨fun hlt=>?_,fun hge=>?_⟩
   ·obtain ⟨a,b',c,d',f,hab⟩:=encV_agg t[j]
    have hm:t[j] ∈ t:=by simp
    have ih:=checkValue_spec t[j] (d + 1) (by omega) (by omega)
    have hdr:=firstE_drop (fun v=>checkV v (d + 1)) t j hlt
    rw [hj2] at hdr
    rw [hab] at ih
    simp [hlt,hab]
    rw [IntWalk.i64_in _ (by omega)]
    refine aCall_p rfl ih ?_
    simp
    refine ⟨fun hz=>gives_p (by simp [he,hdr,hz]),fun hz=>?_⟩
    rw [IntWalk.i64_in _ (by omega)]
    exact hB (j + 1) _ ⟨by omega,by simp [hdr,hz]⟩ (by omega) (by simp) (by simp [Ob.below,AV.under1]) (by simp) (by simp [AV.under,AV.under1])
   ·have:j = t.length:=by omega
    subst this
    exact gives_p (by rw [he,← hj2]; simp [firstE])
termination_by v=>SizeOf.sizeOf v
decreasing_by
 have:=List.sizeOf_lt_of_mem hm
 simp
 omega
theorem CheckValue_spec (v:Va):Abs.Fn Tryz.prog runnelref6_CheckValue_i [] [.p (encV v)] (.p (.int .i64 (checkV v 0))) []:=by
 apply runnelref6_CheckValue_fn
 have:=checkValue_spec v 0 (by omega) (by omega)
 obtain ⟨k,i,b,s,t⟩:=v
 simp [runnelref6_CheckValue]
 exact aCall_p rfl (by simpa using this) (gives_p rfl)
mutual
def budV:Va→Int→Int→Int
 | .mk _ _ _ s t,d,l=>if l ≤ 0 ∨ d ≤ 0 ∨ 20 < t.length ∨ 300 < s.length then 0 else budVs t (d - 1) (l - 1)
def budVs:List Va→Int→Int→Int
 | [],_,l=>l
 | v :: r,d,l=>if l ≤ 0 then l else budVs r d (budV v d l)
end
mutual
theorem budV_le:∀ (v:Va) (d l:Int),0 ≤ l→0 ≤ budV v d l ∧ budV v d l ≤ l
 | .mk k i b s t,d,l,h=>by
  simp only [budV]
  split
  ·omega
  ·have:=budVs_le t (d - 1) (l - 1) (by omega)
   omega
theorem budVs_le:∀ (r:List Va) (d l:Int),0 ≤ l→0 ≤ budVs r d l ∧ budVs r d l ≤ l
 | [],d,l,h=>by simp [budVs]; omega
 | v :: r,d,l,h=>by
  simp only [budVs]
  split
  ·omega
  ·have h1:=budV_le v d l h
   have h2:=budVs_le r d (budV v d l) h1.1
   omega
end
theorem budVs_pos:∀ (r:List Va) (d l:Int),0 < budVs r d l→0 < l
 | [],d,l,h=>by simpa [budVs] using h
 | v :: r,d,l,h=>by
  simp only [budVs] at h
  split at h
  ·omega
  ·omega
mutual
theorem budV_small:∀ (v:Va) (d l:Int),0 < budV v d l→Wv 300 v
 | .mk k i b s t,d,l,h=>by
  simp only [budV] at h
  split at h
  ·omega
  ·refine .mk k i b s t (by omega) (by omega) (budVs_small t (d - 1) (l - 1) h)
theorem budVs_small:∀ (r:List Va) (d l:Int),0 < budVs r d l→∀ v ∈ r,Wv 300 v
 | [],d,l,h=>by simp
 | v :: r,d,l,h=>by
  simp only [budVs] at h
  split at h
  ·omega
  ·intro x hx
   simp only [List.mem_cons] at hx
   rcases hx with rfl | hx
   ·exact budV_small x d l (budVs_pos r d _ h)
   ·exact budVs_small r d _ h x hx
end
theorem budVs_zero:∀ (r:List Va) (d l:Int),l ≤ 0→budVs r d l = l
 | [],d,l,h=>by simp [budVs]
 | v :: r,d,l,h=>by simp [budVs,h]
theorem budV_spec:∀ (v:Va) (d l:Int) (_:0 ≤ d) (_:d ≤ 100) (_:0 ≤ l) (_:l ≤ 1000),Abs.Fn Tryz.prog runnellaw2_budget_i [] [.p (encV v),.p (.int .i64 d),.p (.int .i64 l)] (.p (.int .i64 (budV v d l))) []
 | .mk k i b s t,d,l,hd0,hd1,hl0,hl1=>by
  apply runnellaw2_budget_fn
  simp [runnellaw2_budget]
  refine ⟨fun h=>gives_p (by simp only [budV]; grind),fun h1 h2 h3 h4=>?_⟩
  rw [IntWalk.i64_in _ (by omega)]
  have he:budV (.mk k i b s t) d l = budVs t (d - 1) (l - 1):=by
   simp only [budV]
   rw [if_neg (by omega)]
  rw [he]
  refine loop_by (σ:=Nat × Int) (n:=1) (fun q=>[.p (.int .i64 q.2),.p (.int .i64 q.1)]) (fun q=>[.box [.p (.int .i64 k),.p (.int .i64 i),.p (.bool b),.p (.str s),.p (.slice (t.map encV))]])
   (fun q=>q.1 ≤ t.length ∧ 0 ≤ q.2 ∧ q.2 ≤ 1000 ∧ budVs (t.drop q.1) (d - 1) q.2 = budVs t (d - 1) (l - 1)) (fun q=>t.length - q.1) [] (0,l - 1) (fun _=>rfl) ⟨rfl,rfl⟩ ⟨by simp,by simp; omega,by simp; omega,by simp⟩ (fun q B hq hB=>?_)
  obtain ⟨j,m⟩:=q
  obtain ⟨g1,g2,g3,g4⟩:=hq
  simp only at g1 g2 g3 g4
  simp [runnellaw2_budget_L1]
  intro _
  refine ⟨fun hlt hm0=>?_,fun hx=>gives_p ?_⟩
  ·obtain ⟨a,b',c,d',f,hab⟩:=encV_agg t[j]
   have hm:t[j] ∈ t:=by simp
   have ih:=budV_spec t[j] (d - 1) m (by omega) (by omega) g2 g3
   have hle:=budV_le t[j] (d - 1) m g2
   rw [List.drop_eq_getElem_cons hlt,budVs,if_neg (by omega)] at g4
   rw [hab] at ih
   simp [hlt,hab]
   rw [IntWalk.i64_in _ (by omega)]
   refine aCall_p rfl ih ?_
   simp
   rw [IntWalk.i64_in _ (by omega)]
   exact hB (j + 1,budV t[j] (d - 1) m) _ ⟨by simp; omega,by simp; omega,by simp; omega,g4⟩ (by simp; omega) (by simp) (by simp [Ob.below,AV.under1]) (by simp) (by simp [AV.under,AV.under1])
  ·rcases Nat.lt_or_ge j t.length with hlt | hge
   ·have:=hx hlt
    rw [← g4,budVs_zero _ _ _ (by omega)]
   ·rw [← g4,List.drop_of_length_le hge]
    simp [budVs]
termination_by v=>SizeOf.sizeOf v
decreasing_by
 have:=List.sizeOf_lt_of_mem hm
 simp
 omega
def fewV (v:Va):Bool:=decide (0 < budV v 12 300)
theorem fewV_small {v:Va} (h:fewV v = true):Wv 300 v:=budV_small v 12 300 (by simpa [fewV] using h)
theorem few2_spec (v:Va):Abs.Fn Tryz.prog runnellaw2_Few_i [] [.p (encV v)] (.p (.bool (fewV v))) []:=by
 apply runnellaw2_Few_fn
 have:=budV_spec v 12 300 (by omega) (by omega) (by omega) (by omega)
 obtain ⟨k,i,b,s,t⟩:=v
 simp [runnellaw2_Few]
 refine aCall_p rfl (by simpa using this) ?_
 simp
 exact gives_p (by simp [fewV])
def goodV (v:Va):Bool:=fewV v && decide (checkV v 0 = 0)
theorem good2_spec (v:Va):Abs.Fn Tryz.prog runnellaw2_Good_i [] [.p (encV v)] (.p (.bool (goodV v))) []:=by
 apply runnellaw2_Good_fn
 have h1:=few2_spec v
 have h3:=CheckValue_spec v
 have h2:=fun h=>of2_spec ((fewV_small (v:=v) h).mono (by omega):Wv 1000000000 v)
 obtain ⟨a,b,c,d,f,hab⟩:=encV_agg v
 rw [hab] at h1 h2 h3 ⊢
 simp [runnellaw2_Good]
 refine aCall_p rfl h1 ?_
 simp
 refine aMerge_intro (decide (checkV v 0 = 0)) (fun hf=>?_) (gives_p (by simp [goodV]))
 refine aCall_p rfl (h2 hf) ?_
 simp
 refine aCall_p rfl h3 ?_
 simp
end Go.Proofs.YtdmgbhamigegfaaGreatDoor
end

section
/- What val.Compare, val.Same and the document's answer, over trees. -/
set_option linter.unusedSimpArgs false
set_option linter.unusedVariables false
namespace Go.Proofs.YtdmgbhamigegfaaGreatDoor
open Go Go.Abs
theorem isNaN_spec (a:Int):Abs.Fn Tryz.prog cmp_isNaN_int_i [] [.p (.int .i64 a)] (.p (.bool false)) []:=by
 apply cmp_isNaN_int_fn
 simp [cmp_isNaN_int]
 exact gives_p rfl
theorem isNaN64_spec (a:Int):Abs.Fn Tryz.prog cmp_isNaN_int64_i [] [.p (.int .i64 a)] (.p (.bool false)) []:=by
 apply cmp_isNaN_int64_fn
 simp [cmp_isNaN_int64]
 exact gives_p rfl
theorem cmpInt_spec (a b:Int):Abs.Fn Tryz.prog cmp_Compare_int_i [] [.p (.int .i64 a),.p (.int .i64 b)] (.p (.int .i64 (cmpI a b))) []:=by
 apply cmp_Compare_int_fn
 simp [cmp_Compare_int]
 refine aCall_p rfl (isNaN_spec a) ?_
 simp
 refine aCall_p rfl (isNaN_spec b) ?_
 simp
 exact ⟨fun h=>gives_p (by simp [cmpI,h]),fun h=>⟨fun h'=>gives_p (by simp [cmpI,h']; omega),fun h'=>gives_p (by simp only [cmpI]; rw [if_neg (by omega),if_neg (by omega)])⟩⟩
theorem cmpInt64_spec (a b:Int):Abs.Fn Tryz.prog cmp_Compare_int64_i [] [.p (.int .i64 a),.p (.int .i64 b)] (.p (.int .i64 (cmpI a b))) []:=by
 apply cmp_Compare_int64_fn
 simp [cmp_Compare_int64]
 refine aCall_p rfl (isNaN64_spec a) ?_
 simp
 refine aCall_p rfl (isNaN64_spec b) ?_
 simp
 exact ⟨fun h=>gives_p (by simp [cmpI,h]),fun h=>⟨fun h'=>gives_p (by simp [cmpI,h']; omega),fun h'=>gives_p (by simp only [cmpI]; rw [if_neg (by omega),if_neg (by omega)])⟩⟩
theorem truth_spec (b:Bool):Abs.Fn Tryz.prog val_truth_i [] [.p (.bool b)] (.p (.int .i64 (truthI b))) []:=by
 apply val_truth_fn
 simp [val_truth]
 exact ⟨fun h=>gives_p (by simp [h,truthI]),fun h=>gives_p (by simp [h,truthI])⟩
theorem orI_drop (l:List Int) (i:Nat) (h:i < l.length):orI (l.drop i) = if l[i] ≠ 0 then l[i] else orI (l.drop (i + 1)):=by
 rw [List.drop_eq_getElem_cons h]
 simp [orI]
theorem or_spec (l:List Int):Abs.Fn Tryz.prog cmp_Or_int_i [] [.p (.slice (l.map (.int .i64)))] (.p (.int .i64 (orI l))) []:=by
 apply cmp_Or_int_fn
 simp [cmp_Or_int]
 intro hl
 refine loop_by (σ:=Nat) (n:=0) (fun i=>[.p (.int .i64 i)]) (fun _=>[]) (fun i=>i ≤ l.length ∧ orI (l.drop i) = orI l) (fun i=>l.length - i) [] 0 (fun _=>rfl) ⟨rfl,rfl⟩ (by simp) (fun i B hi hB=>?_)
 obtain ⟨h1,h2⟩:=hi
 simp [cmp_Or_int_L1]
 refine ⟨fun hlt=>?_,fun hge=>?_⟩
 ·have hd:=orI_drop l i hlt
  rw [h2] at hd
  simp [hlt]
  refine ⟨fun hz=>gives_p (by simp [hd,hz]),fun hz=>?_⟩
  rw [IntWalk.i64_in _ (by simp [maxLen] at hl; omega)]
  exact hB (i + 1) _ ⟨by omega,by simp [hd,hz]⟩ (by omega) (by simp) (by simp) (by simp) (by simp [AV.under,AV.under1])
 ·have:i = l.length:=by omega
  subst this
  exact gives_p (by simp [← h2,orI])
theorem cmpVs_drop (l q:List Va) (i:Nat) (h:i < l.length) (h':i < q.length):cmpVs (l.drop i) (q.drop i) = if cmpV l[i] q[i] ≠ 0 then cmpV l[i] q[i] else cmpVs (l.drop (i + 1)) (q.drop (i + 1)):=by
 rw [List.drop_eq_getElem_cons h,List.drop_eq_getElem_cons h']
 simp [cmpVs]
theorem compareFunc_spec (l q:List Va) (hf:∀ a ∈ l,∀ b ∈ q,Abs.Fn Tryz.prog val_Compare_i [] [.p (encV a),.p (encV b)] (.p (.int .i64 (cmpV a b))) []) :
  Abs.Fn Tryz.prog slices_CompareFunc_val_Value_val_Value_val_Value_val_Value_i [] [.p (.slice (l.map encV)),.p (.slice (q.map encV)),.p (.func val_Compare_i [])] (.p (.int .i64 (cmpVs l q))) []:=by
 apply slices_CompareFunc_val_Value_val_Value_val_Value_val_Value_fn
 simp [slices_CompareFunc_val_Value_val_Value_val_Value_val_Value]
 intro hl
 refine loop_by (σ:=Nat) (n:=0) (fun i=>[.p (.int .i64 i)]) (fun _=>[]) (fun i=>i ≤ l.length ∧ i ≤ q.length ∧ cmpVs (l.drop i) (q.drop i) = cmpVs l q) (fun i=>l.length - i) [] 0 (fun _=>rfl) ⟨rfl,rfl⟩ (by simp) (fun i B hi hB=>?_)
 obtain ⟨h1,h3,h2⟩:=hi
 simp [slices_CompareFunc_val_Value_val_Value_val_Value_val_Value_L1]
 refine ⟨fun hlt=>?_,fun hge hll hql=>?_⟩
 ·obtain ⟨a,b,c,d,e,hab⟩:=encV_agg l[i]
  simp [hlt,hab]
  intro hql
  refine ⟨fun hq=>?_,fun hq=>?_⟩
  ·have:i = q.length:=by omega
   refine gives_p ?_
   rw [← h2,this,List.drop_of_length_le (Nat.le_refl _),List.drop_eq_getElem_cons (by omega)]
   simp [cmpVs]
  ·obtain ⟨a',b',c',d',e',hab'⟩:=encV_agg q[i]
   have hfm:=hf l[i] (by simp) q[i] (by simp)
   have hd:=cmpVs_drop l q i hlt hq
   rw [h2] at hd
   rw [hab,hab'] at hfm
   simp [hq,hab']
   refine aCall_p rfl hfm ?_
   simp
   refine ⟨fun hz=>gives_p (by simp [hd,hz]),fun hz=>?_⟩
   rw [IntWalk.i64_in _ (by simp [maxLen] at hl; omega)]
   exact hB (i + 1) _ ⟨by omega,by omega,by simp [hd,hz]⟩ (by omega) (by simp) (by simp) (by simp) (by simp [AV.under,AV.under1])
 ·have hi:i = l.length:=by omega
  subst hi
  rw [List.drop_of_length_le (Nat.le_refl _)] at h2
  refine ⟨fun h=>gives_p ?_,fun h=>gives_p ?_⟩
  ·rw [← h2,List.drop_eq_getElem_cons (by omega)]
   simp [cmpVs]
  ·rw [← h2,List.drop_of_length_le (by omega)]
   simp [cmpVs]
theorem Compare_spec:∀ a b:Va,Abs.Fn Tryz.prog val_Compare_i [] [.p (encV a),.p (encV b)] (.p (.int .i64 (cmpV a b))) []
 | .mk k i b s t,.mk k' i' b' s' t'=>by
  apply val_Compare_fn
  simp [val_Compare]
  refine aCallT_of rfl (cmpInt_spec k k') rfl ?_
  simp
  refine aCallT_of rfl (cmpInt64_spec i i') rfl ?_
  simp
  refine aCallT_of rfl (truth_spec b) rfl ?_
  simp
  refine aCallT_of rfl (truth_spec b') rfl ?_
  simp
  refine aCallT_of rfl (cmpInt_spec _ _) rfl ?_
  simp
  refine aCallT_of rfl (cmpStr_spec s s') rfl ?_
  simp
  refine aCallT_of rfl (by simpa using or_spec [cmpI k k',cmpI i i',cmpI (truthI b) (truthI b'),cmpS s s']) rfl ?_
  simp
  refine ⟨fun h=>gives_p (by simp only [cmpV]; rw [if_pos (by simpa using h)]),fun h=>?_⟩
  have hr:Abs.Fn Tryz.prog val_rows_val_Value_i [] [.p (.slice (t.map encV)),.p (.slice (t'.map encV)),.p (.func val_Compare_i [])] (.p (.int .i64 (cmpVs t t'))) []:=by
   apply val_rows_val_Value_fn
   simp [val_rows_val_Value]
   refine aCall_p rfl (compareFunc_spec t t' ?_) (gives_p rfl)
   intro x hx y hy
   exact Compare_spec x y
  refine aCall_p rfl hr (gives_p (by simp only [cmpV]; rw [if_neg (by simpa using h)]))
termination_by a=>SizeOf.sizeOf a
decreasing_by
 have:=List.sizeOf_lt_of_mem hx
 simp
 omega
theorem Same_spec (a b:Va):Abs.Fn Tryz.prog val_Same_i [] [.p (encV a),.p (encV b)] (.p (.bool (decide (cmpV a b = 0)))) []:=by
 apply val_Same_fn
 have:=Compare_spec a b
 obtain ⟨a1,a2,a3,a4,a5,hab⟩:=encV_agg a
 obtain ⟨b1,b2,b3,b4,b5,hbb⟩:=encV_agg b
 rw [hab,hbb] at this ⊢
 simp [val_Same]
 refine aCall_p rfl this ?_
 simp
 exact gives_p rfl
theorem less_spec (b:Bool):Abs.Fn Tryz.prog runnelref6_less_i [] [.p (.bool b)] (.p (.int .i64 (if b then -1 else 1))) []:=by
 apply runnelref6_less_fn
 simp [runnelref6_less]
 exact ⟨fun h=>gives_p (by simp [h]),fun h=>gives_p (by simp [h])⟩
theorem CompareR_spec:∀ a b:Va,Abs.Fn Tryz.prog runnelref6_Compare_i [] [.p (encV a),.p (encV b)] (.p (.int .i64 (cmpV a b))) []
 | .mk k i b s t,.mk k' i' b' s' t'=>by
  apply runnelref6_Compare_fn
  simp [runnelref6_Compare]
  refine ⟨fun h=>aCall_p rfl (less_spec _) (gives_p ?_),fun hk=>⟨fun h=>aCall_p rfl (less_spec _) (gives_p ?_),fun hi=>⟨fun h=>aCall_p rfl (less_spec _) (gives_p ?_),fun hb=>⟨fun h=>aCall_p rfl (less_spec _) (gives_p ?_),fun hs=>?_⟩⟩⟩⟩
  ·simp only [cmpV,orI,cmpI]; grind
  ·subst hk; simp only [cmpV,orI,cmpI]; grind
  ·subst hk hi; cases b <;> cases b' <;> simp [cmpV,orI,cmpI,truthI] at h ⊢
  ·subst hk hi hb; simp only [cmpV,orI,cmpI,cmpS]; grind
  ·subst hk hi hb hs
   have he:cmpV (.mk k i b s t) (.mk k i b s t') = cmpVs t t':=by
    simp only [cmpV]
    rw [if_neg (by simp [orI_zero,cmpI_zero,cmpS_zero])]
   rw [he]
   refine loop_by (σ:=Nat) (n:=2) (fun j=>[.p (.int .i64 j)]) (fun j=>[.box [.p (.int .i64 k),.p (.int .i64 i),.p (.bool b),.p (.str s),.p (.slice (t.map encV))],.box [.p (.int .i64 k),.p (.int .i64 i),.p (.bool b),.p (.str s),.p (.slice (t'.map encV))]])
    (fun j=>j ≤ t.length ∧ j ≤ t'.length ∧ cmpVs (t.drop j) (t'.drop j) = cmpVs t t') (fun j=>t.length - j) [] 0 (fun _=>rfl) ⟨rfl,rfl⟩ (by simp) (fun j B hj hB=>?_)
   obtain ⟨h1,h3,h2⟩:=hj
   simp [runnelref6_Compare_L1]
   intro hmx
   refine ⟨fun hlt hlt'=>?_,fun hx hll hll'=>?_⟩
   ·obtain ⟨a,b1,c,d,e,hab⟩:=encV_agg t[j]
    obtain ⟨a',b1',c',d',e',hab'⟩:=encV_agg t'[j]
    have hm:t[j] ∈ t:=by simp
    have ih:=CompareR_spec t[j] t'[j]
    have hd:=cmpVs_drop t t' j hlt hlt'
    rw [h2] at hd
    rw [hab,hab'] at ih
    simp [hlt,hab,hlt',hab']
    refine aCallT_of rfl ih rfl ?_
    simp
    refine ⟨fun hz=>gives_p (by simp [hd,hz]),fun hz=>?_⟩
    rw [IntWalk.i64_in _ (by simp [maxLen] at hmx; omega)]
    exact hB (j + 1) _ ⟨by omega,by omega,by simp [hd,hz]⟩ (by omega) (by simp) (by simp [Ob.below,AV.under1]) (by simp) (by simp [AV.under,AV.under1])
   ·have hj:j = t.length ∨ j = t'.length:=by
     rcases Nat.lt_or_ge j t.length with h | h
     ·have:=hx h; omega
     ·omega
    refine ⟨fun hne _ _=>aCall_p rfl (less_spec _) (gives_p ?_),fun he=>gives_p ?_⟩
    ·rw [← h2]
     rcases Nat.lt_or_ge t.length t'.length with hlt | hge
     ·have:j = t.length:=by omega
      subst this
      rw [List.drop_of_length_le (Nat.le_refl _),List.drop_eq_getElem_cons hlt]
      simp [cmpVs,hlt]
     ·have:j = t'.length:=by omega
      subst this
      rw [List.drop_of_length_le (Nat.le_refl _),List.drop_eq_getElem_cons (by omega)]
      have:¬ (t.length < t'.length):=by omega
      simp [cmpVs,this]
    ·rw [← h2,List.drop_of_length_le (by omega),List.drop_of_length_le (by omega)]
     simp [cmpVs]
termination_by a=>SizeOf.sizeOf a
decreasing_by
 have:=List.sizeOf_lt_of_mem hm
 simp
 omega
theorem SameR_spec (a b:Va):Abs.Fn Tryz.prog runnelref6_Same_i [] [.p (encV a),.p (encV b)] (.p (.bool (decide (cmpV a b = 0)))) []:=by
 apply runnelref6_Same_fn
 have:=CompareR_spec a b
 obtain ⟨a1,a2,a3,a4,a5,hab⟩:=encV_agg a
 obtain ⟨b1,b2,b3,b4,b5,hbb⟩:=encV_agg b
 rw [hab,hbb] at this ⊢
 simp [runnelref6_Same]
 refine aCall_p rfl this ?_
 simp
 exact gives_p rfl
end Go.Proofs.YtdmgbhamigegfaaGreatDoor
end
