/- What the functions of the package typ answer, over trees: Row, word, check, Check. -/
import Derived.Test.YtdmgbhamigegfaaGreatDoorS1
import Derived.Test.YtdmgbhamigegfaaGreatDoorZSpRepQ
namespace Go.Proofs.YtdmgbhamigegfaaGreatDoor
open Go Go.Abs
inductive Ty where
 | mk (k:Int) (of:List Ty)
mutual
def encT:Ty→T
 | .mk k of=>.agg [.int .i64 k,.slice (encTs of)]
def encTs:List Ty→List T
 | []=>[]
 | t :: r=>encT t :: encTs r
end
theorem encTs_eq (l:List Ty):encTs l = l.map encT:=by induction l <;> simp_all [encTs]
@[simp] theorem encT_mk (k:Int) (of:List Ty):encT (.mk k of) = .agg [.int .i64 k,.slice (of.map encT)]:=by simp [encT,encTs_eq]
theorem encT_agg (t:Ty):∃ a b,encT t = .agg [a,b]:=by obtain ⟨k,of⟩:=t; exact ⟨_,_,encT_mk k of⟩
@[simp] theorem encT_cells (t:Ty):(encT t).cells.length = 2:=by obtain ⟨k,of⟩:=t; simp
def rowE (n d:Int):Int:=if n = 0 then 1 else if n > 8 then 10 else if d > 4 then 9 else 0
theorem row_spec (n d:Int):Abs.Fn Tryz.prog typ_Row_i [] [.p (.int .i64 n),.p (.int .i64 d)] (.p (.int .i64 (rowE n d))) []:=by
 apply typ_Row_fn
 simp [typ_Row]
 grind [gives_p,rowE]
theorem each_spec {α:Type} (l:List α) (enc:α→T) (f:Nat) (caps:List T) (g:α→Int) (hs:∀ e ∈ l,∃ a b,enc e = .agg [a,b]) (hf:∀ e ∈ l,Abs.Fn Tryz.prog f [] (.p (enc e) :: caps.map .p) (.p (.int .i64 (g e))) []) :
  Abs.Fn Tryz.prog typ_each_typ_Type_i [] [.p (.slice (l.map enc)),.p (.func f caps)] (.p (.int .i64 (firstE g l))) []:=by
 apply typ_each_typ_Type_fn
 simp only [typ_each_typ_Type,aLen_p,List.length_map]
 intro hl
 refine loop_by (σ:=Nat) (n:=0) (fun i=>[.p (.int .i64 i)]) (fun _=>[]) (fun i=>i ≤ l.length ∧ firstE g (l.drop i) = firstE g l) (fun i=>l.length - i) [] 0 (fun _=>rfl) ⟨rfl,rfl⟩ (by simp) (fun i B hi hB=>?_)
 obtain ⟨h1,h2⟩:=hi
 simp [typ_each_typ_Type_L1]
 constructor
 ·intro hlt
  have hm:l[i] ∈ l:=by simp
  obtain ⟨a,b,hab⟩:=hs _ hm
  have hfm:=hf _ hm
  have hd:=firstE_drop g l i hlt
  rw [h2] at hd
  rw [hab] at hfm
  simp [hlt,hab]
  refine aCall_p rfl hfm ?_
  simp
  refine ⟨fun hz=>gives_p (by simp [hd,hz]),fun hz=>?_⟩
  rw [IntWalk.i64_in _ (by simp [maxLen] at hl; omega)]
  exact hB (i + 1) _ ⟨by omega,by simp [hd,hz]⟩ (by omega) (by simp) (by simp) (by simp) (by simp [AV.under,AV.under1])
 ·intro hge
  have:i = l.length:=by omega
  subst this
  exact gives_p (by simp [← h2,firstE])
mutual
def checkT:Ty→Int→Int
 | .mk k of,d=>if k = 1 ∨ k = 2 ∨ k = 3 then (if of = [] then 0 else 5) else if k = 4 then (if rowE of.length d ≠ 0 then rowE of.length d else checkTs of (d + 1)) else 5
def checkTs:List Ty→Int→Int
 | [],_=>0
 | t :: r,d=>if checkT t d ≠ 0 then checkT t d else checkTs r d
end
theorem checkTs_eq (d:Int):∀ l:List Ty,checkTs l d = firstE (fun t=>checkT t d) l
 | []=>rfl
 | t :: r=>by simp [firstE,checkTs,checkTs_eq d r]
theorem check_spec (t:Ty) (d:Int) (h0:0 ≤ d) (h1:d ≤ 100):Abs.Fn Tryz.prog typ_check_i [] [.p (encT t),.p (.int .i64 d)] (.p (.int .i64 (checkT t d))) []:=by
 apply typ_check_fn
 obtain ⟨k,of⟩:=t
 simp [typ_check]
 refine ⟨fun hk _=>⟨fun h=>gives_p (by simp [checkT]; grind),fun h=>gives_p (by simp [checkT]; grind)⟩,fun hk1 hk2 hk3=>⟨fun hk hl=>?_,fun hk4=>gives_p (by simp [checkT]; grind)⟩⟩
 refine aCall_p rfl (row_spec _ _) ?_
 simp
 refine ⟨fun hr=>gives_p (by simp [checkT,hk,hr]),fun hr=>?_⟩
 have hd:d ≤ 4:=by unfold rowE at hr; grind
 refine aCall_p rfl (each_spec of encT _ _ (fun t=>checkT t (d + 1)) (fun e _=>encT_agg e) ?_) (gives_p (by simp [checkT,hk,hr,checkTs_eq]))
 intro t' ht'
 have:=check_spec t' (d + 1) (by omega) (by omega)
 apply typ_check_1_fn
 obtain ⟨k',of'⟩:=t'
 simp [typ_check_1]
 rw [IntWalk.i64_in _ (by omega)]
 exact aCall_p rfl (by simpa using this) (gives_p rfl)
termination_by SizeOf.sizeOf t
decreasing_by
 have:=List.sizeOf_lt_of_mem ht'
 simp
 omega
theorem Check_spec (t:Ty):Abs.Fn Tryz.prog typ_Check_i [] [.p (encT t)] (.p (.int .i64 (checkT t 0))) []:=by
 apply typ_Check_fn
 have:=check_spec t 0 (by omega) (by omega)
 obtain ⟨k,of⟩:=t
 simp [typ_Check]
 exact aCall_p rfl (by simpa using this) (gives_p rfl)
end Go.Proofs.YtdmgbhamigegfaaGreatDoor
