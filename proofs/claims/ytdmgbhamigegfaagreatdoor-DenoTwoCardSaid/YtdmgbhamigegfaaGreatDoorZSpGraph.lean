/- The package graph over trees. -/
import Derived.Test.YtdmgbhamigegfaaGreatDoorZPuGraph
import Derived.Test.YtdmgbhamigegfaaGreatDoorZSpOpP
import Derived.Test.YtdmgbhamigegfaaGreatDoorS1
import Derived.Test.YtdmgbhamigegfaaGreatDoorS2
set_option linter.unusedSimpArgs false
set_option linter.unusedVariables false
namespace Go.Proofs.YtdmgbhamigegfaaGreatDoor
open Go Go.Abs
theorem gives_nil_own {s:Nat}:Gives 0 (.full []) [] (.own 0 []) [.row 0 s]:=by
 intro w G u hi hr
 cases hr with
 | full _ a h =>
  obtain ⟨i1,s1⟩:=add_loc hi (.row a 0 0 s) (.row 0 s) (by cases a <;> simp [Loc.blk]) ⟨rfl,rfl,Nat.le_refl _,fun h=>absurd h (Nat.lt_irrefl _)⟩
  exact ⟨_,i1,.own 0 [] a a 0 0 0 s h (by simp [Gh.withLoc]) (Nat.le_refl _) (fun _=>⟨rfl,rfl⟩) (by simp),s1 0⟩
attribute [local irreducible] Abs.Fn
abbrev isT (l:List Int):List T:=l.map (.int .i64)
def boxN (x:Nd):List AV:=(encN x).cells.map .p
@[simp] theorem boxN_eq {x:Nd}:boxN x = [.p (.str x.uid),.p (.int .i64 x.op.k),.p (.str x.op.name),.p (.int .i64 x.op.t.kind),.p (.slice (x.op.t.of.map encT)),.p (.slice (x.op.es.map encE)),.p (.str x.op.key.op),.p (.int .i64 x.op.key.v.k),.p (.int .i64 x.op.key.v.i),.p (.bool x.op.key.v.b),.p (.str x.op.key.v.s),.p (.slice (x.op.key.v.t.map encV)),.p (.int .i64 x.op.key.n),.p (.slice (x.op.key.a.map encE)),.p (.int .i64 x.op.f),.p (.int .i64 x.op.n),.p (.slice (x.ins.map (T.int .i64))),.p (.int .i64 x.par),.p (.int .i64 x.mx),.p (.str x.grp),.p (.bool x.alone)]:=id rfl
@[simp] theorem encN_size (l:List Nd):∀ e ∈ l.map encN,e.cells.length = 21:=fun e he=>by obtain ⟨x,_,rfl⟩:=List.mem_map.1 he; rfl
def idxF {α:Type} (p:α→Bool):Nat→List α→Int
 | _,[]=>-1
 | k,a :: r=>if p a then k else idxF p (k + 1) r
theorem idxF_iff {α:Type} (p:α→Bool):∀ (l:List α) (k:Nat),0 ≤ idxF p k l ↔ l.any p = true
 | [],k=>by simp [idxF]
 | a :: r,k=>by
  have e:idxF p k (a :: r) = if p a = true then (k:Int) else idxF p (k + 1) r:=rfl
  rw [e,List.any_cons]
  by_cases h:p a = true
  ·simp [h]
  ·rw [if_neg h,idxF_iff p r,show p a = false by simpa using h,Bool.false_or]
theorem idxF_any {α:Type} (p:α→Bool) (l:List α) (k:Nat):decide (0 ≤ idxF p k l) = l.any p:=by
 rw [Bool.eq_iff_iff,decide_eq_true_eq,idxF_iff]
theorem indexI_spec (l:List Int) (x:Int):Abs.Fn Tryz.prog slices_Index_int_int_i [] [.p (.slice (isT l)),.p (.int .i64 x)] (.p (.int .i64 (idxF (fun i=>decide (i = x)) 0 l))) []:=by
 apply slices_Index_int_int_fn
 simp [slices_Index_int_int]
 intro hl
 refine loop_by (σ:=Nat) (n:=0) (fun i=>[.p (.int .i64 i)]) (fun _=>[]) (fun i=>i ≤ l.length ∧ idxF (fun i=>decide (i = x)) i (l.drop i) = idxF (fun i=>decide (i = x)) 0 l) (fun i=>l.length - i) [] 0 (fun _=>rfl) ⟨rfl,rfl⟩ (by simp) (fun i B hi hB=>?_)
 obtain ⟨h1,h2⟩:=hi
 generalize hA:idxF (fun i=>decide (i = x)) 0 l = A at *
 simp [slices_Index_int_int_L1]
 refine ⟨fun hlt=>?_,fun hge=>?_⟩
 ·rw [List.drop_eq_getElem_cons hlt,idxF] at h2
  simp [hlt]
  refine ⟨fun hz=>gives_p ?_,fun hz=>?_⟩
  ·rw [← h2]; simp [hz]
  ·rw [IntWalk.i64_in _ (by simp [maxLen] at hl; omega)]
   refine hB (i + 1) _ ⟨by omega, ?_⟩ (by omega) (by simp) (by simp) (by simp) (by simp [AV.under,AV.under1])
   rw [← h2,if_neg (by simpa using fun h=>hz h.symm)]
 ·rw [List.drop_of_length_le hge] at h2
  exact gives_p (by rw [← h2]; rfl)
theorem containsI_spec (l:List Int) (x:Int):Abs.Fn Tryz.prog slices_Contains_int_int_i [] [.p (.slice (isT l)),.p (.int .i64 x)] (.p (.bool (decide (x ∈ l)))) []:=by
 apply slices_Contains_int_int_fn
 simp [slices_Contains_int_int]
 refine aCallW_of rfl rfl (indexI_spec l x) ?_
 simp
 refine gives_p ?_
 rw [idxF_any]
 simp only [T.bool.injEq]
 rw [Bool.eq_iff_iff]
 simp
theorem clipI_spec (l:List Int):Abs.Fn Tryz.prog slices_Clip_int_int_i [] [.p (.slice (isT l))] (.p (.slice (isT l))) []:=by
 apply slices_Clip_int_int_fn
 simp [slices_Clip_int_int]
 intro _
 simp [aSliceSl,atSize]
 exact gives_pure (by simp [AV.pur,List.take_of_length_le])
def ClN (f:Nat) (cs:List T) (p:Nd→Bool):Prop:=∀ o,Abs.Fn Tryz.prog f [] (([encN o] ++ cs).map .p) (.p (.bool (p o))) []
theorem indexF_spec {f:Nat} {cs:List T} {p:Nd→Bool} (h:ClN f cs p) (l:List Nd):Abs.Fn Tryz.prog slices_IndexFunc_graph_Graph_graph_Node_i [] [.p (.slice (l.map encN)),.p (.func f cs)] (.p (.int .i64 (idxF p 0 l))) []:=by
 apply slices_IndexFunc_graph_Graph_graph_Node_fn
 simp [slices_IndexFunc_graph_Graph_graph_Node]
 intro hl
 refine loop_by (σ:=Nat) (n:=0) (fun i=>[.p (.int .i64 i)]) (fun _=>[]) (fun i=>i ≤ l.length ∧ idxF p i (l.drop i) = idxF p 0 l) (fun i=>l.length - i) [] 0 (fun _=>rfl) ⟨rfl,rfl⟩ (by simp) (fun i B hi hB=>?_)
 obtain ⟨h1,h2⟩:=hi
 generalize hA:idxF p 0 l = A at *
 simp [slices_IndexFunc_graph_Graph_graph_Node_L1]
 refine ⟨fun hlt=>?_,fun hge=>?_⟩
 ·rw [List.drop_eq_getElem_cons hlt,idxF] at h2
  simp [hlt]
  refine aCallW_of rfl rfl (h l[i]) ?_
  simp
  refine ⟨fun hz=>gives_p ?_,fun hz=>?_⟩
  ·rw [← h2]; simp [hz]
  ·rw [IntWalk.i64_in _ (by simp [maxLen] at hl; omega)]
   refine hB (i + 1) _ ⟨by omega, ?_⟩ (by omega) (by simp) (by simp) (by simp) (by simp [AV.under,AV.under1])
   rw [← h2]
   simp [hz]
 ·rw [List.drop_of_length_le hge] at h2
  exact gives_p (by rw [← h2]; rfl)
theorem containsF_spec {f:Nat} {cs:List T} {p:Nd→Bool} (h:ClN f cs p) (l:List Nd):Abs.Fn Tryz.prog slices_ContainsFunc_graph_Graph_graph_Node_i [] [.p (.slice (l.map encN)),.p (.func f cs)] (.p (.bool (l.any p))) []:=by
 apply slices_ContainsFunc_graph_Graph_graph_Node_fn
 simp [slices_ContainsFunc_graph_Graph_graph_Node]
 refine aCallW_of rfl rfl (indexF_spec h l) ?_
 simp
 exact gives_p (by rw [idxF_any])
def whoF (p:Nd→Bool):Nat→List Nd→List Int
 | _,[]=>[]
 | k,n :: r=>if p n then (k:Int) :: whoF p (k + 1) r else whoF p (k + 1) r
theorem whoF_outs (i:Int):∀ (l:List Nd) (k:Nat),whoF (fun n=>decide (i ∈ n.ins)) k l = outsFrom i k l
 | [],k=>rfl
 | n :: r,k=>by simp only [whoF,outsFrom,whoF_outs i r,decide_eq_true_eq]
theorem whoF_kind (i:Int):∀ (l:List Nd) (k:Nat),whoF (fun n=>decide (n.op.k = i)) k l = kindFrom i k l
 | [],k=>rfl
 | n :: r,k=>by simp only [whoF,kindFrom,whoF_kind i r,decide_eq_true_eq]
theorem which_spec {f:Nat} {cs:List T} {p:Nd→Bool} (h:ClN f cs p) (l:List Nd) (hll:l.length ≤ 1000000):Abs.Fn Tryz.prog graph_which_graph_Node_i [] [.p (.slice (l.map encN)),.p (.func f cs)] (.p (.slice (isT (whoF p 0 l)))) []:=by
 apply graph_which_graph_Node_fn
 simp [graph_which_graph_Node]
 intro hl
 refine loop_by (σ:=Nat × List Int) (n:=1) (fun q=>[.own 0 (isT q.2),.p (.int .i64 q.1)]) (fun q=>[.row q.2.length 1]) (fun q=>q.1 ≤ l.length ∧ q.2.length ≤ q.1 ∧ q.2 ++ whoF p q.1 (l.drop q.1) = whoF p 0 l) (fun q=>l.length - q.1) [.slot 0 1] (0,[]) (fun _=>rfl) ⟨rfl,rfl⟩ (by simp) (fun q B hq hB=>?_)
 obtain ⟨i,out⟩:=q
 obtain ⟨h1,h2,h3⟩:=hq
 simp only at h1 h2 h3
 generalize hA:whoF p 0 l = A at *
 simp [graph_which_graph_Node_L1]
 refine ⟨fun hlt=>?_,fun hge=>?_⟩
 ·rw [List.drop_eq_getElem_cons hlt,whoF] at h3
  simp [hlt]
  refine aCallW_of rfl rfl (h l[i]) ?_
  simp
  refine ⟨fun hz=>?_,fun hz=>?_⟩
  ·refine ⟨⟨fun e he=>?_,by simp,by simp; omega⟩, ?_⟩
   ·obtain ⟨x,_,rfl⟩:=List.mem_map.1 he; rfl
   rw [IntWalk.i64_in _ (by omega)]
   refine cast (congrArg (fun x=>B x _) ?_) (hB (i + 1,out ++ [(i:Int)]) _ ⟨by simp only; omega,by simp; omega, ?_⟩ (by simp only; omega) ?_ ?_ ?_ (by simp [AV.under,AV.under1]))
   ·simp
   ·simp only; rw [← h3]; simp [hz]
   ·simp
   ·simp [Ob.below,AV.under1]
   ·simp
  ·rw [IntWalk.i64_in _ (by omega)]
   refine hB (i + 1,out) _ ⟨by simp only; omega,by simp only; omega, ?_⟩ (by simp only; omega) (by simp) (by simp [Ob.below,AV.under1]) (by simp) (by simp [AV.under,AV.under1])
   simp only; rw [← h3]; simp [hz]
 ·rw [List.drop_of_length_le hge] at h3
  refine aCallW_of rfl rfl (clipI_spec out) ?_
  simp
  exact gives_p (by rw [← h3]; simp [whoF])
theorem outsC_spec (i:Int):ClN graph_Outs_1_i [.imm [.int .i64 i] 0] (fun n=>decide (i ∈ n.ins)):=by
 intro o
 apply graph_Outs_1_fn
 simp [graph_Outs_1]
 refine aCallW_of rfl rfl (containsI_spec o.ins i) ?_
 simp
 exact gives_p rfl
theorem namedC_spec (i:Int):ClN graph_Named_1_i [.imm [.int .i64 i] 0] (fun n=>decide (n.op.k = i)):=by
 intro o
 apply graph_Named_1_fn
 simp [graph_Named_1]
 exact gives_p rfl
theorem Outs_spec (g:List Nd) (i:Int) (hl:g.length ≤ 1000000):Abs.Fn Tryz.prog graph_Outs_i [] [.p (.slice (g.map encN)),.p (.int .i64 i)] (.p (.slice (isT (outsFrom i 0 g)))) []:=by
 apply graph_Outs_fn
 simp [graph_Outs]
 refine aCallW_of rfl rfl (which_spec (outsC_spec i) g hl) ?_
 simp
 exact gives_p (by rw [whoF_outs])
theorem Named_spec (g:List Nd) (i:Int) (hl:g.length ≤ 1000000):Abs.Fn Tryz.prog graph_Named_i [] [.p (.slice (g.map encN)),.p (.int .i64 i)] (.p (.slice (isT (kindFrom i 0 g)))) []:=by
 apply graph_Named_fn
 simp [graph_Named]
 refine aCallW_of rfl rfl (which_spec (namedC_spec i) g hl) ?_
 simp
 exact gives_p (by rw [whoF_kind])
theorem check1C_spec (n:Nd):ClN graph_Node_check_1_i [.imm (encN n).cells 0] (fun o=>decide (o.uid = n.uid)):=by
 intro o
 apply graph_Node_check_1_fn
 simp [graph_Node_check_1]
 exact gives_p rfl
theorem check2C_spec (n:Nd):ClN graph_Node_check_2_i [.imm (encN n).cells 0] (fun o=>decide (o.op.k = n.op.k) && decide (o.op.name = n.op.name)):=by
 intro o
 apply graph_Node_check_2_fn
 simp [graph_Node_check_2]
 exact gives_p rfl
end Go.Proofs.YtdmgbhamigegfaaGreatDoor
