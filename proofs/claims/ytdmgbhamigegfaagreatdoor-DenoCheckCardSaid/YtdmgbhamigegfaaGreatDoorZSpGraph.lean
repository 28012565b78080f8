/- The package graph over trees. -/
import Derived.Test.YtdmgbhamigegfaaGreatDoorZPuGraph
import Derived.Test.YtdmgbhamigegfaaGreatDoorZSpOpP
import Derived.Test.YtdmgbhamigegfaaGreatDoorS1
set_option linter.unusedSimpArgs false
set_option linter.unusedVariables false
namespace Go.Proofs.YtdmgbhamigegfaaGreatDoor
open Go Go.Abs
theorem zya {s:Nat}:Gives 0 (.full []) [] (.own 0 []) [.row 0 s]:=by
 intro w G u hi hr
 cases hr with
 | full _ a h =>
  obtain ⟨i1,s1⟩:=zmX hi (.row a 0 0 s) (.row 0 s) (by cases a <;> simp [Loc.blk]) ⟨rfl,rfl,Nat.le_refl _,fun h=>absurd h (Nat.lt_irrefl _)⟩
  exact ⟨_,i1,.own 0 [] a a 0 0 0 s h (by simp [Gh.withLoc]) (Nat.le_refl _) (fun _=>⟨rfl,rfl⟩) (by simp),s1 0⟩
attribute [local irreducible] Abs.Fn
abbrev isT (l:List Int):List T:=l.map (.int .i64)
def boxN (x:Nd):List AV:=(encN x).cells.map .p
@[simp] theorem zzw {x:Nd}:boxN x=[.p (.str x.uid),.p (.int .i64 x.op.k),.p (.str x.op.name),.p (.int .i64 x.op.t.kind),.p (.slice (x.op.t.of.map encT)),.p (.slice (x.op.es.map encE)),.p (.str x.op.key.op),.p (.int .i64 x.op.key.v.k),.p (.int .i64 x.op.key.v.i),.p (.bool x.op.key.v.b),.p (.str x.op.key.v.s),.p (.slice (x.op.key.v.t.map encV)),.p (.int .i64 x.op.key.n),.p (.slice (x.op.key.a.map encE)),.p (.int .i64 x.op.f),.p (.int .i64 x.op.n),.p (.slice (x.ins.map (T.int .i64))),.p (.int .i64 x.par),.p (.int .i64 x.mx),.p (.str x.grp),.p (.bool x.alone)]:=id rfl
@[simp] theorem zyH (l:List Nd):∀ e∈l.map encN,e.cells.length=21:=fun e he=>by obtain ⟨x,_,rfl⟩:=List.mem_map.1 he; rfl
def idxF {α:Type} (p:α→Bool):Nat→List α→Int
 | _,[]=>-1
 | k,a::r=>if p a then k else idxF p (k + 1) r
theorem zAq {α:Type} (p:α→Bool):∀ (l:List α) (k:Nat),0≤idxF p k l↔l.any p=true
 | [],k=>by simp [idxF]
 | a::r,k=>by
  have e:idxF p k (a::r)=if p a=true then (k:Int) else idxF p (k + 1) r:=rfl
  rw [e,List.any_cons]
  by_cases h:p a=true
  ·simp [h]
  ·rw [if_neg h,zAq p r,show p a=false by simpa using h,Bool.false_or]
theorem zv5 {α:Type} (p:α→Bool) (l:List α) (k:Nat):decide (0≤idxF p k l)=l.any p:=by
 rw [Bool.eq_iff_iff,decide_eq_true_eq,zAq]
theorem zuG (l:List Int) (x:Int):Abs.Fn Tryz.prog zco [] [.p (.slice (isT l)),.p (.int .i64 x)] (.p (.int .i64 (idxF (fun i=>decide (i=x)) 0 l))) []:=by
 apply zmF
 simp [zeS]
 intro hl
 refine zA (σ:=Nat) (n:=0) (fun i=>[.p (.int .i64 i)]) (fun _=>[]) (fun i=>i≤l.length∧idxF (fun i=>decide (i=x)) i (l.drop i)=idxF (fun i=>decide (i=x)) 0 l) (fun i=>l.length - i) [] 0 (fun _=>rfl) ⟨rfl,rfl⟩ (by simp) (fun i B hi hB=>?_)
 obtain ⟨h1,h2⟩:=hi
 generalize hA:idxF (fun i=>decide (i=x)) 0 l=A at *
 simp [zg1]
 refine ⟨fun hlt=>?_,fun hge=>?_⟩
 ·rw [List.drop_eq_getElem_cons hlt,idxF] at h2
  simp [hlt]
  refine ⟨fun hz=>zg ?_,fun hz=>?_⟩
  ·rw [← h2]; simp [hz]
  ·rw [IntWalk.i64_in _ (by simp [maxLen] at hl; omega)]
   refine hB (i + 1) _ ⟨by omega, ?_⟩ (by omega) (by simp) (by simp) (by simp) (by simp [AV.under,AV.under1])
   rw [← h2,if_neg (by simpa using fun h=>hz h.symm)]
 ·rw [List.drop_of_length_le hge] at h2
  exact zg (by rw [← h2]; rfl)
theorem zoM (l:List Int) (x:Int):Abs.Fn Tryz.prog zbE [] [.p (.slice (isT l)),.p (.int .i64 x)] (.p (.bool (decide (x∈l)))) []:=by
 apply zkj
 simp [zdy]
 refine zo rfl rfl (zuG l x) ?_
 simp
 refine zg ?_
 rw [zv5]
 simp only [T.bool.injEq]
 rw [Bool.eq_iff_iff]
 simp
theorem zCq (l:List Int):Abs.Fn Tryz.prog zed [] [.p (.slice (isT l))] (.p (.slice (isT l))) []:=by
 apply znm
 simp [zfL]
 intro _
 simp [zcA,zkn]
 exact zi (by simp [AV.pur,List.take_of_length_le])
def ClN (f:Nat) (cs:List T) (p:Nd→Bool):Prop:=∀ o,Abs.Fn Tryz.prog f [] (([encN o]++cs).map .p) (.p (.bool (p o))) []
theorem zBK {f:Nat} {cs:List T} {p:Nd→Bool} (h:ClN f cs p) (l:List Nd):Abs.Fn Tryz.prog zaI [] [.p (.slice (l.map encN)),.p (.func f cs)] (.p (.int .i64 (idxF p 0 l))) []:=by
 apply zdV
 simp [zaS]
 intro hl
 refine zA (σ:=Nat) (n:=0) (fun i=>[.p (.int .i64 i)]) (fun _=>[]) (fun i=>i≤l.length∧idxF p i (l.drop i)=idxF p 0 l) (fun i=>l.length - i) [] 0 (fun _=>rfl) ⟨rfl,rfl⟩ (by simp) (fun i B hi hB=>?_)
 obtain ⟨h1,h2⟩:=hi
 generalize hA:idxF p 0 l=A at *
 simp [zbu]
 refine ⟨fun hlt=>?_,fun hge=>?_⟩
 ·rw [List.drop_eq_getElem_cons hlt,idxF] at h2
  simp [hlt]
  refine zo rfl rfl (h l[i]) ?_
  simp
  refine ⟨fun hz=>zg ?_,fun hz=>?_⟩
  ·rw [← h2]; simp [hz]
  ·rw [IntWalk.i64_in _ (by simp [maxLen] at hl; omega)]
   refine hB (i + 1) _ ⟨by omega, ?_⟩ (by omega) (by simp) (by simp) (by simp) (by simp [AV.under,AV.under1])
   rw [← h2]
   simp [hz]
 ·rw [List.drop_of_length_le hge] at h2
  exact zg (by rw [← h2]; rfl)
theorem zpS {f:Nat} {cs:List T} {p:Nd→Bool} (h:ClN f cs p) (l:List Nd):Abs.Fn Tryz.prog zX [] [.p (.slice (l.map encN)),.p (.func f cs)] (.p (.bool (l.any p))) []:=by
 apply zdh
 simp [zaE]
 refine zo rfl rfl (zBK h l) ?_
 simp
 exact zg (by rw [zv5])
def whoF (p:Nd→Bool):Nat→List Nd→List Int
 | _,[]=>[]
 | k,n::r=>if p n then (k:Int)::whoF p (k + 1) r else whoF p (k + 1) r
theorem zyv (i:Int):∀ (l:List Nd) (k:Nat),whoF (fun n=>decide (i∈n.ins)) k l=zc2 i k l
 | [],k=>rfl
 | n::r,k=>by simp only [whoF,zc2,zyv i r,decide_eq_true_eq]
theorem zyB (i:Int):∀ (l:List Nd) (k:Nat),whoF (fun n=>decide (n.op.k=i)) k l=zas i k l
 | [],k=>rfl
 | n::r,k=>by simp only [whoF,zas,zyB i r,decide_eq_true_eq]
theorem zv4 {f:Nat} {cs:List T} {p:Nd→Bool} (h:ClN f cs p) (l:List Nd) (hll:l.length≤1000000):Abs.Fn Tryz.prog zbR [] [.p (.slice (l.map encN)),.p (.func f cs)] (.p (.slice (isT (whoF p 0 l)))) []:=by
 apply zk4
 simp [zdK]
 intro hl
 refine zA (σ:=Nat×List Int) (n:=1) (fun q=>[.own 0 (isT q.2),.p (.int .i64 q.1)]) (fun q=>[.row q.2.length 1]) (fun q=>q.1≤l.length∧q.2.length≤q.1∧q.2++whoF p q.1 (l.drop q.1)=whoF p 0 l) (fun q=>l.length - q.1) [.slot 0 1] (0,[]) (fun _=>rfl) ⟨rfl,rfl⟩ (by simp) (fun q B hq hB=>?_)
 obtain ⟨i,out⟩:=q
 obtain ⟨h1,h2,h3⟩:=hq
 simp only at h1 h2 h3
 generalize hA:whoF p 0 l=A at *
 simp [zfu]
 refine ⟨fun hlt=>?_,fun hge=>?_⟩
 ·rw [List.drop_eq_getElem_cons hlt,whoF] at h3
  simp [hlt]
  refine zo rfl rfl (h l[i]) ?_
  simp
  refine ⟨fun hz=>?_,fun hz=>?_⟩
  ·refine ⟨⟨fun e he=>?_,by simp,by simp; omega⟩, ?_⟩
   ·obtain ⟨x,_,rfl⟩:=List.mem_map.1 he; rfl
   rw [IntWalk.i64_in _ (by omega)]
   refine cast (congrArg (fun x=>B x _) ?_) (hB (i + 1,out++[(i:Int)]) _ ⟨by simp only; omega,by simp; omega, ?_⟩ (by simp only; omega) ?_ ?_ ?_ (by simp [AV.under,AV.under1]))
   ·simp
   ·simp only; rw [← h3]; simp [hz]
   ·simp
   ·simp [Ob.below,AV.under1]
   ·simp
  ·rw [IntWalk.i64_in _ (by omega)]
   refine hB (i + 1,out) _ ⟨by simp only; omega,by simp only; omega, ?_⟩ (by simp only; omega) (by simp) (by simp [Ob.below,AV.under1]) (by simp) (by simp [AV.under,AV.under1])
   simp only; rw [← h3]; simp [hz]
 ·rw [List.drop_of_length_le hge] at h3
  refine zo rfl rfl (zCq out) ?_
  simp
  exact zg (by rw [← h3]; simp [whoF])
theorem zDf (i:Int):ClN zkt [.imm [.int .i64 i] 0] (fun n=>decide (i∈n.ins)):=by
 intro o
 apply zu3
 simp [zni]
 refine zo rfl rfl (zoM o.ins i) ?_
 simp
 exact zg rfl
theorem zBF (i:Int):ClN zjp [.imm [.int .i64 i] 0] (fun n=>decide (n.op.k=i)):=by
 intro o
 apply zul
 simp [zlR]
 exact zg rfl
theorem zEw (g:List Nd) (i:Int) (hl:g.length≤1000000):Abs.Fn Tryz.prog zmM [] [.p (.slice (g.map encN)),.p (.int .i64 i)] (.p (.slice (isT (zc2 i 0 g)))) []:=by
 apply zx5
 simp [zrL]
 refine zo rfl rfl (zv4 (zDf i) g hl) ?_
 simp
 exact zg (by rw [zyv])
theorem zvR (g:List Nd) (i:Int) (hl:g.length≤1000000):Abs.Fn Tryz.prog zix [] [.p (.slice (g.map encN)),.p (.int .i64 i)] (.p (.slice (isT (zas i 0 g)))) []:=by
 apply zvo
 simp [zpD]
 refine zo rfl rfl (zv4 (zBF i) g hl) ?_
 simp
 exact zg (by rw [zyB])
theorem zAd (n:Nd):ClN zeL [.imm (encN n).cells 0] (fun o=>decide (o.uid=n.uid)):=by
 intro o
 apply zom
 simp [zgu]
 exact zg rfl
theorem zAf (n:Nd):ClN ze2 [.imm (encN n).cells 0] (fun o=>decide (o.op.k=n.op.k) && decide (o.op.name=n.op.name)):=by
 intro o
 apply zog
 simp [zgN]
 exact zg rfl
end Go.Proofs.YtdmgbhamigegfaaGreatDoor
