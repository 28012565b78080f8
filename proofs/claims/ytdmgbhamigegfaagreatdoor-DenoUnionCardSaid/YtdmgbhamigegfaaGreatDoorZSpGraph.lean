/- The package graph over trees. -/
import Derived.Test.YtdmgbhamigegfaaGreatDoorZPuGraph
import Derived.Test.YtdmgbhamigegfaaGreatDoorZSpOpP
import Derived.Test.YtdmgbhamigegfaaGreatDoorS1
import Derived.Test.YtdmgbhamigegfaaGreatDoorS2
set_option linter.unusedSimpArgs false
set_option linter.unusedVariables false
namespace Go.Proofs.YtdmgbhamigegfaaGreatDoor
open Go Go.Abs
theorem zyu {s:Nat}:Gives 0 (.full []) [] (.own 0 []) [.row 0 s]:=by
 intro w G u hi hr
 cases hr with
 | full _ a h =>
  obtain ⟨i1,s1⟩:=zm0 hi (.row a 0 0 s) (.row 0 s) (by cases a <;> simp [Loc.blk]) ⟨rfl,rfl,Nat.le_refl _,fun h=>absurd h (Nat.lt_irrefl _)⟩
  exact ⟨_,i1,.own 0 [] a a 0 0 0 s h (by simp [Gh.withLoc]) (Nat.le_refl _) (fun _=>⟨rfl,rfl⟩) (by simp),s1 0⟩
attribute [local irreducible] Abs.Fn
abbrev isT (l:List Int):List T:=l.map (.int .i64)
def boxN (x:Nd):List AV:=(encN x).cells.map .p
@[simp] theorem zzs {x:Nd}:boxN x=[.p (.str x.uid),.p (.int .i64 x.op.k),.p (.str x.op.name),.p (.int .i64 x.op.t.kind),.p (.slice (x.op.t.of.map encT)),.p (.slice (x.op.es.map encE)),.p (.str x.op.key.op),.p (.int .i64 x.op.key.v.k),.p (.int .i64 x.op.key.v.i),.p (.bool x.op.key.v.b),.p (.str x.op.key.v.s),.p (.slice (x.op.key.v.t.map encV)),.p (.int .i64 x.op.key.n),.p (.slice (x.op.key.a.map encE)),.p (.int .i64 x.op.f),.p (.int .i64 x.op.n),.p (.slice (x.ins.map (T.int .i64))),.p (.int .i64 x.par),.p (.int .i64 x.mx),.p (.str x.grp),.p (.bool x.alone)]:=id rfl
@[simp] theorem zyY (l:List Nd):∀ e∈l.map encN,e.cells.length=21:=fun e he=>by obtain ⟨x,_,rfl⟩:=List.mem_map.1 he; rfl
def idxF {α:Type} (p:α→Bool):Nat→List α→Int
 | _,[]=>-1
 | k,a::r=>if p a then k else idxF p (k + 1) r
theorem zBq {α:Type} (p:α→Bool):∀ (l:List α) (k:Nat),0≤idxF p k l↔l.any p=true
 | [],k=>by simp [idxF]
 | a::r,k=>by
  have e:idxF p k (a::r)=if p a=true then (k:Int) else idxF p (k + 1) r:=rfl
  rw [e,List.any_cons]
  by_cases h:p a=true
  ·simp [h]
  ·rw [if_neg h,zBq p r,show p a=false by simpa using h,Bool.false_or]
theorem zxc {α:Type} (p:α→Bool) (l:List α) (k:Nat):decide (0≤idxF p k l)=l.any p:=by
 rw [Bool.eq_iff_iff,decide_eq_true_eq,zBq]
theorem zuV (l:List Int) (x:Int):Abs.Fn Tryz.prog zcq [] [.p (.slice (isT l)),.p (.int .i64 x)] (.p (.int .i64 (idxF (fun i=>decide (i=x)) 0 l))) []:=by
 apply zmY
 simp [zfh]
 intro hl
 refine zA (σ:=Nat) (n:=0) (fun i=>[.p (.int .i64 i)]) (fun _=>[]) (fun i=>i≤l.length∧idxF (fun i=>decide (i=x)) i (l.drop i)=idxF (fun i=>decide (i=x)) 0 l) (fun i=>l.length - i) [] 0 (fun _=>rfl) ⟨rfl,rfl⟩ (by simp) (fun i B hi hB=>?_)
 obtain ⟨h1,h2⟩:=hi
 generalize hA:idxF (fun i=>decide (i=x)) 0 l=A at *
 simp [zhe]
 refine ⟨fun hlt=>?_,fun hge=>?_⟩
 ·rw [List.drop_eq_getElem_cons hlt,idxF] at h2
  simp [hlt]
  refine ⟨fun hz=>zg ?_,fun hz=>?_⟩
  ·rw [← h2]; simp [hz]
  ·rw [IntWalk.i64_in _ (by simp [maxLen] at hl; omega)]
   refine hB (i + 1) _ ⟨by omega, ?_⟩ (by omega) (by simp) (by simp) (by simp) (by simp [AV.under,AV.under1])
   rw [← h2,if_neg (by simpa using fun h=>hz h.symm)]
 ·rw [List.drop_of_length_le hge] at h2
  exact zg (by rw [← h2]; rfl)
theorem zoX (l:List Int) (x:Int):Abs.Fn Tryz.prog zbG [] [.p (.slice (isT l)),.p (.int .i64 x)] (.p (.bool (decide (x∈l)))) []:=by
 apply zk9
 simp [zdD]
 refine zo rfl rfl (zuV l x) ?_
 simp
 refine zg ?_
 rw [zxc]
 simp only [T.bool.injEq]
 rw [Bool.eq_iff_iff]
 simp
theorem zCI (l:List Int):Abs.Fn Tryz.prog zeu [] [.p (.slice (isT l))] (.p (.slice (isT l))) []:=by
 apply znI
 simp [zf4]
 intro _
 simp [zbU,zih]
 exact zj (by simp [AV.pur,List.take_of_length_le])
def ClN (f:Nat) (cs:List T) (p:Nd→Bool):Prop:=∀ o,Abs.Fn Tryz.prog f [] (([encN o]++cs).map .p) (.p (.bool (p o))) []
theorem zBs {f:Nat} {cs:List T} {p:Nd→Bool} (h:ClN f cs p) (l:List Nd):Abs.Fn Tryz.prog zaH [] [.p (.slice (l.map encN)),.p (.func f cs)] (.p (.int .i64 (idxF p 0 l))) []:=by
 apply zd3
 simp [zaR]
 intro hl
 refine zA (σ:=Nat) (n:=0) (fun i=>[.p (.int .i64 i)]) (fun _=>[]) (fun i=>i≤l.length∧idxF p i (l.drop i)=idxF p 0 l) (fun i=>l.length - i) [] 0 (fun _=>rfl) ⟨rfl,rfl⟩ (by simp) (fun i B hi hB=>?_)
 obtain ⟨h1,h2⟩:=hi
 generalize hA:idxF p 0 l=A at *
 simp [zby]
 refine ⟨fun hlt=>?_,fun hge=>?_⟩
 ·rw [List.drop_eq_getElem_cons hlt,idxF] at h2
  simp [hlt]
  refine zo rfl rfl (h l[i]) ?_
  simp
  refine ⟨fun hz=>zg ?_,fun hz=>?_⟩
  ·rw [← h2]; simp [hz]
  ·rw [IntWalk.i64_in _ (by simp [maxLen] at hl; omega)]
   refine hB (i + 1) _ ⟨by omega, ?_⟩ (by omega) (by simp) (by simp) (by simp) (by simp [AV.under,AV.under1])
   rw [← h2]
   simp [hz]
 ·rw [List.drop_of_length_le hge] at h2
  exact zg (by rw [← h2]; rfl)
theorem zoW {f:Nat} {cs:List T} {p:Nd→Bool} (h:ClN f cs p) (l:List Nd):Abs.Fn Tryz.prog zX [] [.p (.slice (l.map encN)),.p (.func f cs)] (.p (.bool (l.any p))) []:=by
 apply zdl
 simp [zaD]
 refine zo rfl rfl (zBs h l) ?_
 simp
 exact zg (by rw [zxc])
def whoF (p:Nd→Bool):Nat→List Nd→List Int
 | _,[]=>[]
 | k,n::r=>if p n then (k:Int)::whoF p (k + 1) r else whoF p (k + 1) r
theorem zzk (i:Int):∀ (l:List Nd) (k:Nat),whoF (fun n=>decide (i∈n.ins)) k l=zc6 i k l
 | [],k=>rfl
 | n::r,k=>by simp only [whoF,zc6,zzk i r,decide_eq_true_eq]
theorem zzj (i:Int):∀ (l:List Nd) (k:Nat),whoF (fun n=>decide (n.op.k=i)) k l=zbH i k l
 | [],k=>rfl
 | n::r,k=>by simp only [whoF,zbH,zzj i r,decide_eq_true_eq]
theorem zx6 {f:Nat} {cs:List T} {p:Nd→Bool} (h:ClN f cs p) (l:List Nd) (hll:l.length≤1000000):Abs.Fn Tryz.prog zbS [] [.p (.slice (l.map encN)),.p (.func f cs)] (.p (.slice (isT (whoF p 0 l)))) []:=by
 apply zle
 simp [zdL]
 intro hl
 refine zA (σ:=Nat×List Int) (n:=1) (fun q=>[.own 0 (isT q.2),.p (.int .i64 q.1)]) (fun q=>[.row q.2.length 1]) (fun q=>q.1≤l.length∧q.2.length≤q.1∧q.2++whoF p q.1 (l.drop q.1)=whoF p 0 l) (fun q=>l.length - q.1) [.slot 0 1] (0,[]) (fun _=>rfl) ⟨rfl,rfl⟩ (by simp) (fun q B hq hB=>?_)
 obtain ⟨i,out⟩:=q
 obtain ⟨h1,h2,h3⟩:=hq
 simp only at h1 h2 h3
 generalize hA:whoF p 0 l=A at *
 simp [zfz]
 refine ⟨fun hlt=>?_,fun hge=>?_⟩
 ·rw [List.drop_eq_getElem_cons hlt,whoF] at h3
  simp [hlt]
  refine zo rfl rfl (h l[i]) ?_
  simp
  refine ⟨fun hz=>?_,fun hz=>?_⟩
  ·refine ⟨⟨fun e he=>?_,by simp,by simp; omega⟩, ?_⟩
   ·obtain ⟨x,_,rfl⟩:=List.mem_map.1 he; rfl
   rw [IntWalk.i64_in _ (by omega)]
   refine cast (congrArg (fun x=>B x _) ?_) (hB (i + 1,out++[(i:Int)]) _ ⟨by simp only; omega,by simp; omega, ?_⟩ (by simp only; omega) ?_ ?_ ?_ (by simp [AV.under,AV.under1]))
   ·simp
   ·simp only; rw [← h3]; simp [hz]
   ·simp
   ·simp [Ob.below,AV.under1]
   ·simp
  ·rw [IntWalk.i64_in _ (by omega)]
   refine hB (i + 1,out) _ ⟨by simp only; omega,by simp only; omega, ?_⟩ (by simp only; omega) (by simp) (by simp [Ob.below,AV.under1]) (by simp) (by simp [AV.under,AV.under1])
   simp only; rw [← h3]; simp [hz]
 ·rw [List.drop_of_length_le hge] at h3
  refine zo rfl rfl (zCI out) ?_
  simp
  exact zg (by rw [← h3]; simp [whoF])
theorem zDs (i:Int):ClN zkI [.imm [.int .i64 i] 0] (fun n=>decide (i∈n.ins)):=by
 intro o
 apply zvq
 simp [znr]
 refine zo rfl rfl (zoX o.ins i) ?_
 simp
 exact zg rfl
theorem zBB (i:Int):ClN zjy [.imm [.int .i64 i] 0] (fun n=>decide (n.op.k=i)):=by
 intro o
 apply zt2
 simp [zlX]
 exact zg rfl
theorem zEi (g:List Nd) (i:Int) (hl:g.length≤1000000):Abs.Fn Tryz.prog zns [] [.p (.slice (g.map encN)),.p (.int .i64 i)] (.p (.slice (isT (zc6 i 0 g)))) []:=by
 apply zyw
 simp [zr1]
 refine zo rfl rfl (zx6 (zDs i) g hl) ?_
 simp
 exact zg (by rw [zzk])
theorem zvD (g:List Nd) (i:Int) (hl:g.length≤1000000):Abs.Fn Tryz.prog ziT [] [.p (.slice (g.map encN)),.p (.int .i64 i)] (.p (.slice (isT (zbH i 0 g)))) []:=by
 apply zxa
 simp [zpB]
 refine zo rfl rfl (zx6 (zBB i) g hl) ?_
 simp
 exact zg (by rw [zzj])
theorem zzt (n:Nd):ClN zeR [.imm (encN n).cells 0] (fun o=>decide (o.uid=n.uid)):=by
 intro o
 apply zok
 simp [zgE]
 exact zg rfl
theorem zzu (n:Nd):ClN zeS [.imm (encN n).cells 0] (fun o=>decide (o.op.k=n.op.k) && decide (o.op.name=n.op.name)):=by
 intro o
 apply zom
 simp [zgF]
 exact zg rfl
end Go.Proofs.YtdmgbhamigegfaaGreatDoor
