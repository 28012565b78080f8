/- What the functions of the package typ answer, over trees: Row, word, check, Check. -/
import Derived.Test.YtdmgbhamigegfaaGreatDoorS1
import Derived.Test.YtdmgbhamigegfaaGreatDoorZSpRepQ
namespace Go.Proofs.YtdmgbhamigegfaaGreatDoor
open Go Go.Abs
inductive Ty where
 | mk (k:Int) (of:List Ty)
mutual
def encT:Ty→T
 | .mk k of=>.agg [.int .i64 k,.slice (encTs of)]
def encTs:List Ty→List T
 | []=>[]
 | t::r=>encT t::encTs r
end
theorem zFv (l:List Ty):encTs l=l.map encT:=by induction l <;> simp_all [encTs]
@[simp] theorem encT_mk (k:Int) (of:List Ty):encT (.mk k of)=.agg [.int .i64 k,.slice (of.map encT)]:=by simp [encT,zFv]
theorem zho (t:Ty):∃ a b,encT t=.agg [a,b]:=by obtain ⟨k,of⟩:=t; exact ⟨_,_,encT_mk k of⟩
@[simp] theorem encT_cells (t:Ty):(encT t).cells.length=2:=by obtain ⟨k,of⟩:=t; simp
def rowE (n d:Int):Int:=if n=0 then 1 else if n > 8 then 10 else if d > 4 then 9 else 0
theorem zBU (n d:Int):Abs.Fn Tryz.prog zqD [] [.p (.int .i64 n),.p (.int .i64 d)] (.p (.int .i64 (rowE n d))) []:=by
 apply zDD
 simp [zAm]
 grind [zg,rowE]
theorem zEy {α:Type} (l:List α) (enc:α→T) (f:Nat) (caps:List T) (g:α→Int) (hs:∀ e∈l,∃ a b,enc e=.agg [a,b]) (hf:∀ e∈l,Abs.Fn Tryz.prog f [] (.p (enc e)::caps.map .p) (.p (.int .i64 (g e))) []) :
  Abs.Fn Tryz.prog zf7 [] [.p (.slice (l.map enc)),.p (.func f caps)] (.p (.int .i64 (zbW g l))) []:=by
 apply zqe
 simp only [zhV,aLen_p,List.length_map]
 intro hl
 refine zA (σ:=Nat) (n:=0) (fun i=>[.p (.int .i64 i)]) (fun _=>[]) (fun i=>i≤l.length∧zbW g (l.drop i)=zbW g l) (fun i=>l.length - i) [] 0 (fun _=>rfl) ⟨rfl,rfl⟩ (by simp) (fun i B hi hB=>?_)
 obtain ⟨h1,h2⟩:=hi
 simp [zjr]
 constructor
 ·intro hlt
  have hm:l[i]∈l:=by simp
  obtain ⟨a,b,hab⟩:=hs _ hm
  have hfm:=hf _ hm
  have hd:=zln g l i hlt
  rw [h2] at hd
  rw [hab] at hfm
  simp [hlt,hab]
  refine zM rfl hfm ?_
  simp
  refine ⟨fun hz=>zg (by simp [hd,hz]),fun hz=>?_⟩
  rw [IntWalk.i64_in _ (by simp [maxLen] at hl; omega)]
  exact hB (i + 1) _ ⟨by omega,by simp [hd,hz]⟩ (by omega) (by simp) (by simp) (by simp) (by simp [AV.under,AV.under1])
 ·intro hge
  have:i=l.length:=by omega
  subst this
  exact zg (by simp [← h2,zbW])
mutual
def zI:Ty→Int→Int
 | .mk k of,d=>if k=1∨k=2∨k=3 then (if of=[] then 0 else 5) else if k=4 then (if rowE of.length d≠0 then rowE of.length d else zcm of (d + 1)) else 5
def zcm:List Ty→Int→Int
 | [],_=>0
 | t::r,d=>if zI t d≠0 then zI t d else zcm r d
end
theorem zkw (d:Int):∀ l:List Ty,zcm l d=zbW (fun t=>zI t d) l
 | []=>rfl
 | t::r=>by simp [zbW,zcm,zkw d r]
theorem zv1 (t:Ty) (d:Int) (h0:0≤d) (h1:d≤100):Abs.Fn Tryz.prog zlD [] [.p (encT t),.p (.int .i64 d)] (.p (.int .i64 (zI t d))) []:=by
 apply zAo
 obtain ⟨k,of⟩:=t
 simp [zuu]
 refine ⟨fun hk _=>⟨fun h=>zg (by simp [zI]; grind),fun h=>zg (by simp [zI]; grind)⟩,fun hk1 hk2 hk3=>⟨fun hk hl=>?_,fun hk4=>zg (by simp [zI]; grind)⟩⟩
 refine zM rfl (zBU _ _) ?_
 simp
 refine ⟨fun hr=>zg (by simp [zI,hk,hr]),fun hr=>?_⟩
 have hd:d≤4:=by unfold rowE at hr; grind
 refine zM rfl (zEy of encT _ _ (fun t=>zI t (d + 1)) (fun e _=>zho e) ?_) (zg (by simp [zI,hk,hr,zkw]))
 intro t' ht'
 have:=zv1 t' (d + 1) (by omega) (by omega)
 apply zxW
 obtain ⟨k',of'⟩:=t'
 simp [zqc]
 rw [IntWalk.i64_in _ (by omega)]
 exact zM rfl (by simpa using this) (zg rfl)
termination_by SizeOf.sizeOf t
decreasing_by
 have:=List.sizeOf_lt_of_mem ht'
 simp
 omega
theorem za4 (t:Ty):Abs.Fn Tryz.prog zhf [] [.p (encT t)] (.p (.int .i64 (zI t 0))) []:=by
 apply zAl
 have:=zv1 t 0 (by omega) (by omega)
 obtain ⟨k,of⟩:=t
 simp [zut]
 exact zM rfl (by simpa using this) (zg rfl)
end Go.Proofs.YtdmgbhamigegfaaGreatDoor
