/- Values as trees: what may be, their types, their order. No program in sight. -/
import Derived.Test.YtdmgbhamigegfaaGreatDoorZSpRefTQ
set_option linter.unusedSimpArgs false
set_option linter.unusedVariables false
namespace Go.Proofs.YtdmgbhamigegfaaGreatDoor
open Go Go.Abs
inductive Va where
 | mk (k i:Int) (b:Bool) (s:List UInt8) (t:List Va)
mutual
def encV:Va→T
 | .mk k i b s t=>.agg [.int .i64 k,.int .i64 i,.bool b,.str s,.slice (encVs t)]
def encVs:List Va→List T
 | []=>[]
 | v::r=>encV v::encVs r
end
theorem zA8 (l:List Va):encVs l=l.map encV:=by induction l <;> simp_all [encVs]
@[simp] theorem zzz (k i:Int) (b:Bool) (s:List UInt8) (t:List Va):encV (.mk k i b s t)=.agg [.int .i64 k,.int .i64 i,.bool b,.str s,.slice (t.map encV)]:=by simp [encV,zA8]
theorem zW (v:Va):∃ a b c d e,encV v=.agg [a,b,c,d,e]:=by obtain ⟨k,i,b,s,t⟩:=v; exact ⟨_,_,_,_,_,zzz k i b s t⟩
@[simp] theorem zCN (v:Va):(encV v).cells.length=5:=by obtain ⟨k,i,b,s,t⟩:=v; simp
theorem zqs (l:List Va):∀ e∈l.map encV,e.cells.length=5:=by
 intro e he
 simp at he
 obtain ⟨t,_,rfl⟩:=he
 exact zCN t
theorem zCO (l:List Va) (i:Nat):∀ e∈(l.map encV).take i,e.cells.length=5:=fun e he=>zqs l e (List.mem_of_mem_take he)
def zeroV:Va:=.mk 0 0 false [] []
def intV (n:Int):Va:=.mk 1 n false [] []
def boolV (b:Bool):Va:=.mk 2 0 b [] []
def strV (s:List UInt8):Va:=.mk 3 0 false s []
def tupV (l:List Va):Va:=.mk 4 0 false [] l
def zst:Va→Bool
 | .mk k i b s t=>(decide (k≠1) && decide (i≠0)) || (decide (k≠2) && b) || (decide (k≠3) && decide (s≠[])) || (decide (k≠4) && decide (0 < t.length))
mutual
def z2:Va→Int→Int
 | .mk k i b s t,d=>if k < 1∨4 < k then 5 else if zst (.mk k i b s t) then 2 else if 255 < s.length then 4 else if k≠4 then 0 else if rowE t.length d≠0 then rowE t.length d else zm3 t (d + 1)
def zm3:List Va→Int→Int
 | [],_=>0
 | v::r,d=>if z2 v d≠0 then z2 v d else zm3 r d
end
theorem zrJ (d:Int):∀ l:List Va,zm3 l d=zbW (fun t=>z2 t d) l
 | []=>rfl
 | t::r=>by simp [zbW,zm3,zrJ d r]
mutual
def kindV:Va→Ty
 | .mk k _ _ _ t=>.mk k (zzX t)
def zzX:List Va→List Ty
 | []=>[]
 | v::r=>kindV v::zzX r
end
theorem zEK (l:List Va):zzX l=l.map kindV:=by induction l <;> simp_all [zzX]
@[simp] theorem kindV_mk (k i:Int) (b:Bool) (s:List UInt8) (t:List Va):kindV (.mk k i b s t)=.mk k (t.map kindV):=by simp [kindV,zEK]
def zqE (v:Va):Ty:=if z2 v 0=0 then kindV v else .mk 0 []
def isV (v:Va) (t:Ty):Bool:=decide (z2 v 0=0) && sameT (kindV v) t
def cmpI (a b:Int):Int:=if a < b then -1 else if b < a then 1 else 0
def cmpS (a b:List UInt8):Int:=if Op.bytesLess a b then -1 else if a=b then 0 else 1
def zd4 (b:Bool):Int:=if b then 1 else 0
def orI:List Int→Int
 | []=>0
 | c::r=>if c≠0 then c else orI r
mutual
def cmpV:Va→Va→Int
 | .mk k i b s t,.mk k' i' b' s' t'=>if orI [cmpI k k',cmpI i i',cmpI (zd4 b) (zd4 b'),cmpS s s']≠0 then orI [cmpI k k',cmpI i i',cmpI (zd4 b) (zd4 b'),cmpS s s'] else cmpVs t t'
def cmpVs:List Va→List Va→Int
 | [],[]=>0
 | [],_::_=>-1
 | _::_,[]=>1
 | a::r,b::q=>if cmpV a b≠0 then cmpV a b else cmpVs r q
end
theorem zkm {a b:Int}:cmpI a b=0↔a=b:=by unfold cmpI; grind
theorem zxS {a b:Bool}:zd4 a=zd4 b↔a=b:=by cases a <;> cases b <;> simp [zd4]
theorem zii:∀ a:List UInt8,Op.bytesLess a a=false
 | []=>rfl
 | x::r=>by simp [Op.bytesLess,zii r]
theorem zqr {a b:List UInt8}:cmpS a b=0↔a=b:=by
 unfold cmpS
 constructor
 ·intro h
  split at h
  ·simp at h
  ·split at h
   ·assumption
   ·simp at h
 ·rintro rfl
  simp [zii]
theorem zxz {l:List Int}:orI l=0 ↔ ∀ c∈l,c=0:=by
 induction l with
 | nil=>simp [orI]
 | cons c r ih =>
  simp only [orI,List.mem_cons,forall_eq_or_imp]
  by_cases h:c=0
  ·simp [h,ih]
  ·simp [h]
mutual
theorem zfp:∀ a b:Va,cmpV a b=0↔a=b
 | .mk k i b s t,.mk k' i' b' s' t'=>by
  simp only [cmpV,Va.mk.injEq]
  by_cases h:orI [cmpI k k',cmpI i i',cmpI (zd4 b) (zd4 b'),cmpS s s']=0
  ·have h':=zxz.1 h
   simp only [List.mem_cons,List.not_mem_nil,or_false,forall_eq_or_imp,forall_eq,zkm,zqr,zxS] at h'
   simp only [h,ne_eq,not_true,if_false,zwc t t']
   simp [h'.1,h'.2.1,h'.2.2.1,h'.2.2.2]
  ·simp only [h,ne_eq,not_false_eq_true,if_true,false_iff]
   rintro ⟨rfl,rfl,rfl,rfl,_⟩
   exact h (zxz.2 (by simp [zkm,zqr]))
theorem zwc:∀ a b:List Va,cmpVs a b=0↔a=b
 | [],[]=>by simp [cmpVs]
 | [],_::_=>by simp [cmpVs]
 | _::_,[]=>by simp [cmpVs]
 | a::r,b::q=>by
  have h1:=zfp a b
  simp only [cmpVs,List.cons.injEq]
  by_cases h:cmpV a b=0
  ·have e:=h1.1 h
   rw [if_neg (by simpa using h),zwc r q]
   simp [e]
  ·simp only [h,ne_eq,not_false_eq_true,if_true,false_iff]
   rintro ⟨e,_⟩
   exact h (h1.2 e)
end
inductive Wv (n:Nat):Va→Prop where
 | mk (k i:Int) (b:Bool) (s:List UInt8) (t:List Va) (hs:s.length≤n) (h:t.length≤n) (ho:∀ v∈t,Wv n v):Wv n (.mk k i b s t)
theorem Wv.mono {n m:Nat} (hnm:n≤m) {v:Va} (h:Wv n v):Wv m v:=by
 induction h with
 | mk k i b s t hs h _ ih=>exact .mk k i b s t (by omega) (by omega) ih
end Go.Proofs.YtdmgbhamigegfaaGreatDoor
