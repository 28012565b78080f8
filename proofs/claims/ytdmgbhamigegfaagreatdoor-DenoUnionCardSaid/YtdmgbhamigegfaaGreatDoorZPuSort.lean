/- Values' order is one. No program in sight. -/
import Derived.Test.YtdmgbhamigegfaaGreatDoorZPuVal
import Derived.Test.YtdmgbhamigegfaaGreatDoorZSpRepQ
set_option linter.unusedSimpArgs false
set_option linter.unusedVariables false
namespace Go.Proofs.YtdmgbhamigegfaaGreatDoor
open Go Go.Abs
theorem ordI:Ordr cmpI:=⟨fun a b=>zkm,by intro a b; unfold cmpI; grind,by intro a b d; unfold cmpI; grind⟩
theorem znR:∀ a b:List UInt8,a≠b→Op.bytesLess a b = !Op.bytesLess b a
 | [],[],h=>absurd rfl h
 | [],_::_,_=>by simp [Op.bytesLess]
 | _::_,[],_=>by simp [Op.bytesLess]
 | x::r,y::q,h=>by
  by_cases e:x=y
  ·subst e
   have:=znR r q (by simpa using h)
   simp [Op.bytesLess,this]
  ·have h1:¬ (x=y):=e
   have h2:¬ (y=x):=fun e'=>e e'.symm
   simp only [Op.bytesLess,beq_iff_eq,h1,h2]
   rcases UInt8.lt_or_lt_of_ne e with h | h
   ·have:¬ y < x:=UInt8.not_lt.2 (UInt8.le_of_lt h)
    simp [h,this,h1,h2]
   ·have:¬ x < y:=UInt8.not_lt.2 (UInt8.le_of_lt h)
    simp [h,this,h1,h2]
theorem znS:∀ a b c:List UInt8,Op.bytesLess a b=true→Op.bytesLess b c=true→Op.bytesLess a c=true
 | [],_,[],h,k=>by cases ‹List UInt8› <;> simp [Op.bytesLess] at k
 | [],_,_::_,h,k=>by simp [Op.bytesLess]
 | x::r,[],_,h,k=>by simp [Op.bytesLess] at h
 | x::r,y::q,[],h,k=>by simp [Op.bytesLess] at k
 | x::r,y::q,z::p,h,k=>by
  simp only [Op.bytesLess,Bool.or_eq_true,decide_eq_true_eq,Bool.and_eq_true,beq_iff_eq] at h k ⊢
  rcases h with h | ⟨rfl,h⟩
  ·rcases k with k | ⟨rfl,k⟩
   ·exact .inl (UInt8.lt_trans h k)
   ·exact .inl h
  ·rcases k with k | ⟨rfl,k⟩
   ·exact .inl k
   ·exact .inr ⟨rfl,znS r q p h k⟩
theorem ordS:Ordr cmpS:=by
 refine ⟨fun a b=>zqr,fun a b=>?_,fun a b d h k=>?_⟩
 ·by_cases e:a=b
  ·subst e; simp [cmpS,zii]
  ·have h:=znR a b e
   have e2:¬ b=a:=fun e'=>e e'.symm
   unfold cmpS
   cases hb:Op.bytesLess b a <;> simp [h,hb,e,e2]
 ·have lt:∀ a b,cmpS a b < 0→Op.bytesLess a b=true:=by
   intro a b h
   unfold cmpS at h
   split at h
   ·assumption
   ·split at h <;> simp at h
  have:=znS a b d (lt a b h) (lt b d k)
  simp [cmpS,this]
theorem ordB:Ordr (fun a b:Bool=>cmpI (zd4 a) (zd4 b)) :=
 ⟨fun a b=>by rw [zkm,zxS],fun a b=>ordI.anti _ _,fun a b d=>ordI.trans _ _ _⟩
theorem zoS (k i:Int) (b:Bool) (s:List UInt8) (t:List Va) (k' i':Int) (b':Bool) (s':List UInt8) (t':List Va) :
  cmpV (.mk k i b s t) (.mk k' i' b' s' t')=lexI (cmpI k k') (lexI (cmpI i i') (lexI (cmpI (zd4 b) (zd4 b')) (lexI (cmpS s s') (cmpVs t t')))):=by
 simp only [cmpV,orI,lexI]
 grind
theorem zky (a:Va) (r:List Va) (b:Va) (q:List Va):cmpVs (a::r) (b::q)=lexI (cmpV a b) (cmpVs r q):=by simp [cmpVs,lexI]
mutual
theorem ztJ:∀ a b:Va,cmpV b a = - cmpV a b
 | .mk k i b s t,.mk k' i' b' s' t'=>by
  rw [zoS,zoS]
  exact zmy (ordI.anti _ _) (zmy (ordI.anti _ _) (zmy (ordI.anti _ _) (zmy (ordS.anti _ _) (zwa t t'))))
theorem zwa:∀ a b:List Va,cmpVs b a = - cmpVs a b
 | [],[]=>by simp [cmpVs]
 | [],_::_=>by simp [cmpVs]
 | _::_,[]=>by simp [cmpVs]
 | a::r,b::q=>by
  rw [zky,zky]
  exact zmy (ztJ a b) (zwa r q)
end
theorem zDc {a b d:Va} (hb:cmpV a b < 0→cmpV b d < 0→cmpV a d < 0) {y1 y2 y3:Int} (hy:y1 < 0→y2 < 0→y3 < 0) (h:lexI (cmpV a b) y1 < 0) (k:lexI (cmpV b d) y2 < 0):lexI (cmpV a d) y3 < 0:=by
 unfold lexI at *
 by_cases e1:cmpV a b=0
 ·obtain rfl:=(zfp a b).1 e1
  by_cases e2:cmpV a d=0
  ·simp only [e1,e2,ne_eq,not_true,if_false] at h k ⊢
   exact hy h k
  ·simp only [e2,ne_eq,not_false_eq_true,if_true] at k ⊢
   exact k
 ·simp only [e1,ne_eq,not_false_eq_true,if_true] at h
  by_cases e2:cmpV b d=0
  ·obtain rfl:=(zfp b d).1 e2
   simp only [e1,ne_eq,not_false_eq_true,if_true]
   exact h
  ·simp only [e2,ne_eq,not_false_eq_true,if_true] at k
   have:=hb h k
   rw [if_pos (by omega)]
   exact this
mutual
theorem zrK:∀ a b d:Va,cmpV a b < 0→cmpV b d < 0→cmpV a d < 0
 | .mk k i b s t,.mk k' i' b' s' t',.mk k2 i2 b2 s2 t2=>by
  rw [zoS,zoS,zoS]
  exact zmz ordI _ _ _ (zmz ordI _ _ _ (zmz ordB _ _ _ (zmz ordS _ _ _ (zuP t t' t2))))
theorem zuP:∀ a b d:List Va,cmpVs a b < 0→cmpVs b d < 0→cmpVs a d < 0
 | [],[],_=>by simp [cmpVs]
 | [],_::_,[]=>by simp [cmpVs]
 | [],_::_,_::_=>by simp [cmpVs]
 | _::_,[],_=>by simp [cmpVs]
 | _::_,_::_,[]=>by simp [cmpVs]
 | a::r,b::q,d::p=>by
  rw [zky,zky,zky]
  exact zDc (zrK a b d) (zuP r q p)
end
instance:DecidableEq Va:=fun a b=>decidable_of_iff (cmpV a b=0) (zfp a b)
theorem ordV:Ordr cmpV:=⟨zfp,ztJ,zrK⟩
def cmpW (a b:Int×Va):Int:=lexI (cmpI a.1 b.1) (cmpV a.2 b.2)
theorem ordW:Ordr cmpW:=by
 refine ⟨fun a b=>?_,fun a b=>zmy (ordI.anti _ _) (ztJ _ _),fun a b d=>zmz ordI _ _ _ (zrK _ _ _)⟩
 obtain ⟨i,x⟩:=a
 obtain ⟨j,y⟩:=b
 simp [cmpW,zFN,zkm,zfp]
end Go.Proofs.YtdmgbhamigegfaaGreatDoor
