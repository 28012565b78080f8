/- What expressions come to: how great, and which errors. No program in sight. -/
import Derived.Test.YtdmgbhamigegfaaGreatDoorZPuEval
set_option linter.unusedSimpArgs false
set_option linter.unusedVariables false
namespace Go.Proofs.YtdmgbhamigegfaaGreatDoor
open Go Go.Abs
inductive We (n:Nat):Ex→Prop where
 | mk (op:List UInt8) (v:Va) (m:Int) (a:List Ex) (hv:Wv n v) (h:a.length≤n) (ho:∀ e∈a,We n e):We n (.mk op v m a)
theorem We.mono {n m:Nat} (hnm:n≤m) {e:Ex} (h:We n e):We m e:=by
 induction h with
 | mk op v k a hv h _ ih=>exact .mk op v k a (hv.mono hnm) (by omega) ih
theorem zme {n:Nat} (m:Int):Wv n (intV m):=.mk _ _ _ _ _ (by simp) (by simp) (by simp)
theorem wv_bool {n:Nat} (b:Bool):Wv n (boolV b):=.mk _ _ _ _ _ (by simp) (by simp) (by simp)
theorem wv_str {n:Nat} {s:List UInt8} (h:s.length≤n):Wv n (strV s):=.mk _ _ _ _ _ h (by simp) (by simp)
def zCm (r:R Va):Prop:=(∃ n,r=.ok (intV n))∨(∃ b,r=.ok (boolV b))∨(∃ s,r=.ok (strV s)∧s.length≤255)∨r=.er 8∨r=.er 4
theorem mkE_two {op:List UInt8} {m:Int} {a c:Va} {r:R Va} (h:mkE op m [a,c]=some r) (h1:op≠oAt) (h2:op≠oTup):zCm r:=by
 obtain ⟨k,i,b,s,t⟩:=a
 obtain ⟨k',i',b',s',t'⟩:=c
 simp only [mkE,h1,h2,if_false] at h
 split at h
 ·exact .inl ⟨_,(Option.some.inj h).symm⟩
 split at h
 ·exact .inl ⟨_,(Option.some.inj h).symm⟩
 split at h
 ·exact .inl ⟨_,(Option.some.inj h).symm⟩
 split at h
 ·have h:=Option.some.inj h
  split at h
  ·exact .inr (.inr (.inr (.inl h.symm)))
  ·exact .inl ⟨_,h.symm⟩
 split at h
 ·have h:=Option.some.inj h
  split at h
  ·exact .inr (.inr (.inr (.inl h.symm)))
  ·exact .inl ⟨_,h.symm⟩
 split at h
 ·exact .inr (.inl ⟨_,(Option.some.inj h).symm⟩)
 split at h
 ·exact .inr (.inl ⟨_,(Option.some.inj h).symm⟩)
 split at h
 ·have h:=Option.some.inj h
  split at h
  ·exact .inr (.inr (.inr (.inr h.symm)))
  ·exact .inr (.inr (.inl ⟨_,h.symm,by simp; omega⟩))
 ·exact absurd h (by simp)
theorem mkE_one {op:List UInt8} {m:Int} {a:Va} {r:R Va} (h:mkE op m [a]=some r) (h1:op≠oAt) (h2:op≠oTup):zCm r:=by
 obtain ⟨k,i,b,s,t⟩:=a
 simp only [mkE,h1,h2,if_false] at h
 split at h
 ·exact .inl ⟨_,(Option.some.inj h).symm⟩
 split at h
 ·exact .inr (.inl ⟨_,(Option.some.inj h).symm⟩)
 split at h
 ·exact .inl ⟨_,(Option.some.inj h).symm⟩
 ·exact absurd h (by simp)
theorem zt9 {op:List UInt8} {m:Int} {l:List Va} (h1:op≠oAt) (h2:op≠oTup) (hl:l.length≠1∧l.length≠2):mkE op m l=none:=by
 match l,hl with
 | [],_=>simp only [mkE,h1,h2,if_false]
 | [_],h=>exact absurd rfl h.1
 | [_,_],h=>exact absurd rfl h.2
 | _::_::_::_,_=>simp only [mkE,h1,h2,if_false]
theorem zy6 {op:List UInt8} {m:Int} {l:List Va} {r:R Va} (h:mkE op m l=some r) (h1:op≠oAt) (h2:op≠oTup):zCm r:=by
 match l,h with
 | [a],h=>exact mkE_one h h1 h2
 | [a,b],h=>exact mkE_two h h1 h2
 | [],h=>rw [zt9 h1 h2 (by simp)] at h; exact absurd h (by simp)
 | _::_::_::_,h=>rw [zt9 h1 h2 (by simp)] at h; exact absurd h (by simp)
theorem zDi {m:Int} {l:List Va} {r:R Va} (h:mkE oAt m l=some r):∃ k i b s t v,l=[.mk k i b s t]∧0≤m∧t[m.toNat]? = some v∧r=.ok v:=by
 simp only [mkE,if_true] at h
 split at h
 ·rename_i k i b s t
  split at h
  ·rename_i h0
   rw [Option.map_eq_some_iff] at h
   obtain ⟨x,hx,hr⟩:=h
   exact ⟨k,i,b,s,t,x,rfl,h0,hx,hr.symm⟩
  ·exact absurd h (by simp)
 ·exact absurd h (by simp)
theorem zz3 {m:Int} {l:List Va} {r:R Va} (h:mkE oTup m l=some r):r=.ok (tupV l):=by
 simp [mkE] at h
 exact h.symm
theorem mkE_wv {n:Nat} (hn:255≤n) {op:List UInt8} {m:Int} {l:List Va} {v:Va} (hl:l.length≤n) (hw:∀ x∈l,Wv n x) (h:mkE op m l=some (.ok v)):Wv n v:=by
 by_cases h1:op=oAt
 ·subst h1
  obtain ⟨k,i,b,s,t,x,rfl,_,hx,hr⟩:=zDi h
  cases hw _ (List.mem_singleton_self _) with
  | mk _ _ _ _ _ _ _ ho =>
   have:v=x:=by simpa using hr
   exact this ▸ ho x (List.mem_of_getElem? hx)
 by_cases h2:op=oTup
 ·subst h2
  have:=zz3 h
  simp at this
  subst this
  exact .mk _ _ _ _ _ (by simp) hl hw
 rcases zy6 h h1 h2 with ⟨m,hr⟩ | ⟨b,hr⟩ | ⟨s,hr,hs⟩ | hr | hr
 ·simp at hr; subst hr; exact zme _
 ·have:v=boolV b:=by injection hr
  subst this; exact wv_bool _
 ·simp at hr; subst hr; exact wv_str (by omega)
 ·simp at hr
 ·simp at hr
theorem mkE_er {op:List UInt8} {m:Int} {l:List Va} {f:Int} (h:mkE op m l=some (.er f)):f≠0:=by
 by_cases h1:op=oAt
 ·subst h1
  obtain ⟨k,i,b,s,t,x,rfl,_,hx,hr⟩:=zDi h
  simp at hr
 by_cases h2:op=oTup
 ·subst h2
  have:=zz3 h
  simp at this
 rcases zy6 h h1 h2 with ⟨m,hr⟩ | ⟨b,hr⟩ | ⟨s,hr,hs⟩ | hr | hr
 ·simp at hr
 ·injection hr
 ·simp at hr
 ·simp at hr; omega
 ·simp at hr; omega
mutual
theorem zws {n:Nat} (hn:255≤n):∀ (e:Ex) (x v:Va),We n e→Wv n x→evE e x=some (.ok v)→Wv n v
 | .mk op w m a,x,v,he,hx,h=>by
  cases he with
  | mk _ _ _ _ hv hl ho =>
   simp only [evE] at h
   split at h
   ·simp at h; subst h; exact hv
   split at h
   ·simp at h; subst h; exact hx
   split at h
   ·exact zFz hn true a x v ho hx h
   split at h
   ·exact zFz hn false a x v ho hx h
   split at h
   ·exact ev3_wv hn a x v ho hx h
   ·split at h
    ·simp at h
    ·simp at h
    ·rename_i l hl'
     exact mkE_wv hn (by rw [zm8 a x l hl']; exact hl) (zCQ hn a x l ho hx hl') h
theorem zFz {n:Nat} (hn:255≤n) (w:Bool):∀ (a:List Ex) (x v:Va),(∀ e∈a,We n e)→Wv n x→ev2 w a x=some (.ok v)→Wv n v
 | [],x,v,ho,hx,h=>by simp [ev2] at h
 | [_],x,v,ho,hx,h=>by simp [ev2] at h
 | _::_::_::_,x,v,ho,hx,h=>by simp [ev2] at h
 | [a0,a1],x,v,ho,hx,h=>by
  simp only [ev2] at h
  split at h
  ·simp at h
  ·simp at h
  ·rename_i u hu
   split at h
   ·exact zws hn a1 x v (ho a1 (by simp)) hx h
   ·simp at h; subst h; exact zws hn a0 x _ (ho a0 (by simp)) hx hu
theorem ev3_wv {n:Nat} (hn:255≤n):∀ (a:List Ex) (x v:Va),(∀ e∈a,We n e)→Wv n x→ev3 a x=some (.ok v)→Wv n v
 | [],x,v,ho,hx,h=>by simp [ev3] at h
 | [_],x,v,ho,hx,h=>by simp [ev3] at h
 | [_,_],x,v,ho,hx,h=>by simp [ev3] at h
 | _::_::_::_::_,x,v,ho,hx,h=>by simp [ev3] at h
 | [a0,a1,a2],x,v,ho,hx,h=>by
  simp only [ev3] at h
  split at h
  ·simp at h
  ·simp at h
  ·split at h
   ·exact zws hn a1 x v (ho a1 (by simp)) hx h
   ·exact zws hn a2 x v (ho a2 (by simp)) hx h
theorem zCQ {n:Nat} (hn:255≤n):∀ (a:List Ex) (x:Va) (l:List Va),(∀ e∈a,We n e)→Wv n x→evL a x=some (.ok l)→∀ v∈l,Wv n v
 | [],x,l,ho,hx,h=>by simp [evL] at h; subst h; simp
 | e::r,x,l,ho,hx,h=>by
  simp only [evL] at h
  split at h
  ·simp at h
  ·simp at h
  ·rename_i v hv
   split at h
   ·simp at h
   ·simp at h
   ·rename_i l' hl'
    simp at h
    subst h
    intro y hy
    simp only [List.mem_cons] at hy
    rcases hy with rfl | hy
    ·exact zws hn e x y (ho e (by simp)) hx hv
    ·exact zCQ hn r x l' (fun e he=>ho e (List.mem_cons_of_mem _ he)) hx hl' y hy
end
mutual
theorem zm7:∀ (e:Ex) (x:Va) (f:Int),evE e x=some (.er f)→f≠0
 | .mk op w m a,x,f,h=>by
  simp only [evE] at h
  split at h
  ·simp at h
  split at h
  ·simp at h
  split at h
  ·exact zFy true a x f h
  split at h
  ·exact zFy false a x f h
  split at h
  ·exact ev3_er a x f h
  ·split at h
   ·simp at h
   ·rename_i g hg; simp at h; subst h; exact zwt a x _ hg
   ·exact mkE_er h
theorem zFy (w:Bool):∀ (a:List Ex) (x:Va) (f:Int),ev2 w a x=some (.er f)→f≠0
 | [],x,v,h=>by simp [ev2] at h
 | [_],x,v,h=>by simp [ev2] at h
 | _::_::_::_,x,v,h=>by simp [ev2] at h
 | [a0,a1],x,v,h=>by
  simp only [ev2] at h
  split at h
  ·simp at h
  ·rename_i g hg; simp at h; subst h; exact zm7 a0 x _ hg
  ·split at h
   ·exact zm7 a1 x v h
   ·simp at h
theorem ev3_er:∀ (a:List Ex) (x:Va) (f:Int),ev3 a x=some (.er f)→f≠0
 | [],x,v,h=>by simp [ev3] at h
 | [_],x,v,h=>by simp [ev3] at h
 | [_,_],x,v,h=>by simp [ev3] at h
 | _::_::_::_::_,x,v,h=>by simp [ev3] at h
 | [a0,a1,a2],x,v,h=>by
  simp only [ev3] at h
  split at h
  ·simp at h
  ·rename_i g hg; simp at h; subst h; exact zm7 a0 x _ hg
  ·split at h
   ·exact zm7 a1 x v h
   ·exact zm7 a2 x v h
theorem zwt:∀ (a:List Ex) (x:Va) (f:Int),evL a x=some (.er f)→f≠0
 | [],x,f,h=>by simp [evL] at h
 | e::r,x,f,h=>by
  simp only [evL] at h
  split at h
  ·simp at h
  ·rename_i g hg; simp at h; subst h; exact zm7 e x _ hg
  ·split at h
   ·simp at h
   ·rename_i g hg; simp at h; subst h; exact zwt r x _ hg
   ·simp at h
end
end Go.Proofs.YtdmgbhamigegfaaGreatDoor
