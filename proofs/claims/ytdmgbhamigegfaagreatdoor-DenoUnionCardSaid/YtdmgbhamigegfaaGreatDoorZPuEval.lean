/- An expression that may be comes to a value of its type, or to an error. No program in sight. -/
import Derived.Test.YtdmgbhamigegfaaGreatDoorZPuExpr
set_option linter.unusedSimpArgs false
set_option linter.unusedVariables false
namespace Go.Proofs.YtdmgbhamigegfaaGreatDoor
open Go Go.Abs
@[simp] theorem ite_ok_er {α:Type} {c:Prop} [Decidable c] {a u:α} {e:Int}:((if c then R.ok a else R.er e)=R.ok u)↔(c∧a=u):=by split <;> simp_all
@[simp] theorem ite_er_x {α:Type} {c:Prop} [Decidable c] {u:α} {r:R α} {e:Int}:((if c then R.er e else r)=R.ok u)↔(¬ c∧r=R.ok u):=by split <;> simp_all
@[simp] theorem ite_x_er {α:Type} {c:Prop} [Decidable c] {u:α} {r:R α} {e:Int}:((if c then r else R.er e)=R.ok u)↔(c∧r=R.ok u):=by split <;> simp_all
theorem zET {n d d':Int} (h:rowE n d=0) (hd:d'≤d):rowE n d'=0:=by
 unfold rowE at *
 grind
theorem zuS {α:Type} {g:α→Int} {l:List α}:zbW g l=0 ↔ ∀ x∈l,g x=0:=by
 induction l with
 | nil=>simp [zbW]
 | cons x r ih =>
  simp only [zbW,List.mem_cons,forall_eq_or_imp]
  by_cases h:g x=0
  ·simp [h,ih]
  ·simp [h]
theorem zC8 {k i:Int} {b:Bool} {s:List UInt8} {t:List Va} {d:Int} (h:z2 (.mk k i b s t) d=0) :
  (k=1∧b=false∧s=[]∧t=[])∨(k=2∧i=0∧s=[]∧t=[])∨(k=3∧i=0∧b=false∧t=[]∧s.length≤255)∨(k=4∧i=0∧b=false∧s=[]∧rowE t.length d=0∧zm3 t (d + 1)=0):=by
 simp only [z2] at h
 split at h
 ·simp at h
 rename_i hk
 split at h
 ·simp at h
 rename_i hsp
 split at h
 ·simp at h
 rename_i hl
 have hk:k=1∨k=2∨k=3∨k=4:=by omega
 simp only [zst] at hsp
 rcases hk with rfl | rfl | rfl | rfl
 ·simp at hsp
  left
  exact ⟨rfl,hsp.1.1,hsp.1.2,hsp.2⟩
 ·simp at hsp
  right; left
  exact ⟨rfl,hsp.1.1,hsp.1.2,hsp.2⟩
 ·simp at hsp
  right; right; left
  exact ⟨rfl,hsp.1.1,hsp.1.2,hsp.2,by omega⟩
 ·simp at hsp
  right; right; right
  simp only [ne_eq,not_true,if_false] at h
  split at h
  ·rename_i hr; exact absurd h hr
  ·rename_i hr
   exact ⟨rfl,hsp.1.1,hsp.1.2,hsp.2,by simpa using hr,h⟩
mutual
theorem zuX:∀ (v:Va) (d:Int),z2 v d=0→zI (kindV v) d=0
 | .mk k i b s t,d,h=>by
  rcases zC8 h with ⟨rfl,rfl,rfl,rfl⟩ | ⟨rfl,rfl,rfl,rfl⟩ | ⟨rfl,rfl,rfl,rfl,hl⟩ | ⟨rfl,rfl,rfl,rfl,hr,hc⟩
  ·simp [zI]
  ·simp [zI]
  ·simp [zI]
  ·have:=zs4 t (d + 1) hc
   simp [zI,hr,this]
theorem zs4:∀ (l:List Va) (d:Int),zm3 l d=0→zcm (l.map kindV) d=0
 | [],_,_=>by simp [zcm]
 | v::r,d,h=>by
  simp only [zm3,List.map_cons,zcm] at h ⊢
  have h1:=fun a=>zuX v d a
  have h2:=fun a=>zs4 r d a
  grind
end
theorem zm4:∀ (a:List Ex) (t:Ty) (d:Int) (l:List Ty),ckL a t d=.ok l→l.length=a.length
 | [],t,d,l,h=>by simp [ckL] at h; subst h; rfl
 | e::r,t,d,l,h=>by
  simp only [ckL] at h
  split at h
  ·simp at h
  ·split at h
   ·simp at h
   ·rename_i l' hl'
    simp at h
    subst h
    simp [zm4 r t d l' hl']
theorem zm8:∀ (a:List Ex) (x:Va) (l:List Va),evL a x=some (.ok l)→l.length=a.length
 | [],x,l,h=>by simp [evL] at h; subst h; rfl
 | e::r,x,l,h=>by
  simp only [evL] at h
  split at h
  ·simp at h
  ·simp at h
  ·split at h
   ·simp at h
   ·simp at h
   ·rename_i l' hl'
    simp at h
    subst h
    simp [zm8 r x l' hl']
end Go.Proofs.YtdmgbhamigegfaaGreatDoor
