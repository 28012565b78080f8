/- Arguments that are values, types, expressions: which trees they are. -/
import Derived.Test.YtdmgbhamigegfaaGreatDoorA3
import Derived.Test.YtdmgbhamigegfaaGreatDoorZSpDec

section
/- Arguments that are values, types, expressions: which trees they are. -/
set_option linter.unusedVariables false
namespace Go.Proofs.YtdmgbhamigegfaaGreatDoor
open Go Go.Abs
theorem i8_wf {m:Int} (h:(Lit.int .i8 m).wf=true):-128≤m∧m≤127:=by
 simpa [Lit.wf,IntKind.min,IntKind.max,IntKind.signed,IntKind.bits] using h
def I64 (n:Int):Prop:=-9223372036854775808≤n∧n≤9223372036854775807
theorem zEb {α:Type} {p:List T→Prop} {enc:α→T} {f:List T→T} {q:α→Prop}:∀ es:List (List T),(∀ x∈es,p x)→(∀ x,p x→∃ a,f x=enc a∧q a)→∃ l:List α,es.map f=l.map enc∧l.length=es.length ∧ ∀ a∈l,q a
 | [],_,_=>⟨[],rfl,rfl,by simp⟩
 | x::r,h,g=>by
  obtain ⟨a,h1,h2⟩:=g x (h x (by simp))
  obtain ⟨l,h3,h4,h5⟩:=zEb r (fun y hy=>h y (by simp [hy])) g
  exact ⟨a::l,by simp [h1,h3],by simp [h4],by simp; exact ⟨h2,h5⟩⟩
end Go.Proofs.YtdmgbhamigegfaaGreatDoor
end

section
/- Types that may be, deep and less deep; the ops' table. No program in sight. -/
set_option linter.unusedSimpArgs false
set_option linter.unusedVariables false
namespace Go.Proofs.YtdmgbhamigegfaaGreatDoor
open Go Go.Abs
theorem zAZ (of:List Ty) (d:Int):zI (.mk 4 of) d=if rowE of.length d≠0 then rowE of.length d else zcm of (d + 1):=by
 simp only [zI]
 rw [if_neg (by omega),if_pos trivial]
mutual
theorem zuM:∀ (t:Ty) (d d':Int),zI t d=0→d'≤d→zI t d'=0
 | .mk k of,d,d',h,hd=>by
  simp only [zI] at h ⊢
  have h1:=fun h=>zET (n:=of.length) (d:=d) (d':=d') h hd
  have h2:=fun h=>zsD of (d + 1) (d' + 1) h (by omega)
  grind
theorem zsD:∀ (l:List Ty) (d d':Int),zcm l d=0→d'≤d→zcm l d'=0
 | [],d,d',h,hd=>by simp [zcm]
 | t::r,d,d',h,hd=>by
  simp only [zcm] at h ⊢
  have h1:=fun h=>zuM t d d' h hd
  have h2:=fun h=>zsD r d d' h hd
  grind
end
mutual
theorem zye:∀ (t:Ty) (d d':Int),zI t d=0→d≤d'→zI t d'=0∨zI t d'=9
 | .mk k of,d,d',h,hd=>by
  simp only [zI] at h ⊢
  have h1:rowE of.length d=0→rowE of.length d'=0∨rowE of.length d'=9:=by unfold rowE; grind
  have h2:=fun h=>zkv of (d + 1) (d' + 1) h (by omega)
  grind
theorem zkv:∀ (l:List Ty) (d d':Int),zcm l d=0→d≤d'→zcm l d'=0∨zcm l d'=9
 | [],d,d',h,hd=>by simp [zcm]
 | t::r,d,d',h,hd=>by
  simp only [zcm] at h ⊢
  have h1:=fun h=>zye t d d' h hd
  have h2:=fun h=>zkv r d d' h hd
  grind
end
theorem zA1 {l:List Ty} {d:Int} (h:∀ t∈l,zI t d=0):zcm l d=0:=by
 rw [zkw,zuS]
 exact h
theorem zA2 {l:List Ty} {d:Int} (h:zcm l d=0):∀ t∈l,zI t d=0:=by
 rw [zkw,zuS] at h
 exact h
theorem zCG {l:List Ty} (h:∀ t∈l,zI t 0=0) (h1:1≤l.length) (h8:l.length≤8):zI (.mk 4 l) 0=0∨zI (.mk 4 l) 0=9:=by
 rw [zAZ]
 have hr:rowE l.length 0=0:=by unfold rowE; grind
 rw [hr]
 exact zkv l 0 (0 + 1) (zA1 h) (by omega)
theorem zA0 {k:Int} {of:List Ty} {d:Int} (h:zI (.mk k of) d=0):∀ t∈of,zI t d=0:=by
 intro t ht
 simp only [zI] at h
 split at h
 ·split at h
  ·rename_i h0; subst h0; simp at ht
  ·simp at h
 split at h
 ·split at h
  ·rename_i hx; exact absurd h hx
  ·exact zuM t (d + 1) d (zA2 h t ht) (by omega)
 ·simp at h
theorem zEP {op:List UInt8} {n:Int} {l:List Ty} {u:Ty} (h:opT op n l=.ok u) (hl:∀ t∈l,zI t 0=0) (ho:op≠oLit∧op≠oX∧arE op ≠ -2):zI u 0=0:=by
 unfold opT at h
 have hp:∀ k:Int,(k=1∨k=2∨k=3)→zI (zkO k) 0=0:=fun k hk=>by
  simp only [zkO,zI]
  rw [if_pos hk]
  simp
 split at h
 ·split at h
  ·rename_i t r
   simp at h
   obtain ⟨h4,h1,rfl⟩:=h
   have hlt:n.toNat < t.of.length:=by omega
   obtain ⟨k,of⟩:=t
   simp at hlt ⊢
   rw [List.getElem?_eq_getElem hlt]
   exact zA0 (hl (.mk k of) (by simp)) _ (by simp)
  ·simp at h
 split at h
 ·simp at h
  exact h.2 ▸ h.1
 split at h
 ·split at h
  ·simp at h
   exact h.2 ▸ hp 2 (by omega)
  ·simp at h
 split at h
 ·split at h
  ·simp at h
   exact h.2 ▸ hl _ (by simp)
  ·simp at h
 ·simp at h
  obtain ⟨_,rfl⟩:=h
  have hop:=ho
  unfold arE at hop
  split <;> rename_i h1
  ·exact hp 1 (by omega)
  split <;> rename_i h2
  ·exact hp 2 (by omega)
  split <;> rename_i h3
  ·exact hp 3 (by omega)
  split <;> rename_i h4
  ·exact hp 1 (by omega)
  ·exfalso
   grind
mutual
theorem zEv:∀ (e:Ex) (t:Ty) (d:Int) (u:Ty),ckE e t d=.ok u→zI t 0=0→zI u 0=0
 | .mk op v n a,t,d,u,h,ht=>by
  simp only [ckE] at h
  split at h
  ·simp at h
  rename_i har
  split at h
  ·simp at h
  split at h
  ·simp at h
  split at h
  ·split at h
   ·simp at h
   ·rename_i hc
    simp at h hc
    exact h ▸ zuX v 0 hc
  rename_i hlit
  split at h
  ·simp at h
   exact h ▸ ht
  rename_i hX
  split at h
  ·simp at h
  ·rename_i l hl
   exact zEP h (zqp a t (d + 1) l hl ht) ⟨hlit,hX,har⟩
theorem zqp:∀ (a:List Ex) (t:Ty) (d:Int) (l:List Ty),ckL a t d=.ok l→zI t 0=0→∀ u∈l,zI u 0=0
 | [],t,d,l,h,ht=>by simp [ckL] at h; subst h; simp
 | e::r,t,d,l,h,ht=>by
  simp only [ckL] at h
  split at h
  ·simp at h
  ·rename_i u hu
   split at h
   ·simp at h
   ·rename_i l' hl'
    simp at h
    subst h
    intro x hx
    simp only [List.mem_cons] at hx
    rcases hx with rfl | hx
    ·exact zEv e t d x hu ht
    ·exact zqp r t d l' hl' ht x hx
end
structure Sh where
 least:Int
 most:Int
 of:List Int
 alike:Bool
 out:Int
def numSh:Sh:=⟨2,2,[1,1],false,1⟩
def askSh:Sh:=⟨2,2,[0,0],true,2⟩
def zoM:Sh:=⟨2,2,[2,2],false,2⟩
def noSh:Sh:=⟨0,0,[],false,0⟩
def shL:List (List UInt8×Sh):=[(oLit,noSh),(oX,noSh),(oAt,⟨1,1,[4],false,0⟩),(oTup,⟨1,8,[],false,4⟩),(oNeg,⟨1,1,[1],false,1⟩),(oNot,⟨1,1,[2],false,2⟩),(oLen,⟨1,1,[3],false,1⟩),
 (oAdd,numSh),(oSub,numSh),(oMul,numSh),(oDiv,numSh),(oRem,numSh),(oEq,askSh),(oLt,askSh),(oAnd,zoM),(oOr,zoM),(oCat,⟨2,2,[3,3],false,3⟩),(oIf,⟨3,3,[2,0,0],true,0⟩)]
def lookS (name:List UInt8):List (List UInt8×Sh)→Option Sh
 | []=>none
 | p::r=>if p.1=name then some p.2 else lookS name r
theorem zDf (name:List UInt8) (l:List (List UInt8×Sh)) (i:Nat) (h:i < l.length):lookS name (l.drop i)=if l[i].1=name then some l[i].2 else lookS name (l.drop (i + 1)):=by
 rw [List.drop_eq_getElem_cons h]
 simp [lookS]
theorem zlr (op:List UInt8):(lookS op shL=none∧arE op = -2)∨(op=oLit∧lookS op shL=some noSh)∨(op=oX∧lookS op shL=some noSh)∨(op=oAt∧lookS op shL=some ⟨1,1,[4],false,0⟩)∨(op=oTup∧lookS op shL=some ⟨1,8,[],false,4⟩) ∨
  (op=oNeg∧lookS op shL=some ⟨1,1,[1],false,1⟩)∨(op=oNot∧lookS op shL=some ⟨1,1,[2],false,2⟩)∨(op=oLen∧lookS op shL=some ⟨1,1,[3],false,1⟩) ∨
  ((op=oAdd∨op=oSub∨op=oMul∨op=oDiv∨op=oRem)∧lookS op shL=some numSh)∨((op=oEq∨op=oLt)∧lookS op shL=some askSh)∨((op=oAnd∨op=oOr)∧lookS op shL=some zoM) ∨
  (op=oCat∧lookS op shL=some ⟨2,2,[3,3],false,3⟩)∨(op=oIf∧lookS op shL=some ⟨3,3,[2,0,0],true,0⟩):=by
 by_cases h0:op=oLit
 ·subst h0; simp [shL,lookS]
 by_cases h1:op=oX
 ·subst h1; simp [shL,lookS]
 by_cases h2:op=oAt
 ·subst h2; simp [shL,lookS]
 by_cases h3:op=oTup
 ·subst h3; simp [shL,lookS]
 by_cases h4:op=oNeg
 ·subst h4; simp [shL,lookS]
 by_cases h5:op=oNot
 ·subst h5; simp [shL,lookS]
 by_cases h6:op=oLen
 ·subst h6; simp [shL,lookS]
 by_cases h7:op=oAdd
 ·subst h7; simp [shL,lookS]
 by_cases h8:op=oSub
 ·subst h8; simp [shL,lookS]
 by_cases h9:op=oMul
 ·subst h9; simp [shL,lookS]
 by_cases h10:op=oDiv
 ·subst h10; simp [shL,lookS]
 by_cases h11:op=oRem
 ·subst h11; simp [shL,lookS]
 by_cases h12:op=oEq
 ·subst h12; simp [shL,lookS]
 by_cases h13:op=oLt
 ·subst h13; simp [shL,lookS]
 by_cases h14:op=oAnd
 ·subst h14; simp [shL,lookS]
 by_cases h15:op=oOr
 ·subst h15; simp [shL,lookS]
 by_cases h16:op=oCat
 ·subst h16; simp [shL,lookS]
 by_cases h17:op=oIf
 ·subst h17; simp [shL,lookS]
 left
 have hs:∀ c:List UInt8,op≠c→¬ c=op:=fun c h e=>h e.symm
 simp only [shL,lookS]
 refine ⟨?_, ?_⟩
 ·simp only [hs _ h0,hs _ h1,hs _ h2,hs _ h3,hs _ h4,hs _ h5,hs _ h6,hs _ h7,hs _ h8,hs _ h9,hs _ h10,hs _ h11,hs _ h12,hs _ h13,hs _ h14,hs _ h15,hs _ h16,hs _ h17,if_false]
 ·unfold arE
  simp only [h0,h1,h2,h3,h4,h5,h6,h7,h8,h9,h10,h11,h12,h13,h14,h15,h16,h17,or_self,if_false]
def fitsK:List Int→List Ty→Bool
 | [],_=>true
 | _::_,[]=>false
 | k::r,t::q=>(decide (k=0) || decide (t.kind=k)) && fitsK r q
theorem zCZ (l:List Int) (q:List Ty) (i:Nat) (h:i < l.length) (h':i < q.length):fitsK (l.drop i) (q.drop i)=((decide (l[i]=0) || decide (q[i].kind=l[i])) && fitsK (l.drop (i + 1)) (q.drop (i + 1))):=by
 rw [List.drop_eq_getElem_cons h,List.drop_eq_getElem_cons h']
 simp [fitsK]
def fitsS (s:Sh) (l:List Ty):Bool:=fitsK s.of l && (!s.alike || sameT (l.getD (l.length - 1) (.mk 0 [])) (l.getD (l.length - 2) (.mk 0 [])))
def zds (op:List UInt8) (n:Int) (out:Int) (l:List Ty):R Ty :=
 if op=oAt then (if n < 0∨((l.getD 0 (.mk 0 [])).of.length:Int)≤n then .er 1 else .ok ((l.getD 0 (.mk 0 [])).of.getD n.toNat (.mk 0 [])))
 else if op=oTup then (if zI (.mk 4 l) 0≠0 then .er (zI (.mk 4 l) 0) else .ok (.mk 4 l))
 else if op=oIf then .ok (l.getD 1 (.mk 0 []))
 else .ok (zkO out)
def ArOk' (s:Sh) (m:Nat):Prop:=s.least≤m∧(m:Int)≤s.most
theorem zxH (a b:Ty):sameT a b=sameT b a:=by
 rw [Bool.eq_iff_iff,zqB,zqB]
 exact eq_comm
theorem opT_sh {op:List UInt8} {s:Sh} (hs:lookS op shL=some s) (n:Int) (l:List Ty) (hop:op≠oLit∧op≠oX) (ha:ArOk' s l.length) (hl:∀ t∈l,zI t 0=0) :
  opT op n l=if fitsS s l=false then .er 5 else zds op n s.out l:=by
 rcases zlr op with ⟨h,_⟩ | ⟨rfl,h⟩ | ⟨rfl,h⟩ | ⟨rfl,h⟩ | ⟨rfl,h⟩ | ⟨rfl,h⟩ | ⟨rfl,h⟩ | ⟨rfl,h⟩ | ⟨hop',h⟩ | ⟨hop',h⟩ | ⟨hop',h⟩ | ⟨rfl,h⟩ | ⟨rfl,h⟩ <;> rw [hs] at h
 ·simp at h
 ·exact absurd rfl hop.1
 ·exact absurd rfl hop.2
 ·simp at h; subst h
  simp [ArOk'] at ha
  match l,(by omega:l.length=1) with
  | [t],_ =>
   simp only [opT,fitsS,fitsK,zds,if_true,List.getD_cons_zero]
   by_cases h4:t.kind=4 <;> simp [h4]
 ·simp at h; subst h
  simp [ArOk'] at ha
  have h9:=zCG hl (by omega) (by omega)
  simp only [opT,fitsS,fitsK,zds]
  simp
  rcases h9 with h | h <;> simp [h]
 ·simp at h; subst h
  simp [ArOk'] at ha
  match l,(by omega:l.length=1) with
  | [t],_ =>
   simp only [opT,fitsS,fitsK,zds]
   by_cases h1:t.kind=1 <;> simp [h1]
 ·simp at h; subst h
  simp [ArOk'] at ha
  match l,(by omega:l.length=1) with
  | [t],_ =>
   simp only [opT,fitsS,fitsK,zds]
   by_cases h1:t.kind=2 <;> simp [h1]
 ·simp at h; subst h
  simp [ArOk'] at ha
  match l,(by omega:l.length=1) with
  | [t],_ =>
   simp only [opT,fitsS,fitsK,zds]
   by_cases h1:t.kind=3 <;> simp [h1]
 ·simp at h; subst h
  simp [ArOk',numSh] at ha
  match l,(by omega:l.length=2) with
  | [t,u],_ =>
   rcases hop' with rfl | rfl | rfl | rfl | rfl <;> simp only [opT,fitsS,fitsK,zds,numSh] <;> by_cases h1:t.kind=1 <;> by_cases h2:u.kind=1 <;> simp [h1,h2]
 ·simp at h; subst h
  simp [ArOk',askSh] at ha
  match l,(by omega:l.length=2) with
  | [t,u],_ =>
   have hc:=zxH t u
   rcases hop' with rfl | rfl <;> simp only [opT,fitsS,fitsK,zds,askSh] <;> by_cases h1:sameT t u=true <;> simp [h1,← hc]
 ·simp at h; subst h
  simp [ArOk',zoM] at ha
  match l,(by omega:l.length=2) with
  | [t,u],_ =>
   rcases hop' with rfl | rfl <;> simp only [opT,fitsS,fitsK,zds,zoM] <;> by_cases h1:t.kind=2 <;> by_cases h2:u.kind=2 <;> simp [h1,h2]
 ·simp at h; subst h
  simp [ArOk'] at ha
  match l,(by omega:l.length=2) with
  | [t,u],_ =>
   simp only [opT,fitsS,fitsK,zds] <;> by_cases h1:t.kind=3 <;> by_cases h2:u.kind=3 <;> simp [h1,h2]
 ·simp at h; subst h
  simp [ArOk'] at ha
  match l,(by omega:l.length=3) with
  | [t,u,w],_ =>
   have hc:=zxH u w
   simp only [opT,fitsS,fitsK,zds] <;> by_cases h1:t.kind=2 <;> by_cases h2:sameT u w=true <;> simp [h1,h2,← hc]
end Go.Proofs.YtdmgbhamigegfaaGreatDoor
end

section
/- Arguments that are rows of numbers, truths: which trees they are. -/
set_option linter.unusedVariables false
namespace Go.Proofs.YtdmgbhamigegfaaGreatDoor
open Go Go.Abs
theorem typ_I8s (n:Nat) (cs:List T) (h:Typ Tryz.prog n 22 cs):∃ l:List Int,elemT Tryz.prog 22 cs=.slice (l.map (.int .i8)) ∧ ∀ x∈l,-128≤x∧x≤127:=by
 obtain ⟨m',es,rfl,rfl,he,hl,hes⟩:=zE1 Tryz.underlying22 h
 obtain ⟨vs,g1,g2,g3⟩:=zEb (q:=fun x:Int=>-128≤x∧x≤127) (enc:=T.int .i8) (f:=elemT Tryz.prog 23) es hes (fun x hx=>by
  obtain ⟨v,_,h5,h6⟩:=typ_int Tryz.underlying23 hx
  exact ⟨v,h5,i8_wf h6⟩)
 exact ⟨vs,by rw [he,g1],g3⟩
end Go.Proofs.YtdmgbhamigegfaaGreatDoor
end
