/- Arguments that are values, types, expressions: which trees they are. -/
import Derived.Test.YtdmgbhamigegfaaGreatDoorA3
import Derived.Test.YtdmgbhamigegfaaGreatDoorZSpDec

section
/- Arguments that are values, types, expressions: which trees they are. -/
set_option linter.unusedVariables false
namespace Go.Proofs.YtdmgbhamigegfaaGreatDoor
open Go Go.Abs
theorem zrO {m:Int} (h:(Lit.int .i64 m).wf=true):-9223372036854775808≤m∧m≤9223372036854775807:=by
 simpa [Lit.wf,IntKind.min,IntKind.max,IntKind.signed,IntKind.bits] using h
theorem u16_wf {m:Int} (h:(Lit.int .u16 m).wf=true):0≤m∧m≤65535:=by
 simpa [Lit.wf,IntKind.min,IntKind.max,IntKind.signed,IntKind.bits] using h
def I64 (n:Int):Prop:=-9223372036854775808≤n∧n≤9223372036854775807
inductive RgV:Va→Prop where
 | mk (k i:Int) (b:Bool) (s:List UInt8) (t:List Va) (hk:I64 k) (hi:I64 i) (hs:s.length≤maxLen) (ht:t.length≤maxLen) (ho:∀ v∈t,RgV v):RgV (.mk k i b s t)
inductive RgT:Ty→Prop where
 | mk (k:Int) (l:List Ty) (hk:I64 k) (hl:l.length≤maxLen) (ho:∀ t∈l,RgT t):RgT (.mk k l)
inductive RgE:Ex→Prop where
 | mk (op:List UInt8) (v:Va) (n:Int) (a:List Ex) (hop:op.length≤maxLen) (hv:RgV v) (hn:I64 n) (ha:a.length≤maxLen) (ho:∀ e∈a,RgE e):RgE (.mk op v n a)
theorem zjV {α:Type} {p:List T→Prop} {enc:α→T} {f:List T→T} {q:α→Prop}:∀ es:List (List T),(∀ x∈es,p x)→(∀ x,p x→∃ a,f x=enc a∧q a)→∃ l:List α,es.map f=l.map enc∧l.length=es.length ∧ ∀ a∈l,q a
 | [],_,_=>⟨[],rfl,rfl,by simp⟩
 | x::r,h,g=>by
  obtain ⟨a,h1,h2⟩:=g x (h x (by simp))
  obtain ⟨l,h3,h4,h5⟩:=zjV r (fun y hy=>h y (by simp [hy])) g
  exact ⟨a::l,by simp [h1,h3],by simp [h4],by simp; exact ⟨h2,h5⟩⟩
theorem typ_V:∀ (n:Nat) (cs:List T),Typ Tryz.prog n 27 cs→∃ v,cs=(encV v).cells∧elemT Tryz.prog 27 cs=encV v∧RgV v:=by
 intro n
 induction n using Nat.strongRecOn with
 | ind n ih =>
  intro cs h
  obtain ⟨m,rfl,he,hs⟩:=zh1 Tryz.underlying27 h
  obtain ⟨_,_,rfl,h0,_,_,rfl,h1,_,_,rfl,h2,_,_,rfl,h3,_,_,rfl,h4,rfl⟩:=hs
  obtain ⟨k,rfl,_,wk⟩:=zhe Tryz.underlying3 h0
  obtain ⟨i,rfl,_,wi⟩:=zhe Tryz.underlying2 h1
  obtain ⟨b,rfl,_⟩:=zAO Tryz.underlying4 h2
  obtain ⟨s,rfl,_,ws⟩:=zqn Tryz.underlying9 h3
  obtain ⟨m',es,rfl,rfl,_,hl,hes⟩:=zgZ Tryz.underlying25 h4
  obtain ⟨vs,g1,g2,g3⟩:=zjV (q:=RgV) (enc:=encV) (f:=elemT Tryz.prog 27) es hes (fun x hx=>by
   obtain ⟨v,_,h5,h6⟩:=ih m' (by omega) x hx
   exact ⟨v,h5,h6⟩)
  refine ⟨.mk k i b s vs, ?_, ?_,.mk _ _ _ _ _ (zrO wk) (zrO wi) ws (by omega) g3⟩
  ·simp [g1]
  ·rw [he]
   simp [g1]
end Go.Proofs.YtdmgbhamigegfaaGreatDoor
end

section
/- Types that may be, deep and less deep; the ops' table. No program in sight. -/
set_option linter.unusedSimpArgs false
set_option linter.unusedVariables false
namespace Go.Proofs.YtdmgbhamigegfaaGreatDoor
open Go Go.Abs
theorem zBA (of:List Ty) (d:Int):zD (.mk 4 of) d=if rowE of.length d≠0 then rowE of.length d else zcp of (d + 1):=by
 simp only [zD]
 rw [if_neg (by omega),if_pos trivial]
mutual
theorem zuP:∀ (t:Ty) (d d':Int),zD t d=0→d'≤d→zD t d'=0
 | .mk k of,d,d',h,hd=>by
  simp only [zD] at h ⊢
  have h1:=fun h=>zEh (n:=of.length) (d:=d) (d':=d') h hd
  have h2:=fun h=>zsv of (d + 1) (d' + 1) h (by omega)
  grind
theorem zsv:∀ (l:List Ty) (d d':Int),zcp l d=0→d'≤d→zcp l d'=0
 | [],d,d',h,hd=>by simp [zcp]
 | t::r,d,d',h,hd=>by
  simp only [zcp] at h ⊢
  have h1:=fun h=>zuP t d d' h hd
  have h2:=fun h=>zsv r d d' h hd
  grind
end
mutual
theorem zxN:∀ (t:Ty) (d d':Int),zD t d=0→d≤d'→zD t d'=0∨zD t d'=9
 | .mk k of,d,d',h,hd=>by
  simp only [zD] at h ⊢
  have h1:rowE of.length d=0→rowE of.length d'=0∨rowE of.length d'=9:=by unfold rowE; grind
  have h2:=fun h=>zkx of (d + 1) (d' + 1) h (by omega)
  grind
theorem zkx:∀ (l:List Ty) (d d':Int),zcp l d=0→d≤d'→zcp l d'=0∨zcp l d'=9
 | [],d,d',h,hd=>by simp [zcp]
 | t::r,d,d',h,hd=>by
  simp only [zcp] at h ⊢
  have h1:=fun h=>zxN t d d' h hd
  have h2:=fun h=>zkx r d d' h hd
  grind
end
theorem zAN {l:List Ty} {d:Int} (h:∀ t∈l,zD t d=0):zcp l d=0:=by
 rw [zkL,zuU]
 exact h
theorem zBQ {l:List Ty} {d:Int} (h:zcp l d=0):∀ t∈l,zD t d=0:=by
 rw [zkL,zuU] at h
 exact h
theorem zC8 {l:List Ty} (h:∀ t∈l,zD t 0=0) (h1:1≤l.length) (h8:l.length≤8):zD (.mk 4 l) 0=0∨zD (.mk 4 l) 0=9:=by
 rw [zBA]
 have hr:rowE l.length 0=0:=by unfold rowE; grind
 rw [hr]
 exact zkx l 0 (0 + 1) (zAN h) (by omega)
theorem zBn {k:Int} {of:List Ty} {d:Int} (h:zD (.mk k of) d=0):∀ t∈of,zD t d=0:=by
 intro t ht
 simp only [zD] at h
 split at h
 ·split at h
  ·rename_i h0; subst h0; simp at ht
  ·simp at h
 split at h
 ·split at h
  ·rename_i hx; exact absurd h hx
  ·exact zuP t (d + 1) d (zBQ h t ht) (by omega)
 ·simp at h
theorem zEa {op:List UInt8} {n:Int} {l:List Ty} {u:Ty} (h:opT op n l=.ok u) (hl:∀ t∈l,zD t 0=0) (ho:op≠oLit∧op≠oX∧arE op ≠ -2):zD u 0=0:=by
 unfold opT at h
 have hp:∀ k:Int,(k=1∨k=2∨k=3)→zD (zkl k) 0=0:=fun k hk=>by
  simp only [zkl,zD]
  rw [if_pos hk]
  simp
 split at h
 ·split at h
  ·rename_i t r
   simp at h
   obtain ⟨h4,h1,rfl⟩:=h
   have hlt:n.toNat < t.of.length:=by omega
   obtain ⟨k,of⟩:=t
   simp at hlt ⊢
   rw [List.getElem?_eq_getElem hlt]
   exact zBn (hl (.mk k of) (by simp)) _ (by simp)
  ·simp at h
 split at h
 ·simp at h
  exact h.2 ▸ h.1
 split at h
 ·split at h
  ·simp at h
   exact h.2 ▸ hp 2 (by omega)
  ·simp at h
 split at h
 ·split at h
  ·simp at h
   exact h.2 ▸ hl _ (by simp)
  ·simp at h
 ·simp at h
  obtain ⟨_,rfl⟩:=h
  have hop:=ho
  unfold arE at hop
  split <;> rename_i h1
  ·exact hp 1 (by omega)
  split <;> rename_i h2
  ·exact hp 2 (by omega)
  split <;> rename_i h3
  ·exact hp 3 (by omega)
  split <;> rename_i h4
  ·exact hp 1 (by omega)
  ·exfalso
   grind
mutual
theorem zyX:∀ (e:Ex) (t:Ty) (d:Int) (u:Ty),ckE e t d=.ok u→zD t 0=0→zD u 0=0
 | .mk op v n a,t,d,u,h,ht=>by
  simp only [ckE] at h
  split at h
  ·simp at h
  rename_i har
  split at h
  ·simp at h
  split at h
  ·simp at h
  split at h
  ·split at h
   ·simp at h
   ·rename_i hc
    simp at h hc
    exact h ▸ zur v 0 hc
  rename_i hlit
  split at h
  ·simp at h
   exact h ▸ ht
  rename_i hX
  split at h
  ·simp at h
  ·rename_i l hl
   exact zEa h (zp7 a t (d + 1) l hl ht) ⟨hlit,hX,har⟩
theorem zp7:∀ (a:List Ex) (t:Ty) (d:Int) (l:List Ty),ckL a t d=.ok l→zD t 0=0→∀ u∈l,zD u 0=0
 | [],t,d,l,h,ht=>by simp [ckL] at h; subst h; simp
 | e::r,t,d,l,h,ht=>by
  simp only [ckL] at h
  split at h
  ·simp at h
  ·rename_i u hu
   split at h
   ·simp at h
   ·rename_i l' hl'
    simp at h
    subst h
    intro x hx
    simp only [List.mem_cons] at hx
    rcases hx with rfl | hx
    ·exact zyX e t d x hu ht
    ·exact zp7 r t d l' hl' ht x hx
end
structure Sh where
 least:Int
 most:Int
 of:List Int
 alike:Bool
 out:Int
def numSh:Sh:=⟨2,2,[1,1],false,1⟩
def askSh:Sh:=⟨2,2,[0,0],true,2⟩
def zpR:Sh:=⟨2,2,[2,2],false,2⟩
def noSh:Sh:=⟨0,0,[],false,0⟩
def shL:List (List UInt8×Sh):=[(oLit,noSh),(oX,noSh),(oAt,⟨1,1,[4],false,0⟩),(oTup,⟨1,8,[],false,4⟩),(oNeg,⟨1,1,[1],false,1⟩),(oNot,⟨1,1,[2],false,2⟩),(oLen,⟨1,1,[3],false,1⟩),
 (oAdd,numSh),(oSub,numSh),(oMul,numSh),(oDiv,numSh),(oRem,numSh),(oEq,askSh),(oLt,askSh),(oAnd,zpR),(oOr,zpR),(oCat,⟨2,2,[3,3],false,3⟩),(oIf,⟨3,3,[2,0,0],true,0⟩)]
def lookS (name:List UInt8):List (List UInt8×Sh)→Option Sh
 | []=>none
 | p::r=>if p.1=name then some p.2 else lookS name r
theorem zCs (name:List UInt8) (l:List (List UInt8×Sh)) (i:Nat) (h:i < l.length):lookS name (l.drop i)=if l[i].1=name then some l[i].2 else lookS name (l.drop (i + 1)):=by
 rw [List.drop_eq_getElem_cons h]
 simp [lookS]
theorem zlt (op:List UInt8):(lookS op shL=none∧arE op = -2)∨(op=oLit∧lookS op shL=some noSh)∨(op=oX∧lookS op shL=some noSh)∨(op=oAt∧lookS op shL=some ⟨1,1,[4],false,0⟩)∨(op=oTup∧lookS op shL=some ⟨1,8,[],false,4⟩) ∨
  (op=oNeg∧lookS op shL=some ⟨1,1,[1],false,1⟩)∨(op=oNot∧lookS op shL=some ⟨1,1,[2],false,2⟩)∨(op=oLen∧lookS op shL=some ⟨1,1,[3],false,1⟩) ∨
  ((op=oAdd∨op=oSub∨op=oMul∨op=oDiv∨op=oRem)∧lookS op shL=some numSh)∨((op=oEq∨op=oLt)∧lookS op shL=some askSh)∨((op=oAnd∨op=oOr)∧lookS op shL=some zpR) ∨
  (op=oCat∧lookS op shL=some ⟨2,2,[3,3],false,3⟩)∨(op=oIf∧lookS op shL=some ⟨3,3,[2,0,0],true,0⟩):=by
 by_cases h0:op=oLit
 ·subst h0; simp [shL,lookS]
 by_cases h1:op=oX
 ·subst h1; simp [shL,lookS]
 by_cases h2:op=oAt
 ·subst h2; simp [shL,lookS]
 by_cases h3:op=oTup
 ·subst h3; simp [shL,lookS]
 by_cases h4:op=oNeg
 ·subst h4; simp [shL,lookS]
 by_cases h5:op=oNot
 ·subst h5; simp [shL,lookS]
 by_cases h6:op=oLen
 ·subst h6; simp [shL,lookS]
 by_cases h7:op=oAdd
 ·subst h7; simp [shL,lookS]
 by_cases h8:op=oSub
 ·subst h8; simp [shL,lookS]
 by_cases h9:op=oMul
 ·subst h9; simp [shL,lookS]
 by_cases h10:op=oDiv
 ·subst h10; simp [shL,lookS]
 by_cases h11:op=oRem
 ·subst h11; simp [shL,lookS]
 by_cases h12:op=oEq
 ·subst h12; simp [shL,lookS]
 by_cases h13:op=oLt
 ·subst h13; simp [shL,lookS]
 by_cases h14:op=oAnd
 ·subst h14; simp [shL,lookS]
 by_cases h15:op=oOr
 ·subst h15; simp [shL,lookS]
 by_cases h16:op=oCat
 ·subst h16; simp [shL,lookS]
 by_cases h17:op=oIf
 ·subst h17; simp [shL,lookS]
 left
 have hs:∀ c:List UInt8,op≠c→¬ c=op:=fun c h e=>h e.symm
 simp only [shL,lookS]
 refine ⟨?_, ?_⟩
 ·simp only [hs _ h0,hs _ h1,hs _ h2,hs _ h3,hs _ h4,hs _ h5,hs _ h6,hs _ h7,hs _ h8,hs _ h9,hs _ h10,hs _ h11,hs _ h12,hs _ h13,hs _ h14,hs _ h15,hs _ h16,hs _ h17,if_false]
 ·unfold arE
  simp only [h0,h1,h2,h3,h4,h5,h6,h7,h8,h9,h10,h11,h12,h13,h14,h15,h16,h17,or_self,if_false]
def fitsK:List Int→List Ty→Bool
 | [],_=>true
 | _::_,[]=>false
 | k::r,t::q=>(decide (k=0) || decide (t.kind=k)) && fitsK r q
theorem zCO (l:List Int) (q:List Ty) (i:Nat) (h:i < l.length) (h':i < q.length):fitsK (l.drop i) (q.drop i)=((decide (l[i]=0) || decide (q[i].kind=l[i])) && fitsK (l.drop (i + 1)) (q.drop (i + 1))):=by
 rw [List.drop_eq_getElem_cons h,List.drop_eq_getElem_cons h']
 simp [fitsK]
def fitsS (s:Sh) (l:List Ty):Bool:=fitsK s.of l && (!s.alike || sameT (l.getD (l.length - 1) (.mk 0 [])) (l.getD (l.length - 2) (.mk 0 [])))
def zds (op:List UInt8) (n:Int) (out:Int) (l:List Ty):R Ty :=
 if op=oAt then (if n < 0∨((l.getD 0 (.mk 0 [])).of.length:Int)≤n then .er 1 else .ok ((l.getD 0 (.mk 0 [])).of.getD n.toNat (.mk 0 [])))
 else if op=oTup then (if zD (.mk 4 l) 0≠0 then .er (zD (.mk 4 l) 0) else .ok (.mk 4 l))
 else if op=oIf then .ok (l.getD 1 (.mk 0 []))
 else .ok (zkl out)
def ArOk' (s:Sh) (m:Nat):Prop:=s.least≤m∧(m:Int)≤s.most
theorem zvZ (a b:Ty):sameT a b=sameT b a:=by
 rw [Bool.eq_iff_iff,zqj,zqj]
 exact eq_comm
theorem opT_sh {op:List UInt8} {s:Sh} (hs:lookS op shL=some s) (n:Int) (l:List Ty) (hop:op≠oLit∧op≠oX) (ha:ArOk' s l.length) (hl:∀ t∈l,zD t 0=0) :
  opT op n l=if fitsS s l=false then .er 5 else zds op n s.out l:=by
 rcases zlt op with ⟨h,_⟩ | ⟨rfl,h⟩ | ⟨rfl,h⟩ | ⟨rfl,h⟩ | ⟨rfl,h⟩ | ⟨rfl,h⟩ | ⟨rfl,h⟩ | ⟨rfl,h⟩ | ⟨hop',h⟩ | ⟨hop',h⟩ | ⟨hop',h⟩ | ⟨rfl,h⟩ | ⟨rfl,h⟩ <;> rw [hs] at h
 ·simp at h
 ·exact absurd rfl hop.1
 ·exact absurd rfl hop.2
 ·simp at h; subst h
  simp [ArOk'] at ha
  match l,(by omega:l.length=1) with
  | [t],_ =>
   simp only [opT,fitsS,fitsK,zds,if_true,List.getD_cons_zero]
   by_cases h4:t.kind=4 <;> simp [h4]
 ·simp at h; subst h
  simp [ArOk'] at ha
  have h9:=zC8 hl (by omega) (by omega)
  simp only [opT,fitsS,fitsK,zds]
  simp
  rcases h9 with h | h <;> simp [h]
 ·simp at h; subst h
  simp [ArOk'] at ha
  match l,(by omega:l.length=1) with
  | [t],_ =>
   simp only [opT,fitsS,fitsK,zds]
   by_cases h1:t.kind=1 <;> simp [h1]
 ·simp at h; subst h
  simp [ArOk'] at ha
  match l,(by omega:l.length=1) with
  | [t],_ =>
   simp only [opT,fitsS,fitsK,zds]
   by_cases h1:t.kind=2 <;> simp [h1]
 ·simp at h; subst h
  simp [ArOk'] at ha
  match l,(by omega:l.length=1) with
  | [t],_ =>
   simp only [opT,fitsS,fitsK,zds]
   by_cases h1:t.kind=3 <;> simp [h1]
 ·simp at h; subst h
  simp [ArOk',numSh] at ha
  match l,(by omega:l.length=2) with
  | [t,u],_ =>
   rcases hop' with rfl | rfl | rfl | rfl | rfl <;> simp only [opT,fitsS,fitsK,zds,numSh] <;> by_cases h1:t.kind=1 <;> by_cases h2:u.kind=1 <;> simp [h1,h2]
 ·simp at h; subst h
  simp [ArOk',askSh] at ha
  match l,(by omega:l.length=2) with
  | [t,u],_ =>
   have hc:=zvZ t u
   rcases hop' with rfl | rfl <;> simp only [opT,fitsS,fitsK,zds,askSh] <;> by_cases h1:sameT t u=true <;> simp [h1,← hc]
 ·simp at h; subst h
  simp [ArOk',zpR] at ha
  match l,(by omega:l.length=2) with
  | [t,u],_ =>
   rcases hop' with rfl | rfl <;> simp only [opT,fitsS,fitsK,zds,zpR] <;> by_cases h1:t.kind=2 <;> by_cases h2:u.kind=2 <;> simp [h1,h2]
 ·simp at h; subst h
  simp [ArOk'] at ha
  match l,(by omega:l.length=2) with
  | [t,u],_ =>
   simp only [opT,fitsS,fitsK,zds] <;> by_cases h1:t.kind=3 <;> by_cases h2:u.kind=3 <;> simp [h1,h2]
 ·simp at h; subst h
  simp [ArOk'] at ha
  match l,(by omega:l.length=3) with
  | [t,u,w],_ =>
   have hc:=zvZ u w
   simp only [opT,fitsS,fitsK,zds] <;> by_cases h1:t.kind=2 <;> by_cases h2:sameT u w=true <;> simp [h1,h2,← hc]
end Go.Proofs.YtdmgbhamigegfaaGreatDoor
end

section
/- Arguments that are expressions: which trees they are. -/
set_option linter.unusedVariables false
namespace Go.Proofs.YtdmgbhamigegfaaGreatDoor
open Go Go.Abs
theorem typ_E:∀ (n:Nat) (cs:List T),Typ Tryz.prog n 30 cs→∃ e,cs=(encE e).cells∧elemT Tryz.prog 30 cs=encE e∧RgE e:=by
 intro n
 induction n using Nat.strongRecOn with
 | ind n ih =>
  intro cs h
  obtain ⟨m,rfl,he,hs⟩:=zh1 Tryz.underlying30 h
  obtain ⟨_,_,rfl,h0,_,_,rfl,h1,_,_,rfl,h2,_,_,rfl,h3,rfl⟩:=hs
  obtain ⟨op,rfl,_,wo⟩:=zqn Tryz.underlying9 h0
  obtain ⟨v,rfl,_,wv⟩:=typ_V _ _ h1
  obtain ⟨k,rfl,_,wk⟩:=zhe Tryz.underlying3 h2
  obtain ⟨m',es,rfl,rfl,_,hl,hes⟩:=zgZ Tryz.underlying28 h3
  obtain ⟨vs,g1,g2,g3⟩:=zjV (q:=RgE) (enc:=encE) (f:=elemT Tryz.prog 30) es hes (fun x hx=>by
   obtain ⟨v,_,h5,h6⟩:=ih m' (by omega) x hx
   exact ⟨v,h5,h6⟩)
  refine ⟨.mk op v k vs, ?_, ?_,.mk _ _ _ _ wo wv (zrO wk) (by omega) g3⟩
  ·simp [g1]
  ·rw [he]
   simp [g1]
end Go.Proofs.YtdmgbhamigegfaaGreatDoor
end

section
/- Arguments that are types: which trees they are. -/
set_option linter.unusedVariables false
namespace Go.Proofs.YtdmgbhamigegfaaGreatDoor
open Go Go.Abs
theorem typ_T:∀ (n:Nat) (cs:List T),Typ Tryz.prog n 45 cs→∃ t,cs=(encT t).cells∧elemT Tryz.prog 45 cs=encT t∧RgT t:=by
 intro n
 induction n using Nat.strongRecOn with
 | ind n ih =>
  intro cs h
  obtain ⟨m,rfl,he,hs⟩:=zh1 Tryz.underlying45 h
  obtain ⟨_,_,rfl,h0,_,_,rfl,h1,rfl⟩:=hs
  obtain ⟨k,rfl,_,wk⟩:=zhe Tryz.underlying3 h0
  obtain ⟨m',es,rfl,rfl,_,hl,hes⟩:=zgZ Tryz.underlying43 h1
  obtain ⟨vs,g1,g2,g3⟩:=zjV (q:=RgT) (enc:=encT) (f:=elemT Tryz.prog 45) es hes (fun x hx=>by
   obtain ⟨v,_,h5,h6⟩:=ih m' (by omega) x hx
   exact ⟨v,h5,h6⟩)
  refine ⟨.mk k vs, ?_, ?_,.mk _ _ (zrO wk) (by omega) g3⟩
  ·simp [g1]
  ·rw [he]
   simp [g1]
end Go.Proofs.YtdmgbhamigegfaaGreatDoor
end
