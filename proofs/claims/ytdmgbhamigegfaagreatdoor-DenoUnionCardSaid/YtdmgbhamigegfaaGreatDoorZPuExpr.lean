/- Expressions as trees: which may be, and what they come to. No program in sight. -/
import Derived.Test.YtdmgbhamigegfaaGreatDoorZPuVal
set_option linter.unusedSimpArgs false
set_option linter.unusedVariables false
namespace Go.Proofs.YtdmgbhamigegfaaGreatDoor
open Go Go.Abs
inductive Ex where
 | mk (op:List UInt8) (v:Va) (n:Int) (a:List Ex)
def zFq (op:List UInt8) (v:Va) (n:Int) (a:T):List T:=.str op::((encV v).cells++[.int .i64 n,a])
mutual
def encE:Ex→T
 | .mk op v n a=>.agg (zFq op v n (.slice (encEs a)))
def encEs:List Ex→List T
 | []=>[]
 | e::r=>encE e::encEs r
end
theorem zFu (l:List Ex):encEs l=l.map encE:=by induction l <;> simp_all [encEs]
@[simp] theorem zDU (op:List UInt8) (k i:Int) (b:Bool) (s:List UInt8) (t:List Va) (n:Int) (a:List Ex) :
  encE (.mk op (.mk k i b s t) n a)=.agg [.str op,.int .i64 k,.int .i64 i,.bool b,.str s,.slice (t.map encV),.int .i64 n,.slice (a.map encE)]:=by simp [encE,zFq,zFu]
theorem zwm (e:Ex):∃ a b c d f g h i,encE e=.agg [a,b,c,d,f,g,h,i]:=by obtain ⟨op,⟨k,i,b,s,t⟩,n,a⟩:=e; exact ⟨_,_,_,_,_,_,_,_,zDU op k i b s t n a⟩
@[simp] theorem zCM (e:Ex):(encE e).cells.length=8:=by obtain ⟨op,⟨k,i,b,s,t⟩,n,a⟩:=e; simp
theorem zEz (l:List Ex):∀ e∈l.map encE,e.cells.length=8:=by
 intro e he
 simp at he
 obtain ⟨t,_,rfl⟩:=he
 exact zCM t
theorem zwn (l:List Ex) (i:Nat):∀ e∈(l.map encE).take i,e.cells.length=8:=fun e he=>zEz l e (List.mem_of_mem_take he)
abbrev oLit:List UInt8:=[108,105,116]
abbrev oX:List UInt8:=[120]
abbrev oAt:List UInt8:=[97,116]
abbrev oTup:List UInt8:=[116,117,112]
abbrev oNeg:List UInt8:=[110,101,103]
abbrev oNot:List UInt8:=[110,111,116]
abbrev oLen:List UInt8:=[108,101,110]
abbrev oAdd:List UInt8:=[97,100,100]
abbrev oSub:List UInt8:=[115,117,98]
abbrev oMul:List UInt8:=[109,117,108]
abbrev oDiv:List UInt8:=[100,105,118]
abbrev oRem:List UInt8:=[114,101,109]
abbrev oEq:List UInt8:=[101,113]
abbrev oLt:List UInt8:=[108,116]
abbrev oAnd:List UInt8:=[97,110,100]
abbrev oOr:List UInt8:=[111,114]
abbrev oCat:List UInt8:=[99,97,116]
abbrev oIf:List UInt8:=[105,102]
inductive R (α:Type) where
 | ok (a:α)
 | er (e:Int)
def R.num {α:Type}:R α→Int
 | .ok _=>0
 | .er e=>e
def R.get {α:Type} (d:α):R α→α
 | .ok a=>a
 | .er _=>d
abbrev w64 (n:Int):Int:=IntKind.wrap .i64 n
def mkE (op:List UInt8) (n:Int):List Va→Option (R Va)
 | l=>if op=oAt then (match l with
   | [.mk _ _ _ _ t]=>if 0≤n then (t[n.toNat]?).map .ok else none
   | _=>none)
  else if op=oTup then some (.ok (tupV l))
  else match l with
   | [.mk _ i b s _]=>if op=oNeg then some (.ok (intV (w64 (0 - i)))) else if op=oNot then some (.ok (boolV (!b))) else if op=oLen then some (.ok (intV s.length)) else none
   | [.mk k i b s t,.mk k' i' b' s' t'] =>
    if op=oAdd then some (.ok (intV (w64 (i + i')))) else if op=oSub then some (.ok (intV (w64 (i - i')))) else if op=oMul then some (.ok (intV (w64 (i * i'))))
    else if op=oDiv then some (if i'=0 then .er 8 else .ok (intV (w64 (i.tdiv i')))) else if op=oRem then some (if i'=0 then .er 8 else .ok (intV (i.tmod i')))
    else if op=oEq then some (.ok (boolV (decide (cmpV (.mk k i b s t) (.mk k' i' b' s' t')=0)))) else if op=oLt then some (.ok (boolV (decide (cmpV (.mk k i b s t) (.mk k' i' b' s' t') < 0))))
    else if op=oCat then some (if 255 < s.length + s'.length then .er 4 else .ok (strV (s++s'))) else none
   | _=>none
def Va.truth:Va→Bool
 | .mk _ _ b _ _=>b
mutual
def evE:Ex→Va→Option (R Va)
 | .mk op v n a,x =>
  if op=oLit then some (.ok v) else if op=oX then some (.ok x)
  else if op=oAnd then ev2 true a x
  else if op=oOr then ev2 false a x
  else if op=oIf then ev3 a x
  else match evL a x with
   | none=>none
   | some (.er f)=>some (.er f)
   | some (.ok l)=>mkE op n l
def ev2 (w:Bool):List Ex→Va→Option (R Va)
 | [a0,a1],x=>match evE a0 x with
  | none=>none
  | some (.er f)=>some (.er f)
  | some (.ok v)=>if v.truth=w then evE a1 x else some (.ok v)
 | _,_=>none
def ev3:List Ex→Va→Option (R Va)
 | [a0,a1,a2],x=>match evE a0 x with
  | none=>none
  | some (.er f)=>some (.er f)
  | some (.ok v)=>if v.truth then evE a1 x else evE a2 x
 | _,_=>none
def evL:List Ex→Va→Option (R (List Va))
 | [],_=>some (.ok [])
 | e::r,x=>match evE e x with
  | none=>none
  | some (.er f)=>some (.er f)
  | some (.ok v)=>match evL r x with
   | none=>none
   | some (.er f)=>some (.er f)
   | some (.ok l)=>some (.ok (v::l))
end
def arE (op:List UInt8):Int :=
 if op=oLit∨op=oX then 0 else if op=oAt∨op=oNeg∨op=oNot∨op=oLen then 1
 else if op=oAdd∨op=oSub∨op=oMul∨op=oDiv∨op=oRem∨op=oEq∨op=oLt∨op=oAnd∨op=oOr∨op=oCat then 2
 else if op=oIf then 3 else if op=oTup then -1 else -2
def Ty.kind:Ty→Int
 | .mk k _=>k
def Ty.of:Ty→List Ty
 | .mk _ l=>l
def zkO (k:Int):Ty:=.mk k []
def opT (op:List UInt8) (n:Int) (l:List Ty):R Ty :=
 if op=oAt then (match l with
  | t::_=>if t.kind≠4 then .er 5 else if n < 0∨(t.of.length:Int)≤n then .er 1 else .ok (t.of.getD n.toNat (.mk 0 []))
  | []=>.er 5)
 else if op=oTup then (if zI (.mk 4 l) 0≠0 then .er 9 else .ok (.mk 4 l))
 else if op=oEq∨op=oLt then (match l with
  | [a,b]=>if sameT a b then .ok (zkO 2) else .er 5
  | _=>.er 5)
 else if op=oIf then (match l with
  | [a,b,c]=>if a.kind=2∧sameT b c=true then .ok b else .er 5
  | _=>.er 5)
 else
  let (all,out):Int×Int:=if op=oNeg∨op=oAdd∨op=oSub∨op=oMul∨op=oDiv∨op=oRem then (1,1) else if op=oNot∨op=oAnd∨op=oOr then (2,2) else if op=oCat then (3,3) else if op=oLen then (3,1) else (0,0)
  if l.all (fun t=>decide (t.kind=all)) then .ok (zkO out) else .er 5
mutual
def sizeE:Ex→Nat
 | .mk _ _ _ a=>1 + zep a
def zep:List Ex→Nat
 | []=>0
 | e::r=>sizeE e + zep r
end
def zqu (op:List UInt8) (v:Va) (n:Int) (m:Nat):Bool :=
 (if arE op = -1 then decide (1≤m∧m≤8) else decide ((m:Int)=arE op)) && (decide (op=oAt) || decide (n=0)) && (decide (op=oLit) || decide (cmpV v zeroV=0))
mutual
def ckE:Ex→Ty→Int→R Ty
 | .mk op v n a,t,d =>
  if arE op = -2 then .er 6 else if 12 < d then .er 9 else if zqu op v n a.length=false then .er 1
  else if op=oLit then (if z2 v 0≠0 then .er (z2 v 0) else .ok (kindV v))
  else if op=oX then .ok t
  else match ckL a t (d + 1) with
   | .er e=>.er e
   | .ok l=>opT op n l
def ckL:List Ex→Ty→Int→R (List Ty)
 | [],_,_=>.ok []
 | e::r,t,d=>match ckE e t d with
  | .er x=>.er x
  | .ok u=>match ckL r t d with
   | .er x=>.er x
   | .ok l=>.ok (u::l)
end
def zaL (e:Ex) (t:Ty):R Ty:=if zI t 0≠0 then .er 5 else if 256 < sizeE e then .er 10 else ckE e t 0
end Go.Proofs.YtdmgbhamigegfaaGreatDoor
