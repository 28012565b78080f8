/- What the document's functions of expressions answer, and those that make and measure them, over trees. -/
import Derived.Test.YtdmgbhamigegfaaGreatDoorZSpDec
import Derived.Test.YtdmgbhamigegfaaGreatDoorZSpValBQ
import Derived.Test.YtdmgbhamigegfaaGreatDoorS1
set_option linter.unusedSimpArgs false
set_option linter.unusedVariables false
namespace Go.Proofs.YtdmgbhamigegfaaGreatDoor
open Go Go.Abs
@[simp] theorem intV_eq {n:Int}:intV n=.mk 1 n false [] []:=id rfl
@[simp] theorem boolV_eq {b:Bool}:boolV b=.mk 2 0 b [] []:=id rfl
@[simp] theorem strV_eq {s:List UInt8}:strV s=.mk 3 0 false s []:=id rfl
@[simp] theorem tupV_eq {l:List Va}:tupV l=.mk 4 0 false [] l:=id rfl
@[simp] theorem zeroV_eq:zeroV=.mk 0 0 false [] []:=id rfl
@[simp] theorem plainT_eq {k:Int}:zkO k=.mk k []:=id rfl
def xE:Ex:=.mk oX zeroV 0 []
def litE (v:Va):Ex:=.mk oLit v 0 []
def opE (op:List UInt8) (a:List Ex):Ex:=.mk op zeroV 0 a
@[simp] theorem xE_eq:xE=.mk oX zeroV 0 []:=id rfl
@[simp] theorem litE_eq {v:Va}:litE v=.mk oLit v 0 []:=id rfl
@[simp] theorem opE_eq {op:List UInt8} {a:List Ex}:opE op a=.mk op zeroV 0 a:=id rfl
theorem ztD:Abs.Fn Tryz.prog zhB [] [] (.p (encE xE)) []:=by
 apply zvx
 simp [znC]
 exact zj (by simp [AV.pur])
theorem zoJ (v:Va):Abs.Fn Tryz.prog ziw [] [.p (encV v)] (.p (encE (litE v))) []:=by
 apply ztp
 simp [zkY]
 exact zj (by simp [AV.pur])
theorem zmf (op:List UInt8) (a:List Ex):Abs.Fn Tryz.prog zgz [] [.p (.str op),.p (.slice (a.map encE))] (.p (encE (opE op a))) []:=by
 apply zun
 simp [zl4]
 exact zj (by simp [AV.pur])
theorem zBC {e:Ex} (h:We 1000000000 e):Abs.Fn Tryz.prog zea [] [.p (encE e)] (.p (encE e)) []:=by
 induction h with
 | mk op v n a hv hl ho ih =>
  apply zul
  simp [zl3]
  (first | refine zn rfl ?_ | refine zl rfl ?_)
  (first | refine zx (zkJ hv) ?_ | refine zq (zkJ hv) ?_ | refine zr (zkJ hv) ?_ | refine zd (zkJ hv) rfl ?_ | refine zd (zkJ hv) (by simp [AV.pur]; rfl) ?_)
  try simp
  refine zA (σ:=Nat) (n:=4) (fun j=>[.p (.int .i64 j)]) (fun j=>[.box [.p (.str op),.p (.int .i64 v.k),.p (.int .i64 v.i),.p (.bool v.b),.p (.str v.s),.p (.slice (v.t.map encV)),.p (.int .i64 n),.p (.slice (a.map encE))],
   .box [.p (.str []),.p (.int .i64 0),.p (.int .i64 0),.p (.bool false),.p (.str []),.full [],.p (.int .i64 0),.full []],
   .box [.p (.str op),.p (.int .i64 v.k),.p (.int .i64 v.i),.p (.bool v.b),.p (.str v.s),.p (.slice (v.t.map encV)),.p (.int .i64 n),.own 3 ((a.map encE).take j)],.row j 8])
   (fun j=>j≤a.length) (fun j=>a.length - j) [.cell 2 7 8] 0 (fun _=>rfl) (by simp [zbo,ghost]) (by simp) (fun j B hj hB=>?_)
  simp [zmI]
  intro _
  refine ⟨fun hlt=>?_,fun hge=>?_⟩
  ·have hi:=ih a[j] (by simp)
   simp [hlt]
   (first | refine zn rfl ?_ | refine zl rfl ?_)
   (first | refine zx (hi) ?_ | refine zq (hi) ?_ | refine zr (hi) ?_ | refine zd (hi) rfl ?_ | refine zd (hi) (by simp [AV.pur]; rfl) ?_)
   try simp
   refine ⟨by omega,⟨zwn a j,by simp,by simp; omega⟩, ?_⟩
   simp (disch:=omega) only [IntWalk.i64_in]
   have:=zag (l:=a.map encE) (i:=j) (by simpa using hlt)
   simp at this
   rw [this]
   exact hB (j + 1) _ (by omega) (by omega) (by simp) (by simp [Ob.below,AV.under1]) (by simp) (by simp [AV.under,AV.under1])
  ·rw [List.take_of_length_le (by simpa using hge)]
   exact zj (by simp [AV.pur])
theorem zu8 (l:List Ex) (i:Nat) (h:i < l.length):zep (l.drop i)=sizeE l[i] + zep (l.drop (i + 1)):=by
 rw [List.drop_eq_getElem_cons h]
 simp [zep]
theorem zdc:∀ (e:Ex) (_:sizeE e≤1000000000),Abs.Fn Tryz.prog zeD [] [.p (encE e)] (.p (.int .i64 (sizeE e))) []
 | .mk op v n a,hs=>by
  apply zsq
  simp [zjH]
  simp only [sizeE] at hs
  refine zA (σ:=Nat×Nat) (n:=1) (fun q=>[.p (.int .i64 q.2),.p (.int .i64 q.1)]) (fun q=>[.box [.p (.str op),.p (.int .i64 v.k),.p (.int .i64 v.i),.p (.bool v.b),.p (.str v.s),.p (.slice (v.t.map encV)),.p (.int .i64 n),.p (.slice (a.map encE))]])
   (fun q=>q.1≤a.length∧q.2 + zep (a.drop q.1)=1 + zep a) (fun q=>a.length - q.1) [] (0,1) (fun _=>rfl) ⟨rfl,rfl⟩ ⟨by simp,by simp⟩ (fun q B hq hB=>?_)
  obtain ⟨j,m⟩:=q
  obtain ⟨g1,g2⟩:=hq
  simp only at g1 g2
  simp [zk5]
  intro _
  refine ⟨fun hlt=>?_,fun hge=>zg ?_⟩
  ·have hm:a[j]∈a:=by simp
   have hd:=zu8 a j hlt
   simp [hlt]
   (first | refine zn rfl ?_ | refine zl rfl ?_)
   (first | refine zx (zdc a[j] (by omega)) ?_ | refine zq (zdc a[j] (by omega)) ?_ | refine zr (zdc a[j] (by omega)) ?_ | refine zd (zdc a[j] (by omega)) rfl ?_ | refine zd (zdc a[j] (by omega)) (by simp [AV.pur]; rfl) ?_)
   try simp
   rw [IntWalk.i64_in _ (by omega),IntWalk.i64_in _ (by simp [maxLen] at *; omega)]
   exact hB (j + 1,m + sizeE a[j]) _ ⟨by simp; omega,by simp; omega⟩ (by simp; omega) (by simp) (by simp [Ob.below,AV.under1]) (by simp) (by simp [AV.under,AV.under1])
  ·rw [List.drop_of_length_le hge] at g2
   simp [zep] at g2
   simp [sizeE,g2]
termination_by e=>SizeOf.sizeOf e
decreasing_by
 have:=List.sizeOf_lt_of_mem hm
 simp
 omega
mutual
def budE:Ex→Int→Int→Int
 | .mk op v _ a,d,l=>if l≤0∨d≤0∨12 < a.length∨20 < op.length∨fewV v=false then 0 else budEs a (d - 1) (l - 1)
def budEs:List Ex→Int→Int→Int
 | [],_,l=>l
 | e::r,d,l=>if l≤0 then l else budEs r d (budE e d l)
end
mutual
theorem zDQ:∀ (e:Ex) (d l:Int),0≤l→0≤budE e d l∧budE e d l≤l
 | .mk op v n a,d,l,h=>by
  simp only [budE]
  split
  ·omega
  ·have:=zAS a (d - 1) (l - 1) (by omega)
   omega
theorem zAS:∀ (r:List Ex) (d l:Int),0≤l→0≤budEs r d l∧budEs r d l≤l
 | [],d,l,h=>by simp [budEs]; omega
 | e::r,d,l,h=>by
  simp only [budEs]
  split
  ·omega
  ·have h1:=zDQ e d l h
   have h2:=zAS r d (budE e d l) h1.1
   omega
end
theorem zEq:∀ (r:List Ex) (d l:Int),0 < budEs r d l→0 < l
 | [],d,l,h=>by simpa [budEs] using h
 | e::r,d,l,h=>by
  simp only [budEs] at h
  split at h
  ·omega
  ·omega
theorem zCA:∀ (r:List Ex) (d l:Int),l≤0→budEs r d l=l
 | [],d,l,h=>by simp [budEs]
 | v::r,d,l,h=>by simp [budEs,h]
mutual
theorem zvT:∀ (e:Ex) (d l:Int),0 < budE e d l→We 300 e∧sizeE e + budE e d l≤l
 | .mk op v n a,d,l,h=>by
  simp only [budE] at h ⊢
  split at h
  ·omega
  ·rename_i hc
   rw [if_neg hc]
   have:=zuI a (d - 1) (l - 1) h
   have hv:fewV v=true:=by
    cases hf:fewV v with
    | true=>rfl
    | false=>exact absurd (.inr (.inr (.inr (.inr hf)))) hc
   exact ⟨.mk op v n a (zCV hv) (by omega) this.1,by simp only [sizeE]; omega⟩
theorem zuI:∀ (r:List Ex) (d l:Int),0 < budEs r d l→(∀ e∈r,We 300 e)∧zep r + budEs r d l≤l
 | [],d,l,h=>by simp [budEs,zep]
 | e::r,d,l,h=>by
  simp only [budEs] at h ⊢
  split at h
  ·omega
  ·rename_i hc
   rw [if_neg hc]
   have h1:=zvT e d l (zEq r d _ h)
   have h2:=zuI r d _ h
   refine ⟨fun x hx=>?_,by simp only [zep]; omega⟩
   simp only [List.mem_cons] at hx
   rcases hx with rfl | hx
   ·exact h1.1
   ·exact h2.1 x hx
end
theorem zeg:∀ (e:Ex) (d l:Int) (_:0≤d) (_:d≤100) (_:0≤l) (_:l≤1000),Abs.Fn Tryz.prog zdp [] [.p (encE e),.p (.int .i64 d),.p (.int .i64 l)] (.p (.int .i64 (budE e d l))) []
 | .mk op v n a,d,l,hd0,hd1,hl0,hl1=>by
  apply zpW
  simp [zhC]
  refine zz (!fewV v) (fun _=>?_) ?_
  ·(first | refine zn rfl ?_ | refine zl rfl ?_)
   (first | refine zx (zmp v) ?_ | refine zq (zmp v) ?_ | refine zr (zmp v) ?_ | refine zd (zmp v) rfl ?_ | refine zd (zmp v) (by simp [AV.pur]; rfl) ?_)
   try simp
  simp
  refine ⟨fun h=>zg (by simp only [budE]; grind),fun h1 h2 h3 h4 h5=>?_⟩
  rw [IntWalk.i64_in _ (by omega)]
  have he:budE (.mk op v n a) d l=budEs a (d - 1) (l - 1):=by
   simp only [budE]
   rw [if_neg (by simp [h5]; omega)]
  rw [he]
  refine zA (σ:=Nat×Int) (n:=1) (fun q=>[.p (.int .i64 q.2),.p (.int .i64 q.1)]) (fun q=>[.box [.p (.str op),.p (.int .i64 v.k),.p (.int .i64 v.i),.p (.bool v.b),.p (.str v.s),.p (.slice (v.t.map encV)),.p (.int .i64 n),.p (.slice (a.map encE))]])
   (fun q=>q.1≤a.length∧0≤q.2∧q.2≤1000∧budEs (a.drop q.1) (d - 1) q.2=budEs a (d - 1) (l - 1)) (fun q=>a.length - q.1) [] (0,l - 1) (fun _=>rfl) ⟨rfl,rfl⟩ ⟨by simp,by simp; omega,by simp; omega,by simp⟩ (fun q B hq hB=>?_)
  obtain ⟨j,m⟩:=q
  obtain ⟨g1,g2,g3,g4⟩:=hq
  simp only at g1 g2 g3 g4
  simp [zi7]
  intro _
  refine ⟨fun hlt hm0=>?_,fun hx=>zg ?_⟩
  ·have hm:a[j]∈a:=by simp
   have hle:=zDQ a[j] (d - 1) m g2
   rw [List.drop_eq_getElem_cons hlt,budEs,if_neg (by omega)] at g4
   simp [hlt]
   rw [IntWalk.i64_in _ (by omega)]
   (first | refine zn rfl ?_ | refine zl rfl ?_)
   (first | refine zx (zeg a[j] (d - 1) m (by omega) (by omega) g2 g3) ?_ | refine zq (zeg a[j] (d - 1) m (by omega) (by omega) g2 g3) ?_ | refine zr (zeg a[j] (d - 1) m (by omega) (by omega) g2 g3) ?_ | refine zd (zeg a[j] (d - 1) m (by omega) (by omega) g2 g3) rfl ?_ | refine zd (zeg a[j] (d - 1) m (by omega) (by omega) g2 g3) (by simp [AV.pur]; rfl) ?_)
   try simp
   rw [IntWalk.i64_in _ (by omega)]
   exact hB (j + 1,budE a[j] (d - 1) m) _ ⟨by simp; omega,by simp; omega,by simp; omega,g4⟩ (by simp; omega) (by simp) (by simp [Ob.below,AV.under1]) (by simp) (by simp [AV.under,AV.under1])
  ·rcases Nat.lt_or_ge j a.length with hlt | hge
   ·have:=hx hlt
    rw [← g4,zCA _ _ _ (by omega)]
   ·rw [← g4,List.drop_of_length_le hge]
    simp [budEs]
termination_by e=>SizeOf.sizeOf e
decreasing_by
 have:=List.sizeOf_lt_of_mem hm
 simp
 omega
def fewE (e:Ex):Bool:=decide (0 < budE e 20 400)
theorem zw0 {e:Ex} (h:fewE e=true):We 300 e∧sizeE e≤400:=by
 have:=zvT e 20 400 (by simpa [fewE] using h)
 simp [fewE] at h
 exact ⟨this.1,by omega⟩
theorem zy0 (e:Ex):Abs.Fn Tryz.prog zfw [] [.p (encE e)] (.p (.bool (fewE e))) []:=by
 apply ztn
 simp [zkW]
 (first | refine zn rfl ?_ | refine zl rfl ?_)
 (first | refine zx (zeg _ 20 400 (by omega) (by omega) (by omega) (by omega)) ?_ | refine zq (zeg _ 20 400 (by omega) (by omega) (by omega) (by omega)) ?_ | refine zr (zeg _ 20 400 (by omega) (by omega) (by omega) (by omega)) ?_ | refine zd (zeg _ 20 400 (by omega) (by omega) (by omega) (by omega)) rfl ?_ | refine zd (zeg _ 20 400 (by omega) (by omega) (by omega) (by omega)) (by simp [AV.pur]; rfl) ?_)
 try simp
 exact zg (by simp [fewE])
def nilV (v:Va):Bool:=decide (cmpV v zeroV=0)
theorem zFU {v:Va}:nilV v=true↔v=zeroV:=by
 unfold nilV
 rw [decide_eq_true_iff,zfp]
theorem zi0 (v:Va):Abs.Fn Tryz.prog zf3 [] [.p (encV v)] (.p (.bool (nilV v))) []:=by
 apply zp8
 simp [zhP]
 refine zg ?_
 obtain ⟨k,i,b,s,t⟩:=v
 simp only [T.bool.injEq]
 rw [Bool.eq_iff_iff,zFU]
 simp [and_assoc]
theorem zcA (k:Int):Abs.Fn Tryz.prog zcJ [] [.p (.int .i64 k)] (.p (encT (zkO k))) []:=by
 apply zq5
 simp [ziE]
 exact zj (by simp [AV.pur,zkO])
theorem zkq (op:List UInt8):Abs.Fn Tryz.prog zgS [] [.p (.str op)] (.p (.int .i64 (arE op))) []:=by
 apply zq3
 simp [ziD]
 refine ⟨fun h=>zg ?_,fun h1 h2=>⟨fun h=>zg ?_,fun h3 h4 h5 h6=>⟨fun h=>zg ?_,fun h7 h8 h9 h10 h11 h12 h13 h14 h15 h16=>⟨fun h=>zg ?_,fun h17=>⟨fun h=>zg ?_,fun h18=>zg ?_⟩⟩⟩⟩⟩
 ·simp [arE,h]
 ·simp only [arE]; rw [if_neg (by simp [h1,h2]),if_pos h]
 ·simp only [arE]; rw [if_neg (by simp [h1,h2]),if_neg (by simp [*]),if_pos h]
 ·subst h; rfl
 ·subst h; rfl
 ·simp only [arE]; rw [if_neg (by simp [h1,h2]),if_neg (by simp [*]),if_neg (by simp [*]),if_neg (by simp [*]),if_neg (by simp [*])]
def tyR (r:R Ty):AV:=.tup [.p (encT (r.get (.mk 0 []))),.p (.int .i64 r.num)]
theorem zC {r:R Ty} {vs:List AV} {H:List Ob} (h:toTs vs=some [encT (r.get (.mk 0 [])),.int .i64 r.num]):Gives 0 (.tup vs) H (tyR r) []:=zj (zD7 h)
def ArOk (op:List UInt8) (m:Nat):Prop:=if arE op = -1 then 1≤m∧m≤8 else (m:Int)=arE op
def opAll (op:List UInt8):Int×Int:=if op=oNeg∨op=oAdd∨op=oSub∨op=oMul∨op=oDiv∨op=oRem then (1,1) else if op=oNot∨op=oAnd∨op=oOr then (2,2) else if op=oCat then (3,3) else if op=oLen then (3,1) else (0,0)
theorem zBE {op:List UInt8} {n:Int} {l:List Ty} (h1:op≠oAt) (h2:op≠oTup) (h3:op≠oEq) (h4:op≠oLt) (h5:op≠oIf):opT op n l=if l.all (fun t=>decide (t.kind=(opAll op).1)) then .ok (zkO (opAll op).2) else .er 5:=by
 simp only [opT,h1,h2,h3,h4,h5,if_false,or_self]
 rfl
theorem zkt {α:Type} (f:α→Bool) (l:List α) (i:Nat) (h:i < l.length):(l.drop i).all f=(f l[i] && (l.drop (i + 1)).all f):=by
 rw [List.drop_eq_getElem_cons h]
 rfl
theorem ziU (l:List Ty) (op:List UInt8) (n:Int) (a b:Int) (h1:op≠oAt) (h2:op≠oTup) (h3:op≠oEq) (h4:op≠oLt) (h5:op≠oIf) (hab:opAll op=(a,b)) :
  zaU (.p (.slice (l.map encT))) (.bptr 0 0) (.p (.int .i64 a)) (.p (.int .i64 b)) [.box [.p (.int .i64 0),.full []]] (fun v H'=>Gives 0 v H' (tyR (opT op n l)) []):=by
 simp [zaU]
 refine zA (σ:=Nat) (n:=1) (fun i=>[.p (.int .i64 i)]) (fun _=>[.box [.p (.int .i64 0),.full []]]) (fun i=>i≤l.length∧(l.drop i).all (fun t=>decide (t.kind=a))=l.all (fun t=>decide (t.kind=a))) (fun i=>l.length - i) [] 0 (fun _=>rfl) ⟨rfl,rfl⟩ (by simp) (fun i B hi hB=>?_)
 obtain ⟨g1,g2⟩:=hi
 simp [zji]
 intro hl
 refine ⟨fun hlt=>?_,fun hge=>?_⟩
 ·have hd:=zkt (fun t=>decide (t.kind=a)) l i hlt
  rw [g2] at hd
  simp [hlt]
  refine ⟨fun hz=>?_,fun hz=>?_⟩
  ·refine zC ?_
   rw [zBE h1 h2 h3 h4 h5,hab,hd]
   simp [hz,R.get,R.num]
  ·rw [IntWalk.i64_in _ (by simp [maxLen] at hl; omega)]
   exact hB (i + 1) _ ⟨by omega,by simp [hd,hz]⟩ (by omega) (by simp) (by simp [Ob.below,AV.under1]) (by simp) (by simp [AV.under,AV.under1])
 ·have:i=l.length:=by omega
  subst this
  simp at g2
  (first | refine zn rfl ?_ | refine zl rfl ?_)
  (first | refine zx (zcA _) ?_ | refine zq (zcA _) ?_ | refine zr (zcA _) ?_ | refine zd (zcA _) rfl ?_ | refine zd (zcA _) (by simp [AV.pur]; rfl) ?_)
  try simp
  refine zC ?_
  rw [zBE h1 h2 h3 h4 h5,hab,if_pos (by simpa using g2)]
  simp [R.get,R.num,zkO]
theorem ziV (op:List UInt8) (n:Int) (l:List Ty) (ha:ArOk op l.length):Abs.Fn Tryz.prog zf1 [] [.p (.str op),.p (.int .i64 n),.p (.slice (l.map encT))] (tyR (opT op n l)) []:=by
 apply zp4
 simp [zhM]
 refine ⟨fun hop=>?_,fun h1=>⟨fun hop=>?_,fun h2=>⟨fun hop=>?_,fun h3 h4=>⟨fun hop=>?_,fun h5=>?_⟩⟩⟩⟩
 ·have hop:op=oAt:=hop
  subst hop
  simp [ArOk,arE] at ha
  obtain ⟨t,rfl⟩:∃ t,l=[t]:=by
   match l,ha with
   | [t],_=>exact ⟨t,rfl⟩
  simp
  refine ⟨fun h=>zC (by simp [opT,h,R.get,R.num]),fun h=>⟨fun hn=>zC ?_,fun hn hl=>?_⟩⟩
  ·simp only [opT,if_true,h,ne_eq,not_true,if_false]
   rw [if_pos hn]
   simp [R.get,R.num]
  ·have hlt:n.toNat < t.of.length:=by omega
   simp [hlt]
   refine ⟨by omega,zC ?_⟩
   simp only [opT,if_true,h,ne_eq,not_true,if_false]
   rw [if_neg (by omega)]
   simp [R.get,R.num,hlt]
 ·have hop:op=oTup:=hop
  subst hop
  (first | refine zn rfl ?_ | refine zl rfl ?_)
  (first | refine zx (zaq _) ?_ | refine zq (zaq _) ?_ | refine zr (zaq _) ?_ | refine zd (zaq _) rfl ?_ | refine zd (zaq _) (by simp [AV.pur]; rfl) ?_)
  try simp
  refine ⟨fun h=>zC ?_,fun h=>zC ?_⟩
  ·simp [opT,h,R.get,R.num]
  ·simp [opT,h,R.get,R.num]
 ·have hop':op=oEq∨op=oLt:=hop
  have h2l:l.length=2:=by rcases hop' with rfl | rfl <;> simp [ArOk,arE] at ha <;> omega
  match l,h2l with
  | [a,b],_ =>
   simp
   (first | refine zn rfl ?_ | refine zl rfl ?_)
   (first | refine zx (zaZ _ _) ?_ | refine zq (zaZ _ _) ?_ | refine zr (zaZ _ _) ?_ | refine zd (zaZ _ _) rfl ?_ | refine zd (zaZ _ _) (by simp [AV.pur]; rfl) ?_)
   try simp
   refine ⟨fun h=>zC ?_,fun h=>?_⟩
   ·rcases hop' with rfl | rfl <;> simp [opT,h,R.get,R.num]
   ·(first | refine zn rfl ?_ | refine zl rfl ?_)
    (first | refine zx (zcA _) ?_ | refine zq (zcA _) ?_ | refine zr (zcA _) ?_ | refine zd (zcA _) rfl ?_ | refine zd (zcA _) (by simp [AV.pur]; rfl) ?_)
    try simp
    refine zC ?_
    rcases hop' with rfl | rfl <;> simp [opT,h,R.get,R.num,zkO]
 ·have hop:op=oIf:=hop
  subst hop
  simp [ArOk,arE] at ha
  match l,(by omega:l.length=3) with
  | [a,b,c],_ =>
   simp
   refine ⟨fun h=>zC (by simp [opT,h,R.get,R.num]),fun h=>?_⟩
   (first | refine zn rfl ?_ | refine zl rfl ?_)
   (first | refine zx (zaZ _ _) ?_ | refine zq (zaZ _ _) ?_ | refine zr (zaZ _ _) ?_ | refine zd (zaZ _ _) rfl ?_ | refine zd (zaZ _ _) (by simp [AV.pur]; rfl) ?_)
   try simp
   refine ⟨fun h2=>zC ?_,fun h2=>zC ?_⟩
   ·simp [opT,h,h2,R.get,R.num]
   ·simp [opT,h,h2,R.get,R.num]
 ·have g1:op≠oAt:=h1
  have g2:op≠oTup:=h2
  have g3:op≠oEq:=h3
  have g4:op≠oLt:=h4
  have g5:op≠oIf:=h5
  refine ⟨fun h=>ziU l op n 1 1 g1 g2 g3 g4 g5 (by simp only [opAll]; rw [if_pos h]),fun k1 k2 k3 k4 k5 k6=>⟨fun h=>ziU l op n 2 2 g1 g2 g3 g4 g5 ?_,fun k7 k8 k9=>⟨fun h=>ziU l op n 3 3 g1 g2 g3 g4 g5 ?_,fun k10=>⟨fun h=>ziU l op n 3 1 g1 g2 g3 g4 g5 ?_,fun k11=>ziU l op n 0 0 g1 g2 g3 g4 g5 ?_⟩⟩⟩⟩
  ·simp only [opAll]; rw [if_neg (by simp [*]),if_pos h]
  ·simp only [opAll]; rw [if_neg (by simp [*]),if_neg (by simp [*]),if_pos h]
  ·simp only [opAll]; rw [if_neg (by simp [*]),if_neg (by simp [*]),if_neg (by simp [*]),if_pos h]
  ·simp only [opAll]; rw [if_neg (by simp [*]),if_neg (by simp [*]),if_neg (by simp [*]),if_neg (by simp [*])]
end Go.Proofs.YtdmgbhamigegfaaGreatDoor
