/- What the document's functions of expressions answer, and those that make and measure them, over trees. -/
import Derived.Test.YtdmgbhamigegfaaGreatDoorZSpDec
import Derived.Test.YtdmgbhamigegfaaGreatDoorZSpValBQ
import Derived.Test.YtdmgbhamigegfaaGreatDoorS1
set_option linter.unusedSimpArgs false
set_option linter.unusedVariables false
namespace Go.Proofs.YtdmgbhamigegfaaGreatDoor
open Go Go.Abs
@[simp] theorem intV_eq {n:Int}:intV n = .mk 1 n false [] []:=id rfl
@[simp] theorem boolV_eq {b:Bool}:boolV b = .mk 2 0 b [] []:=id rfl
@[simp] theorem strV_eq {s:List UInt8}:strV s = .mk 3 0 false s []:=id rfl
@[simp] theorem tupV_eq {l:List Va}:tupV l = .mk 4 0 false [] l:=id rfl
@[simp] theorem zeroV_eq:zeroV = .mk 0 0 false [] []:=id rfl
@[simp] theorem plainT_eq {k:Int}:plainT k = .mk k []:=id rfl
def xE:Ex:=.mk oX zeroV 0 []
def litE (v:Va):Ex:=.mk oLit v 0 []
def opE (op:List UInt8) (a:List Ex):Ex:=.mk op zeroV 0 a
@[simp] theorem xE_eq:xE = .mk oX zeroV 0 []:=id rfl
@[simp] theorem litE_eq {v:Va}:litE v = .mk oLit v 0 []:=id rfl
@[simp] theorem opE_eq {op:List UInt8} {a:List Ex}:opE op a = .mk op zeroV 0 a:=id rfl
theorem X_spec:Abs.Fn Tryz.prog runnellaw4_X_i [] [] (.p (encE xE)) []:=by
 apply runnellaw4_X_fn
 simp [runnellaw4_X]
 exact gives_pure (by simp [AV.pur])
theorem Lit_spec (v:Va):Abs.Fn Tryz.prog runnellaw4_Lit_i [] [.p (encV v)] (.p (encE (litE v))) []:=by
 apply runnellaw4_Lit_fn
 simp [runnellaw4_Lit]
 exact gives_pure (by simp [AV.pur])
theorem Op4_spec (op:List UInt8) (a:List Ex):Abs.Fn Tryz.prog runnellaw4_Op_i [] [.p (.str op),.p (.slice (a.map encE))] (.p (encE (opE op a))) []:=by
 apply runnellaw4_Op_fn
 simp [runnellaw4_Op]
 exact gives_pure (by simp [AV.pur])
theorem sizeEs_drop (l:List Ex) (i:Nat) (h:i < l.length):sizeEs (l.drop i) = sizeE l[i] + sizeEs (l.drop (i + 1)):=by
 rw [List.drop_eq_getElem_cons h]
 simp [sizeEs]
def nilV (v:Va):Bool:=decide (cmpV v zeroV = 0)
def tyR (r:R Ty):AV:=.tup [.p (encT (r.get (.mk 0 []))),.p (.int .i64 r.num)]
theorem tyR_gives {r:R Ty} {vs:List AV} {H:List Ob} (h:toTs vs = some [encT (r.get (.mk 0 [])),.int .i64 r.num]):Gives 0 (.tup vs) H (tyR r) []:=gives_pure (pur_tup h)
theorem all_drop {α:Type} (f:α→Bool) (l:List α) (i:Nat) (h:i < l.length):(l.drop i).all f = (f l[i] && (l.drop (i + 1)).all f):=by
 rw [List.drop_eq_getElem_cons h]
 rfl
end Go.Proofs.YtdmgbhamigegfaaGreatDoor
