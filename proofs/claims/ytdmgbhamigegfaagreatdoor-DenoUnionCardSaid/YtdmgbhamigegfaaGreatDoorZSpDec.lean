/- Values and expressions by their parts; what trees stand for, found by instances; calls whose arguments are folded. No program in sight. -/
import Derived.Test.YtdmgbhamigegfaaGreatDoorZPuEvalB
set_option linter.unusedSimpArgs false
set_option linter.unusedVariables false
namespace Go.Proofs.YtdmgbhamigegfaaGreatDoor
open Go Go.Abs
def Va.k:Va→Int | .mk k _ _ _ _=>k
def Va.i:Va→Int | .mk _ i _ _ _=>i
def Va.b:Va→Bool | .mk _ _ b _ _=>b
def Va.s:Va→List UInt8 | .mk _ _ _ s _=>s
def Va.t:Va→List Va | .mk _ _ _ _ t=>t
def Ex.op:Ex→List UInt8 | .mk op _ _ _=>op
def Ex.v:Ex→Va | .mk _ v _ _=>v
def Ex.n:Ex→Int | .mk _ _ n _=>n
def Ex.a:Ex→List Ex | .mk _ _ _ a=>a
@[simp] theorem Va.k_mk {k i:Int} {b:Bool} {s:List UInt8} {t:List Va}:(Va.mk k i b s t).k=k:=id rfl
@[simp] theorem Va.i_mk {k i:Int} {b:Bool} {s:List UInt8} {t:List Va}:(Va.mk k i b s t).i=i:=id rfl
@[simp] theorem Va.b_mk {k i:Int} {b:Bool} {s:List UInt8} {t:List Va}:(Va.mk k i b s t).b=b:=id rfl
@[simp] theorem Va.s_mk {k i:Int} {b:Bool} {s:List UInt8} {t:List Va}:(Va.mk k i b s t).s=s:=id rfl
@[simp] theorem Va.t_mk {k i:Int} {b:Bool} {s:List UInt8} {t:List Va}:(Va.mk k i b s t).t=t:=id rfl
@[simp] theorem Ex.op_mk {op:List UInt8} {v:Va} {n:Int} {a:List Ex}:(Ex.mk op v n a).op=op:=id rfl
@[simp] theorem Ex.v_mk {op:List UInt8} {v:Va} {n:Int} {a:List Ex}:(Ex.mk op v n a).v=v:=id rfl
@[simp] theorem Ex.n_mk {op:List UInt8} {v:Va} {n:Int} {a:List Ex}:(Ex.mk op v n a).n=n:=id rfl
@[simp] theorem Ex.a_mk {op:List UInt8} {v:Va} {n:Int} {a:List Ex}:(Ex.mk op v n a).a=a:=id rfl
@[simp] theorem Ty.kind_mk {k:Int} {l:List Ty}:(Ty.mk k l).kind=k:=id rfl
@[simp] theorem Ty.of_mk {k:Int} {l:List Ty}:(Ty.mk k l).of=l:=id rfl
@[simp] theorem Va.eta {v:Va}:Va.mk v.k v.i v.b v.s v.t=v:=by cases v; exact id rfl
@[simp] theorem Ex.eta {e:Ex}:Ex.mk e.op e.v e.n e.a=e:=by cases e; rfl
@[simp] theorem Ty.eta {t:Ty}:Ty.mk t.kind t.of=t:=by cases t; rfl
@[simp] theorem zd7 {v:Va}:encV v=.agg [.int .i64 v.k,.int .i64 v.i,.bool v.b,.str v.s,.slice (v.t.map encV)]:=by cases v; simp
@[simp] theorem zc2 {t:Ty}:encT t=.agg [.int .i64 t.kind,.slice (t.of.map encT)]:=by cases t; simp
@[simp] theorem zhn {e:Ex}:encE e=.agg [.str e.op,.int .i64 e.v.k,.int .i64 e.v.i,.bool e.v.b,.str e.v.s,.slice (e.v.t.map encV),.int .i64 e.n,.slice (e.a.map encE)]:=by
 obtain ⟨op,⟨k,i,b,s,t⟩,n,a⟩:=e; simp
@[simp] theorem Wv_mk {n:Nat} {k i:Int} {b:Bool} {s:List UInt8} {t:List Va}:Wv n (.mk k i b s t)↔s.length≤n∧t.length≤n ∧ ∀ v∈t,Wv n v :=
 ⟨fun h=>by cases h; exact ⟨by assumption,by assumption,by assumption⟩,fun ⟨h1,h2,h3⟩=>.mk _ _ _ _ _ h1 h2 h3⟩
@[simp] theorem We_mk {n:Nat} {op:List UInt8} {v:Va} {m:Int} {a:List Ex}:We n (.mk op v m a)↔Wv n v∧a.length≤n ∧ ∀ e∈a,We n e :=
 ⟨fun h=>by cases h; exact ⟨by assumption,by assumption,by assumption⟩,fun ⟨h1,h2,h3⟩=>.mk _ _ _ _ h1 h2 h3⟩
class IsV (t:T) (v:outParam Va):Prop where h:t=encV v
class IsVs (l:List T) (vs:outParam (List Va)):Prop where h:l=vs.map encV
class IsT (t:T) (v:outParam Ty):Prop where h:t=encT v
class IsTs (l:List T) (vs:outParam (List Ty)):Prop where h:l=vs.map encT
class IsE (t:T) (v:outParam Ex):Prop where h:t=encE v
class IsEs (l:List T) (vs:outParam (List Ex)):Prop where h:l=vs.map encE
instance {v:Va}:IsV (encV v) v:=⟨rfl⟩
instance {k i:Int} {b:Bool} {s:List UInt8} {l:List T} {vs:List Va} [h:IsVs l vs]:IsV (.agg [.int .i64 k,.int .i64 i,.bool b,.str s,.slice l]) (.mk k i b s vs):=⟨by rw [h.h]; simp⟩
instance:IsVs [] []:=⟨rfl⟩
instance {t:T} {l:List T} {v:Va} {vs:List Va} [h:IsV t v] [k:IsVs l vs]:IsVs (t::l) (v::vs):=⟨by rw [h.h,k.h]; rfl⟩
instance {vs:List Va}:IsVs (vs.map encV) vs:=⟨rfl⟩
instance {l m:List T} {vs ws:List Va} [h:IsVs l vs] [k:IsVs m ws]:IsVs (l++m) (vs++ws):=⟨by rw [h.h,k.h,List.map_append]⟩
instance {l:List T} {n:Nat} {vs:List Va} [h:IsVs l vs]:IsVs (l.take n) (vs.take n):=⟨by rw [h.h,List.map_take]⟩
instance {l:List T} {n:Nat} {vs:List Va} [h:IsVs l vs]:IsVs (l.drop n) (vs.drop n):=⟨by rw [h.h,List.map_drop]⟩
instance {t:Ty}:IsT (encT t) t:=⟨rfl⟩
instance {k:Int} {l:List T} {vs:List Ty} [h:IsTs l vs]:IsT (.agg [.int .i64 k,.slice l]) (.mk k vs):=⟨by rw [h.h]; simp⟩
instance:IsTs [] []:=⟨rfl⟩
instance {t:T} {l:List T} {v:Ty} {vs:List Ty} [h:IsT t v] [k:IsTs l vs]:IsTs (t::l) (v::vs):=⟨by rw [h.h,k.h]; rfl⟩
instance {vs:List Ty}:IsTs (vs.map encT) vs:=⟨rfl⟩
instance {l m:List T} {vs ws:List Ty} [h:IsTs l vs] [k:IsTs m ws]:IsTs (l++m) (vs++ws):=⟨by rw [h.h,k.h,List.map_append]⟩
instance {l:List T} {n:Nat} {vs:List Ty} [h:IsTs l vs]:IsTs (l.take n) (vs.take n):=⟨by rw [h.h,List.map_take]⟩
instance {e:Ex}:IsE (encE e) e:=⟨rfl⟩
instance {op:List UInt8} {k i:Int} {b:Bool} {s:List UInt8} {l m:List T} {vs:List Va} {n:Int} {es:List Ex} [h:IsVs l vs] [g:IsEs m es] :
  IsE (.agg [.str op,.int .i64 k,.int .i64 i,.bool b,.str s,.slice l,.int .i64 n,.slice m]) (.mk op (.mk k i b s vs) n es):=⟨by rw [h.h,g.h]; simp⟩
instance:IsEs [] []:=⟨rfl⟩
instance {t:T} {l:List T} {v:Ex} {vs:List Ex} [h:IsE t v] [k:IsEs l vs]:IsEs (t::l) (v::vs):=⟨by rw [h.h,k.h]; rfl⟩
instance {vs:List Ex}:IsEs (vs.map encE) vs:=⟨rfl⟩
instance {l m:List T} {vs ws:List Ex} [h:IsEs l vs] [k:IsEs m ws]:IsEs (l++m) (vs++ws):=⟨by rw [h.h,k.h,List.map_append]⟩
instance {l:List T} {n:Nat} {vs:List Ex} [h:IsEs l vs]:IsEs (l.take n) (vs.take n):=⟨by rw [h.h,List.map_take]⟩
instance (priority:=high) {v:Va}:IsV (.agg [.int .i64 v.k,.int .i64 v.i,.bool v.b,.str v.s,.slice (v.t.map encV)]) v:=⟨by simp⟩
instance (priority:=high) {t:Ty}:IsT (.agg [.int .i64 t.kind,.slice (t.of.map encT)]) t:=⟨by simp⟩
instance (priority:=1500) {op:List UInt8} {v:Va} {m:List T} {n:Int} {es:List Ex} [g:IsEs m es]:IsE (.agg [.str op,.int .i64 v.k,.int .i64 v.i,.bool v.b,.str v.s,.slice (v.t.map encV),.int .i64 n,.slice m]) (.mk op v n es):=⟨by rw [g.h]; simp⟩
instance (priority:=2000) {e:Ex}:IsE (.agg [.str e.op,.int .i64 e.v.k,.int .i64 e.v.i,.bool e.v.b,.str e.v.s,.slice (e.v.t.map encV),.int .i64 e.n,.slice (e.a.map encE)]) e:=⟨by simp⟩
class Fold (t:T) (u:outParam T):Prop where h:t=u
class FoldL (l:List T) (us:outParam (List T)):Prop where h:l=us
class FoldA (ts caps:List T) (us:outParam (List T)):Prop where h:ts++caps=us
instance (priority:=low) {t:T}:Fold t t:=⟨rfl⟩
instance {k i:Int} {b:Bool} {s:List UInt8} {l:List T} {vs:List Va} [h:IsVs l vs]:Fold (.agg [.int .i64 k,.int .i64 i,.bool b,.str s,.slice l]) (encV (.mk k i b s vs)):=⟨by rw [h.h]; simp⟩
instance {k:Int} {l:List T} {vs:List Ty} [h:IsTs l vs]:Fold (.agg [.int .i64 k,.slice l]) (encT (.mk k vs)):=⟨by rw [h.h]; simp⟩
instance {op:List UInt8} {k i:Int} {b:Bool} {s:List UInt8} {l m:List T} {vs:List Va} {n:Int} {es:List Ex} [h:IsVs l vs] [g:IsEs m es] :
  Fold (.agg [.str op,.int .i64 k,.int .i64 i,.bool b,.str s,.slice l,.int .i64 n,.slice m]) (encE (.mk op (.mk k i b s vs) n es)):=⟨by rw [h.h,g.h]; simp⟩
instance {t:T} {l:List T} {v:Va} {vs:List Va} [h:IsV t v] [k:IsVs l vs]:Fold (.slice (t::l)) (.slice ((v::vs).map encV)):=⟨by rw [h.h,k.h]; rfl⟩
instance {t:T} {l:List T} {v:Ty} {vs:List Ty} [h:IsT t v] [k:IsTs l vs]:Fold (.slice (t::l)) (.slice ((v::vs).map encT)):=⟨by rw [h.h,k.h]; rfl⟩
instance {t:T} {l:List T} {v:Ex} {vs:List Ex} [h:IsE t v] [k:IsEs l vs]:Fold (.slice (t::l)) (.slice ((v::vs).map encE)):=⟨by rw [h.h,k.h]; rfl⟩
instance {l m:List T} {vs:List Va} [h:IsVs (l++m) vs]:Fold (.slice (l++m)) (.slice (vs.map encV)):=⟨by rw [h.h]⟩
instance {l m:List T} {vs:List Ty} [h:IsTs (l++m) vs]:Fold (.slice (l++m)) (.slice (vs.map encT)):=⟨by rw [h.h]⟩
instance {l m:List T} {vs:List Ex} [h:IsEs (l++m) vs]:Fold (.slice (l++m)) (.slice (vs.map encE)):=⟨by rw [h.h]⟩
instance (priority:=high) {v:Va}:Fold (.agg [.int .i64 v.k,.int .i64 v.i,.bool v.b,.str v.s,.slice (v.t.map encV)]) (encV v):=⟨by simp⟩
instance (priority:=high) {t:Ty}:Fold (.agg [.int .i64 t.kind,.slice (t.of.map encT)]) (encT t):=⟨by simp⟩
instance (priority:=1500) {op:List UInt8} {v:Va} {m:List T} {n:Int} {es:List Ex} [g:IsEs m es]:Fold (.agg [.str op,.int .i64 v.k,.int .i64 v.i,.bool v.b,.str v.s,.slice (v.t.map encV),.int .i64 n,.slice m]) (encE (.mk op v n es)):=⟨by rw [g.h]; simp⟩
instance (priority:=2000) {e:Ex}:Fold (.agg [.str e.op,.int .i64 e.v.k,.int .i64 e.v.i,.bool e.v.b,.str e.v.s,.slice (e.v.t.map encV),.int .i64 e.n,.slice (e.a.map encE)]) (encE e):=⟨by simp⟩
instance {α:Type} {L:List α} {f:α→Va}:IsVs (L.map (encV∘f)) (L.map f):=⟨by simp⟩
instance {α:Type} {L:List α} {f:α→Va}:Fold (.slice (L.map (encV∘f))) (.slice ((L.map f).map encV)):=⟨by simp⟩
instance {α:Type} {L:List α} {f:α→Ty}:IsTs (L.map (encT∘f)) (L.map f):=⟨by simp⟩
instance {α:Type} {L:List α} {f:α→Ty}:Fold (.slice (L.map (encT∘f))) (.slice ((L.map f).map encT)):=⟨by simp⟩
instance {α:Type} {L:List α} {f:α→Ex}:IsEs (L.map (encE∘f)) (L.map f):=⟨by simp⟩
instance {α:Type} {L:List α} {f:α→Ex}:Fold (.slice (L.map (encE∘f))) (.slice ((L.map f).map encE)):=⟨by simp⟩
instance:FoldL [] []:=⟨rfl⟩
instance {t u:T} {l m:List T} [h:Fold t u] [k:FoldL l m]:FoldL (t::l) (u::m):=⟨by rw [h.h,k.h]⟩
instance {l m:List T} [h:FoldL l m]:FoldA [] l m:=⟨h.h⟩
instance {t u:T} {l c m:List T} [h:Fold t u] [k:FoldA l c m]:FoldA (t::l) c (u::m):=⟨by rw [List.cons_append,k.h,h.h]⟩
variable {P:Program} {H:List Ob}
def zCr (P:Program) (f:Nat) (us:List T) (H:List Ob) [c:Cont]:Prop:=∃ r Hn,Abs.Fn P f [] (us.map .p) r Hn∧c.k (r.shift H.length) (H++Hn.map (Ob.shift H.length))
def zzp (P:Program) (f:Nat) (us:List T) [c:ContT]:Prop:=∃ r Hn r',Abs.Fn P f [] (us.map .p) r Hn∧r.pur=some r'∧c.k r'
theorem zn {c:Cont} {args:List AV} {f:Nat} {caps ts us:List T} (ha:toTs args=some ts) [h:FoldA ts caps us] (hk:zCr P f us H):ztE P (.p (.func f caps)) args H:=by
 obtain ⟨r,Hn,h1,h2⟩:=hk
 exact zo rfl ha (by rw [h.h]; exact h1) h2
theorem zl {c:ContT} {args:List AV} {f:Nat} {caps ts us:List T} (ha:toTs args=some ts) [h:FoldA ts caps us] (hk:zzp P f us):zvy P (.p (.func f caps)) args:=by
 obtain ⟨r,Hn,r',h1,h2,h3⟩:=hk
 exact zF ha (by rw [h.h]; exact h1) h2 h3
theorem zx {c:Cont} {f:Nat} {us:List T} {t:T} (h:Abs.Fn P f [] (us.map .p) (.p t) []) (hk:c.k (.p t) H):zCr P f us H:=⟨_,_,h,by simpa using hk⟩
theorem zr {c:Cont} {f:Nat} {us:List T} {r:AV} {Hn:List Ob} (h:Abs.Fn P f [] (us.map .p) r Hn) (hk:c.k (r.shift H.length) (H++Hn.map (Ob.shift H.length))):zCr P f us H:=⟨_,_,h,hk⟩
theorem zq {c:ContT} {f:Nat} {us:List T} {t:T} {Hn:List Ob} (h:Abs.Fn P f [] (us.map .p) (.p t) Hn) (hk:c.k (.p t)):zzp P f us:=⟨_,_,_,h,rfl,hk⟩
theorem zd {c:ContT} {f:Nat} {us:List T} {r r':AV} {Hn:List Ob} (h:Abs.Fn P f [] (us.map .p) r Hn) (hr:r.pur=some r') (hk:c.k r'):zzp P f us:=⟨_,_,_,h,hr,hk⟩
end Go.Proofs.YtdmgbhamigegfaaGreatDoor
