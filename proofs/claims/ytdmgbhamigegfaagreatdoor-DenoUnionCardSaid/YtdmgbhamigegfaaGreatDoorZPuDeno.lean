/- What a job means. No program in sight. -/
import Derived.Test.YtdmgbhamigegfaaGreatDoorZPuGraph
import Derived.Test.YtdmgbhamigegfaaGreatDoorZPuApOQ
import Derived.Test.YtdmgbhamigegfaaGreatDoorZPuSort
set_option linter.unusedSimpArgs false
set_option linter.unusedVariables false
namespace Go.Proofs.YtdmgbhamigegfaaGreatDoor
open Go Go.Abs
structure InD where
 name:List UInt8
 rows:List Va
def encI (x:InD):T:=.agg [.str x.name,.slice (x.rows.map encV)]
@[simp] theorem encI_cells (x:InD):(encI x).cells.length=2:=id rfl
def encW (b:Int×Va):T:=.agg [.int .i64 b.1,.int .i64 b.2.k,.int .i64 b.2.i,.bool b.2.b,.str b.2.s,.slice (b.2.t.map encV)]
@[simp] theorem encW_cells (b:Int×Va):(encW b).cells.length=6:=id rfl
structure OutD where
 sinks:List (List Va)
 bad:List (Int×Va)
def encL (l:List Va):T:=.slice (l.map encV)
@[simp] theorem encL_cells (l:List Va):(encL l).cells.length=1:=id rfl
def encD (o:OutD):T:=.agg [.slice (o.sinks.map encL),.slice (o.bad.map encW)]
def zua (g:List Nd):List Int→List InD→Bool
 | i::r,x::q=>decide (x.name=(g.getD i.toNat noN).op.name) && zua g r q
 | _,_=>true
def zuv (g:List Nd):List Int→List InD→Bool
 | i::r,x::q=>x.rows.all (fun v=>isV v (g.getD i.toNat noN).op.t) && zuv g r q
 | _,_=>true
def rowsD (l:List InD):Nat:=(l.map fun x=>x.rows.length).sum
def zv0 (g:List Nd) (l:List InD):Int :=
 if (zlJ g).2≠0 then (zlJ g).2 else if l.length≠(zbH 1 0 g).length then 6 else if zua g (zbH 1 0 g) l=false then 6
 else if zuv g (zbH 1 0 g) l=false then 5 else if 1000 < rowsD l then 10 else 0
def zkz (mx:Nat) (ends:List Int) (r:Nat):Bool:=decide (r % mx < ends.length) && decide (((r / mx:Nat):Int) < ends.getD (r % mx) 0)
def cameD (mx:Nat) (ends:List Int) (k:Nat):List Va→List Va
 | []=>[]
 | x::r=>if zkz mx ends k then x::cameD mx ends (k + 1) r else cameD mx ends (k + 1) r
theorem zyW (mx:Nat) (ends:List Int):∀ (a b:List Va) (k:Nat),cameD mx ends k (a++b)=cameD mx ends k a++cameD mx ends (k + a.length) b
 | [],b,k=>by simp [cameD]
 | x::r,b,k=>by
  simp only [List.cons_append,cameD,List.length_cons]
  rw [zyW mx ends r b (k + 1),show k + 1 + r.length=k + (r.length + 1) by omega]
  split <;> rfl
theorem zCE (mx:Nat) (ends:List Int) (l:List Va) (i:Nat) (h:i < l.length) :
  cameD mx ends 0 (l.take (i + 1))=cameD mx ends 0 (l.take i)++if zkz mx ends i then [l[i]] else []:=by
 rw [List.take_succ_eq_append_getElem h,zyW]
 simp only [List.length_take,Nat.zero_add,Nat.min_eq_left (Nat.le_of_lt h),cameD]
theorem ztH (mx:Nat) (ends:List Int):∀ (l:List Va) (k:Nat),(cameD mx ends k l).length≤l.length
 | [],k=>by simp [cameD]
 | x::r,k=>by
  have:=ztH mx ends r (k + 1)
  simp only [cameD]
  split <;> simp <;> omega
theorem zyV (mx:Nat) (hm:0 < mx) (ends:List Int):∀ (l:List Va) (k:Nat),(∀ r,r < k + l.length→zkz mx ends r=true)→cameD mx ends k l=l
 | [],k,_=>rfl
 | x::r,k,h=>by
  simp only [cameD]
  rw [if_pos (h k (by simp)),zyV mx hm ends r (k + 1) (fun j hj=>h j (by simp only [List.length_cons]; omega))]
def zcC (o:Opr):List Va→Option (List Va×List Va)
 | []=>some ([],[])
 | x::r=>match zeM o x,zcC o r with
  | some (.ok l),some (out,bad)=>some (l++out,bad)
  | some (.er _),some (out,bad)=>some (out,x::bad)
  | _,_=>none
theorem zrI (o:Opr):∀ (a b:List Va),zcC o (a++b)=match zcC o a,zcC o b with
  | some (x,p),some (y,q)=>some (x++y,p++q)
  | _,_=>none
 | [],b=>by
  simp only [List.nil_append,zcC]
  cases zcC o b <;> rfl
 | x::r,b=>by
  simp only [List.cons_append,zcC,zrI o r b]
  cases zeM o x with
  | none=>cases zcC o r <;> cases zcC o b <;> rfl
  | some u=>cases u <;> cases zcC o r <;> cases zcC o b <;> simp
def foldD (f:Int) (c:Int×Int) (v:Int):Int×Int :=
 let n:=IntKind.i64.wrap (c.1 + 1)
 if f=1 then (n,IntKind.i64.wrap (c.2 + v)) else if f=2 then (n,IntKind.i64.wrap (c.2 + 1))
 else if n=1∨(f=3∧v < c.2)∨(f=4∧c.2 < v) then (n,v) else (n,c.2)
def getK (k:Int):List (Int×(Int×Int))→Int×Int
 | []=>(0,0)
 | x::r=>if x.1=k then x.2 else getK k r
def putK (k:Int) (c:Int×Int):List (Int×(Int×Int))→List (Int×(Int×Int))
 | []=>[(k,c)]
 | x::r=>if x.1=k then (k,c)::r else x::putK k c r
structure KeyD where
 st:List (Int×(Int×Int))
 out:List Va
 bad:List Va
def stepK (o:Opr) (s:KeyD) (x:Va):Option KeyD :=
 match evE o.key x with
 | none=>none
 | some (.er _)=>some { s with bad:=s.bad++[x] }
 | some (.ok k)=>match (if o.k=5 then evE (o.es.getD 0 zeroE) x else some (.ok zeroV)) with
  | none=>none
  | some (.er _)=>some { s with bad:=s.bad++[x] }
  | some (.ok v)=>if k=intV k.i then
    let c:=foldD o.f (getK k.i s.st) v.i
    some { st:=putK k.i c s.st,bad:=s.bad,out:=s.out++if o.k=6∧c.1.tmod o.n=0 then [tupV [k,intV c.1]] else if o.k=7∧c.1=1 then [k] else [] }
   else none
def zF6 (o:Opr) (s:KeyD):List Va→Option KeyD
 | []=>some s
 | x::r=>match stepK o s x with
  | none=>none
  | some s'=>zF6 o s' r
def zzW (o:Opr) (last:Bool) (rows:List Va):Option (List Va×List Va) :=
 match zF6 o ⟨[],[],[]⟩ rows with
 | none=>none
 | some s=>some (s.out++(if o.k=5∧last=true then s.st.map fun x=>tupV [intV x.1,intV x.2.2] else []),s.bad)
def nodeD (last:Bool) (ins:List InD) (ends:List (List Int)) (srcs:Nat) (outs:List (List Va)) (n:Nd):Option (List Va×List Va) :=
 if n.op.k=1 then some (cameD n.mx.toNat (ends.getD srcs []) 0 (ins.getD srcs ⟨[],[]⟩).rows,[])
 else if n.op.k=5∨n.op.k=6∨n.op.k=7 then zzW n.op last (n.ins.flatMap fun j=>outs.getD j.toNat [])
 else zcC n.op (n.ins.flatMap fun j=>outs.getD j.toNat [])
structure FrD where
 srcs:Nat
 outs:List (List Va)
 bad:List (Int×Va)
 sinks:List (List Va)
def stepD (last:Bool) (ins:List InD) (ends:List (List Int)) (s:FrD) (n:Nd):Option FrD :=
 match nodeD last ins ends s.srcs s.outs n with
 | none=>none
 | some (out,bad)=>some ⟨if n.op.k=1 then s.srcs + 1 else s.srcs,s.outs++[out],s.bad++bad.map fun x=>((s.outs.length:Int),x),if n.op.k=9 then s.sinks++[out] else s.sinks⟩
def zav (last:Bool) (ins:List InD) (ends:List (List Int)) (s:FrD):List Nd→Option FrD
 | []=>some s
 | n::r=>match stepD last ins ends s n with
  | none=>none
  | some s'=>zav last ins ends s' r
theorem zfk (last:Bool) (ins:List InD) (ends:List (List Int)):∀ (a b:List Nd) (s:FrD),zav last ins ends s (a++b)=match zav last ins ends s a with
  | none=>none
  | some s'=>zav last ins ends s' b
 | [],b,s=>rfl
 | x::r,b,s=>by
  simp only [List.cons_append,zav]
  cases stepD last ins ends s x with
  | none=>rfl
  | some s'=>exact zfk last ins ends r b s'
def sortD (o:OutD):OutD:=⟨o.sinks.map (sortO cmpV),sortO cmpW o.bad⟩
def sameD (a b:OutD):Bool:=decide (a.sinks=b.sinks) && decide (a.bad=b.bad)
def zce {α:Type} (c:α→α→Int):List α→List α→Bool
 | [],_=>true
 | x::r,b=>match b.dropWhile (fun y=>decide (c y x < 0)) with
  | []=>false
  | y::q=>decide (c y x=0) && zce c r q
def zlG (a b:List (List Va)):Bool:=match a,b with
 | x::r,y::q=>zce cmpV (sortO cmpV x) (sortO cmpV y) && zlG r q
 | _,_=>true
def ztA (a b:OutD):Bool:=decide (a.sinks.length=b.sinks.length) && zlG a.sinks b.sinks && zce cmpW (sortO cmpW a.bad) (sortO cmpW b.bad)
end Go.Proofs.YtdmgbhamigegfaaGreatDoor
