/- The package op over trees. -/
import Derived.Test.YtdmgbhamigegfaaGreatDoorZPuApOQ
import Derived.Test.YtdmgbhamigegfaaGreatDoorZSpBudTQ
import Derived.Test.YtdmgbhamigegfaaGreatDoorZSpEvalCQ
import Derived.Test.YtdmgbhamigegfaaGreatDoorZSpValBQ
import Derived.Test.YtdmgbhamigegfaaGreatDoorS1
set_option linter.unusedSimpArgs false
set_option linter.unusedVariables false
namespace Go.Proofs.YtdmgbhamigegfaaGreatDoor
open Go Go.Abs
attribute [local irreducible] Abs.Fn
structure Kd where
 name:Bool
 typed:Bool
 keyed:Bool
 e1:Int
 e2:Int
 i1:Int
 i2:Int
 f1:Int
 f2:Int
 n1:Int
 n2:Int
def encK (s:Kd):T:=.agg [.bool s.name,.bool s.typed,.bool s.keyed,.int .i64 s.e1,.int .i64 s.e2,.int .i64 s.i1,.int .i64 s.i2,.int .i64 s.f1,.int .i64 s.f2,.int .i64 s.n1,.int .i64 s.n2]
def encKp (p:Int×Kd):T:=.agg [.int .i64 p.1,.bool p.2.name,.bool p.2.typed,.bool p.2.keyed,.int .i64 p.2.e1,.int .i64 p.2.e2,.int .i64 p.2.i1,.int .i64 p.2.i2,.int .i64 p.2.f1,.int .i64 p.2.f2,.int .i64 p.2.n1,.int .i64 p.2.n2]
def noK:Kd:=⟨false,false,false,0,0,0,0,0,0,0,0⟩
def kdL:List (Int×Kd):=[(1,⟨true,true,false,0,0,0,0,0,0,0,0⟩),(2,⟨false,false,false,1,1,1,1,0,0,0,0⟩),(3,⟨false,false,false,1,1,1,1,0,0,0,0⟩),(4,⟨false,false,false,1,4,1,1,0,0,0,0⟩),(5,⟨false,false,true,1,1,1,1,1,4,0,0⟩),(6,⟨false,false,true,0,0,1,1,0,0,1,1000⟩),(7,⟨false,false,true,0,0,1,1,0,0,0,0⟩),(8,⟨false,false,false,0,0,2,4,0,0,0,0⟩),(9,⟨true,false,false,0,0,1,1,0,0,0,0⟩)]
def lookK (k:Int):List (Int×Kd)→Option Kd
 | []=>none
 | p::r=>if p.1=k then some p.2 else lookK k r
def findK (o:Option Kd):AV :=
 match o with
 | some s=>.tup [.p (encK s),.p (.bool true)]
 | none=>.tup [.p (encK noK),.p (.bool false)]
theorem zDe (k:Int) (l:List (Int×Kd)) (i:Nat) (hi:i < l.length):lookK k (l.drop i)=if l[i].1=k then some l[i].2 else lookK k (l.drop (i + 1)):=by
 rw [List.drop_eq_getElem_cons hi]
 rfl
set_option maxRecDepth 100000 in
set_option maxHeartbeats 1000000 in
theorem zbu:Abs.Fn Tryz.prog zlu [] [] (.p (.slice (kdL.map encKp))) []:=by
 apply zz7
 simp [zuc]
 exact zj (by simp [AV.pur,kdL,encKp])
theorem zBD (l:List (Int×Kd)) (k:Int):Abs.Fn Tryz.prog zft [] [.p (.slice (l.map encKp)),.p (.int .i64 k)] (findK (lookK k l)) []:=by
 apply zte
 simp [zkM]
 intro hl
 refine zA (σ:=Nat) (n:=1) (fun i=>[.p (.int .i64 i)]) (fun _=>[.box [.p (.bool false),.p (.bool false),.p (.bool false),.p (.int .i64 0),.p (.int .i64 0),.p (.int .i64 0),.p (.int .i64 0),.p (.int .i64 0),.p (.int .i64 0),.p (.int .i64 0),.p (.int .i64 0)]]) (fun i=>i≤l.length∧lookK k (l.drop i)=lookK k l) (fun i=>l.length - i) [] 0 (fun _=>rfl) ⟨rfl,rfl⟩ (by simp) (fun i B hi hB=>?_)
 obtain ⟨h1,h2⟩:=hi
 simp [zlt]
 refine ⟨fun hlt=>?_,fun hge=>?_⟩
 ·have hd:=zDe k l i hlt
  rw [h2] at hd
  simp [hlt,encKp]
  refine ⟨fun hz=>?_,fun hz=>?_⟩
  ·rw [hd,if_pos hz]
   exact zj (by simp [AV.pur,findK,encK])
  ·rw [IntWalk.i64_in _ (by simp [maxLen] at hl; omega)]
   exact hB (i + 1) _ ⟨by omega,by simp [hd,hz]⟩ (by omega) (by simp) (by simp [Ob.below,AV.under1]) (by simp) (by simp [AV.under,AV.under1])
 ·have:i=l.length:=by omega
  subst this
  rw [← h2]
  simp [lookK,findK]
  exact zj (by simp [AV.pur,encK,noK])
theorem zab (a b n:Int):Abs.Fn Tryz.prog zfu [] [.p (.agg [.int .i64 a,.int .i64 b]),.p (.int .i64 n)] (.p (.bool (decide (a≤n) && decide (n≤b)))) []:=by
 apply zyF
 simp [zsc]
 exact zg rfl
theorem zhx (e:Ex):Abs.Fn Tryz.prog zny [] [.p (encE e)] (.p (.bool (bareE e))) []:=by
 obtain ⟨op,v,n,a⟩:=e
 apply zyD
 simp [zsb]
 refine zz (decide (cmpV v zeroV=0)) (fun _=>?_) ?_
 ·(first | refine zn rfl ?_ | refine zl rfl ?_)
  (first | refine zx (zcU v zeroV) ?_ | refine zq (zcU v zeroV) ?_ | refine zr (zcU v zeroV) ?_ | refine zd (zcU v zeroV) rfl ?_ | refine zd (zcU v zeroV) (by simp [AV.pur]; rfl) ?_)
  try simp
 ·simp
  exact zg (by simp [bareE])
def zvz (s:Kd) (o:Opr) (m:Nat):Bool :=
 (s.name || decide (o.name=[])) && (s.typed || (decide (o.t.kind=0) && decide (o.t.of.length=0))) && (s.keyed || bareE o.key) && (decide (s.e1≤o.es.length) && decide ((o.es.length:Int)≤s.e2)) && (decide (s.f1≤o.f) && decide (o.f≤s.f2)) && (decide (s.n1≤o.n) && decide (o.n≤s.n2)) && (decide (s.i1≤m) && decide ((m:Int)≤s.i2))
theorem zhs (s:Kd) (o:Opr) (m:Nat):Abs.Fn Tryz.prog zkL [] [.p (encO o),.p (encK s),.p (.int .i64 m)] (.p (.bool (zvz s o m))) []:=by
 apply zvv
 simp [znu,encK]
 refine zz (s.keyed || bareE o.key) (fun _=>zz (bareE o.key) (fun _=>?_) (by simp)) ?_
 ·(first | refine zn rfl ?_ | refine zl rfl ?_)
  (first | refine zx (zhx o.key) ?_ | refine zq (zhx o.key) ?_ | refine zr (zhx o.key) ?_ | refine zd (zhx o.key) rfl ?_ | refine zd (zhx o.key) (by simp [AV.pur]; rfl) ?_)
  try simp [encK]
 simp
 refine zz (decide (s.e1≤o.es.length) && decide ((o.es.length:Int)≤s.e2)) (fun _=>?_) ?_
 ·(first | refine zn rfl ?_ | refine zl rfl ?_)
  (first | refine zx (zab s.e1 s.e2 o.es.length) ?_ | refine zq (zab s.e1 s.e2 o.es.length) ?_ | refine zr (zab s.e1 s.e2 o.es.length) ?_ | refine zd (zab s.e1 s.e2 o.es.length) rfl ?_ | refine zd (zab s.e1 s.e2 o.es.length) (by simp [AV.pur]; rfl) ?_)
  try simp [encK]
 simp
 refine zz (decide (s.f1≤o.f) && decide (o.f≤s.f2)) (fun _=>?_) ?_
 ·(first | refine zn rfl ?_ | refine zl rfl ?_)
  (first | refine zx (zab s.f1 s.f2 o.f) ?_ | refine zq (zab s.f1 s.f2 o.f) ?_ | refine zr (zab s.f1 s.f2 o.f) ?_ | refine zd (zab s.f1 s.f2 o.f) rfl ?_ | refine zd (zab s.f1 s.f2 o.f) (by simp [AV.pur]; rfl) ?_)
  try simp [encK]
 simp
 refine zz (decide (s.n1≤o.n) && decide (o.n≤s.n2)) (fun _=>?_) ?_
 ·(first | refine zn rfl ?_ | refine zl rfl ?_)
  (first | refine zx (zab s.n1 s.n2 o.n) ?_ | refine zq (zab s.n1 s.n2 o.n) ?_ | refine zr (zab s.n1 s.n2 o.n) ?_ | refine zd (zab s.n1 s.n2 o.n) rfl ?_ | refine zd (zab s.n1 s.n2 o.n) (by simp [AV.pur]; rfl) ?_)
  try simp [encK]
 simp
 refine zz (decide (s.i1≤m) && decide ((m:Int)≤s.i2)) (fun _=>?_) ?_
 ·(first | refine zn rfl ?_ | refine zl rfl ?_)
  (first | refine zx (zab s.i1 s.i2 m) ?_ | refine zq (zab s.i1 s.i2 m) ?_ | refine zr (zab s.i1 s.i2 m) ?_ | refine zd (zab s.i1 s.i2 m) rfl ?_ | refine zd (zab s.i1 s.i2 m) (by simp [AV.pur]; rfl) ?_)
  try simp [encK]
 simp
 exact zg (by simp [zvz])
theorem zuZ (o:Opr) (m:Nat):(¬ (1≤o.k∧o.k≤9)∧lookK o.k kdL=none)∨((1≤o.k∧o.k≤9) ∧ ∃ s,lookK o.k kdL=some s∧s.name=decide (o.k=1∨o.k=9)∧s.typed=decide (o.k=1)∧s.keyed=zas o.k∧(zvz s o m=(zeA o && insO o.k m))):=by
 by_cases h:1≤o.k∧o.k≤9
 ·refine .inr ⟨h, ?_⟩
  obtain ⟨k,nm,t,es,key,f,n⟩:=o
  simp only at h ⊢
  have:k=1∨k=2∨k=3∨k=4∨k=5∨k=6∨k=7∨k=8∨k=9:=by omega
  rcases this with rfl | rfl | rfl | rfl | rfl | rfl | rfl | rfl | rfl
  all_goals
   refine ⟨_,rfl,rfl,rfl,rfl, ?_⟩
   rw [Bool.eq_iff_iff]
   simp [zvz,zeA,insO,zas]
   try grind
 ·refine .inl ⟨h, ?_⟩
  simp only [kdL,lookK]
  repeat rw [if_neg (by omega)]
theorem zBv (o:Opr):Abs.Fn Tryz.prog zr7 [] [.p (encO o)] (.p (.bool (zas o.k))) []:=by
 apply zBI
 simp [zxs]
 (first | refine zn rfl ?_ | refine zl rfl ?_)
 (first | refine zx (zbu) ?_ | refine zq (zbu) ?_ | refine zr (zbu) ?_ | refine zd (zbu) rfl ?_ | refine zd (zbu) (by simp [AV.pur]; rfl) ?_)
 try simp
 have hk:=zBD kdL o.k
 rcases zuZ o 0 with ⟨h,hl⟩ | ⟨h,s,hl,_,_,h3,_⟩
 ·rw [hl] at hk
  (first | refine zn rfl ?_ | refine zl rfl ?_)
  (first | refine zx (hk) ?_ | refine zq (hk) ?_ | refine zr (hk) ?_ | refine zd (hk) rfl ?_ | refine zd (hk) (by simp [AV.pur]; rfl) ?_)
  try simp [encK,noK]
  have:zas o.k=false:=by simp [zas]; omega
  rw [this]
  exact zg rfl
 ·rw [hl] at hk
  (first | refine zn rfl ?_ | refine zl rfl ?_)
  (first | refine zx (hk) ?_ | refine zq (hk) ?_ | refine zr (hk) ?_ | refine zd (hk) rfl ?_ | refine zd (hk) (by simp [AV.pur]; rfl) ?_)
  try simp [encK,noK]
  rw [← h3]
  exact zg rfl
def zs6:List UInt8→Bool
 | []=>false
 | c::_=>decide (97≤c.toNat) && decide (c.toNat≤122)
theorem zBA (s:List UInt8):nameS s=(zs6 s && decide (s.length≤16) && s.all nameC):=by
 cases s with
 | nil=>rfl
 | cons c r =>
  rw [Bool.eq_iff_iff]
  simp only [nameS,zs6,Bool.and_eq_true,decide_eq_true_eq,List.length_cons]
  constructor
  ·rintro ⟨⟨h1,h2⟩,h3⟩; exact ⟨⟨h2,by omega⟩,h3⟩
  ·rintro ⟨⟨h2,h1⟩,h3⟩; exact ⟨⟨by omega,h2⟩,h3⟩
theorem zBz {c:UInt8}:nameC c=true↔((97≤c.toNat∧c.toNat≤122)∨(48≤c.toNat∧c.toNat≤57)∨c.toNat=95):=by
 simp [nameC]
theorem zgH (s:List UInt8):Abs.Fn Tryz.prog zmC [] [.p (.str s)] (.p (.bool (nameS s))) []:=by
 apply zDq
 simp [zz5]
 intro hl
 refine zA (σ:=Nat) (n:=0) (fun i=>[.p (.int .i64 i)]) (fun _=>[]) (fun i=>i≤s.length∧(0 < i→zs6 s=true∧(s.drop i).all nameC=s.all nameC)) (fun i=>s.length - i) [] 0 (fun _=>rfl) ⟨rfl,rfl⟩ (by simp) (fun i B hi hB=>?_)
 obtain ⟨g1,g2⟩:=hi
 simp [zxt]
 refine ⟨fun hlt=>?_,fun hge=>?_⟩
 ·have hd:=zkt nameC s i hlt
  have h1:(byteT s[i]).cells.length=1:=rfl
  have h2:(byteT s[i]).cells[0]?.getD default=T.int .u8 s[i].toNat:=rfl
  have h3:∀ h:0 < (byteT s[i]).cells.length,(byteT s[i]).cells[0]=T.int .u8 s[i].toNat:=fun _=>rfl
  simp [hlt,h1,h2,h3]
  have hlet:i=0→zs6 s=(decide (97≤s[i].toNat) && decide (s[i].toNat≤122)):=by
   intro h0
   subst h0
   cases s with
   | nil=>simp at hlt
   | cons c r=>rfl
  refine ⟨fun q1 q2=>zg ?_,fun q=>?_⟩
  ·rw [zBA]
   rcases q2 with h0 | ⟨q3,q4⟩
   ·have:zs6 s=false:=by
     rw [hlet h0,Bool.eq_false_iff]
     simp only [ne_eq,Bool.and_eq_true,decide_eq_true_eq]
     omega
    rw [this]; rfl
   ·have:nameC s[i]=false:=by
     rw [Bool.eq_false_iff,ne_eq,zBz]
     omega
    have:s.all nameC=false:=by
     rw [Bool.eq_false_iff]
     intro hall
     have:=List.all_eq_true.1 hall s[i] (List.getElem_mem hlt)
     simp_all
    rw [this]; simp
  ·rw [IntWalk.i64_in _ (by simp [maxLen] at hl; omega)]
   refine hB (i + 1) _ ⟨by omega,fun _=>?_⟩ (by omega) (by simp) (by simp [Ob.below,AV.under1]) (by simp) (by simp [AV.under,AV.under1])
   have hc:nameC s[i]=true:=by
    rw [zBz]
    omega
   rw [hc,Bool.true_and] at hd
   rcases Nat.eq_zero_or_pos i with h0 | hp
   ·refine ⟨?_, ?_⟩
    ·rw [hlet h0]
     simp only [Bool.and_eq_true,decide_eq_true_eq]
     omega
    ·rw [← hd,h0]; rfl
   ·exact ⟨(g2 hp).1,by rw [← hd]; exact (g2 hp).2⟩
 ·have:i=s.length:=by omega
  subst this
  refine zg ?_
  rw [zBA]
  cases s with
  | nil=>rfl
  | cons c r =>
   obtain ⟨a1,a2⟩:=g2 (by simp)
   rw [a1,← a2]
   simp
   omega
def zvN (l:List Ty):Bool:=l.all (fun t=>sameT t (l.getD 0 noT))
theorem zcs (l:List Ty):Abs.Fn Tryz.prog znx [] [.p (.slice (l.map encT))] (.p (.bool (zvN l))) []:=by
 apply zBM
 simp [zxx]
 intro hl
 refine zA (σ:=Nat) (n:=0) (fun i=>[.p (.int .i64 i)]) (fun _=>[]) (fun i=>i≤l.length∧(l.drop i).all (fun t=>sameT t (l.getD 0 noT))=zvN l) (fun i=>l.length - i) [] 0 (fun _=>rfl) ⟨rfl,rfl⟩ (by simp [zvN]) (fun i B hi hB=>?_)
 obtain ⟨h1,h2⟩:=hi
 simp [zu4]
 refine ⟨fun hlt=>?_,fun hge=>?_⟩
 ·have hd:=zkt (fun t=>sameT t (l.getD 0 noT)) l i hlt
  rw [h2] at hd
  have h0:0 < l.length:=by omega
  have hg:l.getD 0 noT=l[0]:=by simp [List.getD_eq_getElem?_getD,h0]
  rw [hg] at hd
  simp [hlt,h0]
  (first | refine zn rfl ?_ | refine zl rfl ?_)
  (first | refine zx (zcX l[i] l[0]) ?_ | refine zq (zcX l[i] l[0]) ?_ | refine zr (zcX l[i] l[0]) ?_ | refine zd (zcX l[i] l[0]) rfl ?_ | refine zd (zcX l[i] l[0]) (by simp [AV.pur]; rfl) ?_)
  try simp
  refine ⟨fun hz=>zg ?_,fun hz=>?_⟩
  ·rw [hd,hz]; rfl
  ·rw [hz,Bool.true_and] at hd
   rw [IntWalk.i64_in _ (by simp [maxLen] at hl; omega)]
   exact hB (i + 1) _ ⟨by omega,by rw [hg]; exact hd.symm⟩ (by omega) (by simp) (by simp [Ob.below,AV.under1]) (by simp) (by simp [AV.under,AV.under1])
 ·rw [List.drop_of_length_le hge] at h2
  exact zg (by rw [← h2]; rfl)
def zig (l:List Ty):Bool:=l.any (fun t=>decide (zI t 0≠0))
theorem zhg (l:List Ty):Abs.Fn Tryz.prog znz [] [.p (.slice (l.map encT))] (.p (.bool (!zig l))) []:=by
 apply zBO
 simp [zxy]
 intro hl
 refine zA (σ:=Nat) (n:=0) (fun i=>[.p (.int .i64 i)]) (fun _=>[]) (fun i=>i≤l.length∧zig (l.drop i)=zig l) (fun i=>l.length - i) [] 0 (fun _=>rfl) ⟨rfl,rfl⟩ (by simp) (fun i B hi hB=>?_)
 obtain ⟨h1,h2⟩:=hi
 generalize hA:zig l=A at *
 simp [zu5]
 refine ⟨fun hlt=>?_,fun hge=>?_⟩
 ·rw [List.drop_eq_getElem_cons hlt,zig,List.any_cons] at h2
  simp [hlt]
  (first | refine zn rfl ?_ | refine zl rfl ?_)
  (first | refine zx (za4 l[i]) ?_ | refine zq (za4 l[i]) ?_ | refine zr (za4 l[i]) ?_ | refine zd (za4 l[i]) rfl ?_ | refine zd (za4 l[i]) (by simp [AV.pur]; rfl) ?_)
  try simp
  refine ⟨fun hz=>zg ?_,fun hz=>?_⟩
  ·have:A=true:=by rw [← h2]; simp [hz]
   rw [this]; rfl
  ·rw [IntWalk.i64_in _ (by simp [maxLen] at hl; omega)]
   exact hB (i + 1) _ ⟨by omega,by rw [← h2]; simp [hz,zig]⟩ (by omega) (by simp) (by simp [Ob.below,AV.under1]) (by simp) (by simp [AV.under,AV.under1])
 ·rw [List.drop_of_length_le hge] at h2
  exact zg (by rw [← h2]; rfl)
theorem zCY (o:Opr) (ts ins:List Ty) (h:o.k=3∨o.k=5→0 < ts.length):Abs.Fn Tryz.prog znv [] [.p (encO o),.p (.slice (ts.map encT)),.p (.slice (ins.map encT))] (.p (.bool (fitsO o ts ins))) []:=by
 apply zyz
 simp [zr9]
 refine ⟨fun hk=>?_,fun n3=>⟨fun hk=>?_,fun n4=>⟨fun hk=>?_,fun n5=>⟨fun hk=>?_,fun n8=>?_⟩⟩⟩⟩
 ·obtain ⟨u,r,rfl⟩:∃ u r,ts=u::r:=by
   match ts,h (.inl hk) with
   | u::r,_=>exact ⟨u,r,rfl⟩
  simp
  exact zg (by simp [fitsO,hk])
 ·(first | refine zn rfl ?_ | refine zl rfl ?_)
  (first | refine zx (zcs ts) ?_ | refine zq (zcs ts) ?_ | refine zr (zcs ts) ?_ | refine zd (zcs ts) rfl ?_ | refine zd (zcs ts) (by simp [AV.pur]; rfl) ?_)
  try simp
  exact zg (by simp [fitsO,hk,zvN])
 ·obtain ⟨u,r,rfl⟩:∃ u r,ts=u::r:=by
   match ts,h (.inr hk) with
   | u::r,_=>exact ⟨u,r,rfl⟩
  simp
  exact zg (by simp [fitsO,hk])
 ·(first | refine zn rfl ?_ | refine zl rfl ?_)
  (first | refine zx (zcs ins) ?_ | refine zq (zcs ins) ?_ | refine zr (zcs ins) ?_ | refine zd (zcs ins) rfl ?_ | refine zd (zcs ins) (by simp [AV.pur]; rfl) ?_)
  try simp
  exact zg (by simp [fitsO,hk,zvN])
 ·exact zg (by simp [fitsO,n3,n4,n5,n8])
theorem zC6 (o:Opr) (key:Ty) (ts ins:List Ty) (h:o.k=2∨o.k=4→0 < ts.length) (hi:o.k≠1→0 < ins.length):Abs.Fn Tryz.prog znw [] [.p (encO o),.p (encT key),.p (.slice (ts.map encT)),.p (.slice (ins.map encT))] (.p (encT (goesO o key ts ins))) []:=by
 apply zyB
 simp [zsa]
 refine ⟨fun hk=>zj (by simp [AV.pur,goesO,hk]),fun n1=>⟨fun hk=>?_,fun n2 n4=>⟨fun hk=>zj (by rcases hk with hk | hk <;> simp [AV.pur,goesO,hk]),fun n5 n6=>⟨fun hk=>zj (by simp [AV.pur,goesO,hk]),fun n7=>?_⟩⟩⟩⟩
 ·obtain ⟨u,r,rfl⟩:∃ u r,ts=u::r:=by
   match ts,h hk with
   | u::r,_=>exact ⟨u,r,rfl⟩
  simp
  exact zj (by rcases hk with hk | hk <;> simp [AV.pur,goesO,hk])
 ·obtain ⟨u,r,rfl⟩:∃ u r,ins=u::r:=by
   match ins,hi n1 with
   | u::r,_=>exact ⟨u,r,rfl⟩
  simp
  exact zj (by simp [AV.pur,goesO,n1,n2,n4,n5,n6,n7])
def esR (r:R (List Ty)):AV :=
 match r with
 | .er x=>.tup [.p (.slice []),.p (.int .i64 x)]
 | .ok l=>.tup [.p (.slice (l.map encT)),.p (.int .i64 0)]
theorem zA3 (t:Ty):∀ (a:List Ex) (i:Nat) (l:List Ty),(hi:i < a.length)→ckO t (a.take i)=.ok l→ckO t (a.take (i + 1))=match zaL a[i] t with
  | .er x=>.er x
  | .ok u=>.ok (l++[u])
 | [],i,l,hi,_=>by simp at hi
 | e::r,0,l,hi,h=>by
  simp only [List.take_zero,ckO] at h
  cases h
  simp only [List.take_succ_cons,List.take_zero,ckO,List.getElem_cons_zero]
  cases zaL e t <;> rfl
 | e::r,i + 1,l,hi,h=>by
  simp only [List.take_succ_cons,ckO] at h ⊢
  simp only [List.getElem_cons_succ]
  cases hc:zaL e t with
  | er x=>rw [hc] at h; simp at h
  | ok u =>
   rw [hc] at h
   simp only at h ⊢
   cases hr:ckO t (r.take i) with
   | er x=>rw [hr] at h; simp at h
   | ok m =>
    rw [hr] at h
    simp only at h
    cases h
    have hi':i < r.length:=by simpa using hi
    rw [zA3 t r i m hi' hr]
    cases zaL r[i] t <;> rfl
theorem zuO (t:Ty):∀ (a:List Ex) (i:Nat) (f:Int),ckO t (a.take i)=.er f→ckO t a=.er f
 | [],i,f,h=>by simp [ckO] at h
 | e::r,0,f,h=>by simp [ckO] at h
 | e::r,i + 1,f,h=>by
  simp only [List.take_succ_cons,ckO] at h ⊢
  cases hc:zaL e t with
  | er x=>rw [hc] at h; exact h
  | ok u =>
   rw [hc] at h
   simp only at h ⊢
   cases hr:ckO t (r.take i) with
   | ok m=>rw [hr] at h; simp at h
   | er x=>rw [hr] at h; rw [zuO t r i x hr]; exact h
theorem zv3 (t:Ty):∀ (a:List Ex) (l:List Ty),ckO t a=.ok l→l.length=a.length
 | [],l,h=>by simp only [ckO] at h; cases h; rfl
 | e::r,l,h=>by
  simp only [ckO] at h
  cases hc:zaL e t with
  | er x=>rw [hc] at h; simp at h
  | ok u =>
   rw [hc] at h
   simp only at h
   cases hr:ckO t r with
   | er x=>rw [hr] at h; simp at h
   | ok m=>rw [hr] at h; simp only at h; cases h; simp [zv3 t r m hr]
theorem zqo {e:Ex} {t:Ty} {f:Int} (h:zaL e t=.er f):f≠0:=by
 unfold zaL at h
 split at h
 ·cases h; decide
 ·split at h
  ·cases h; decide
  ·exact zv4 _ _ _ _ h
theorem zCH (t:Ty):∀ (a:List Ex) (f:Int),ckO t a=.er f→f≠0
 | [],f,h=>by simp [ckO] at h
 | e::r,f,h=>by
  simp only [ckO] at h
  cases hc:zaL e t with
  | er x=>rw [hc] at h; simp at h; exact h ▸ zqo hc
  | ok u =>
   rw [hc] at h
   simp only at h
   cases hr:ckO t r with
   | ok m=>rw [hr] at h; simp at h
   | er x=>rw [hr] at h; simp at h; exact h ▸ zCH t r x hr
theorem zFx (o:Opr) (t:Ty) (hes:∀ e∈o.es,We 1000000000 e∧sizeE e≤1000000000) (hl:o.es.length≤1000000):Abs.Fn Tryz.prog zr8 [] [.p (encO o),.p (encT t)] (esR (ckO t o.es)) []:=by
 apply zBK
 simp [zxu]
 intro hml
 refine zA (σ:=Nat×List Ty) (n:=3) (fun q=>[.own 2 (q.2.map encT),.p (.int .i64 q.1)]) (fun q=>[.box ((encO o).cells.map .p),.box [.p (.int .i64 t.kind),.p (.slice (t.of.map encT))],.row q.2.length 2])
  (fun q=>q.1≤o.es.length∧ckO t (o.es.take q.1)=.ok q.2∧q.2.length=q.1) (fun q=>o.es.length - q.1) [.slot 0 2] (0,[]) (fun _=>rfl) ⟨rfl,rfl⟩ ⟨by simp,by simp [ckO],rfl⟩ (fun q B hq hB=>?_)
 obtain ⟨i,l⟩:=q
 obtain ⟨g1,g2,g3⟩:=hq
 simp only at g1 g2 g3
 simp [zu3]
 refine ⟨fun hlt=>?_,fun hge=>?_⟩
 ·have hsn:=zA3 t o.es i l hlt g2
  have hc:=zuE o.es[i] t (hes _ (by simp)).1 (hes _ (by simp)).2
  simp [hlt]
  cases hr:zaL o.es[i] t with
  | er f =>
   rw [hr] at hsn hc
   have hf0:=zqo hr
   simp only [tyR] at hc
   (first | refine zn rfl ?_ | refine zl rfl ?_)
   (first | refine zx (hc) ?_ | refine zq (hc) ?_ | refine zr (hc) ?_ | refine zd (hc) rfl ?_ | refine zd (hc) (by simp [AV.pur]; rfl) ?_)
   try simp [R.num,R.get,hf0]
   rw [zuO _ _ _ _ hsn]
   exact zj (by simp [AV.pur,esR,toTs])
  | ok u =>
   rw [hr] at hsn hc
   simp only [tyR] at hc
   (first | refine zn rfl ?_ | refine zl rfl ?_)
   (first | refine zx (hc) ?_ | refine zq (hc) ?_ | refine zr (hc) ?_ | refine zd (hc) rfl ?_ | refine zd (hc) (by simp [AV.pur]; rfl) ?_)
   try simp [R.num,R.get]
   refine ⟨⟨?_,by simp,by simp; omega⟩, ?_⟩
   ·intro e he
    simp at he
    obtain ⟨x,_,rfl⟩:=he
    simp
   rw [IntWalk.i64_in _ (by omega)]
   refine cast (congrArg (fun x=>B x _) ?_) (hB (i + 1,l++[u]) _ ⟨by simp; omega,hsn,by simp; omega⟩ (by simp; omega) ?_ ?_ ?_ (by simp [AV.under,AV.under1]))
   ·simp
   ·simp
   ·simp [Ob.below,AV.under1]
   ·simp
 ·have:i=o.es.length:=by omega
  subst this
  rw [List.take_of_length_le (Nat.le_refl _)] at g2
  rw [g2]
  exact zj (by simp [AV.pur,esR,toTs])
end Go.Proofs.YtdmgbhamigegfaaGreatDoor
