/- Small expressions. No program in sight. -/
import Derived.Test.YtdmgbhamigegfaaGreatDoorZSpExpr
import Derived.Test.YtdmgbhamigegfaaGreatDoorZSpRowIQ

section
/- Small expressions. No program in sight. -/
set_option linter.unusedSimpArgs false
set_option linter.unusedVariables false
namespace Go.Proofs.YtdmgbhamigegfaaGreatDoor
open Go Go.Abs
abbrev eX:Ex:=.mk oX zeroV 0 []
abbrev eL (v:Va):Ex:=.mk oLit v 0 []
abbrev e2 (op:List UInt8) (a b:Ex):Ex:=.mk op zeroV 0 [a,b]
theorem we_x {n:Nat}:We n eX:=.mk _ _ _ _ (by simp) (by simp) (by simp)
theorem we_l {n:Nat} {v:Va} (h:Wv n v):We n (eL v):=.mk _ _ _ _ h (by simp) (by simp)
theorem we_2 {op:List UInt8} {a b:Ex} (ha:We 1000000000 a) (hb:We 1000000000 b):We 1000000000 (e2 op a b):=.mk _ _ _ _ (by simp) (by simp) (by simp [ha,hb])
end Go.Proofs.YtdmgbhamigegfaaGreatDoor
end

section
/- What the document's check of expressions answers, over trees. -/
set_option linter.unusedSimpArgs false
set_option linter.unusedVariables false
namespace Go.Proofs.YtdmgbhamigegfaaGreatDoor
open Go Go.Abs
theorem zdJ (op:List UInt8) (v:Va) (n:Int) (a:List Ex) (t:Ty) (d:Int):ckE (.mk op v n a) t d =
  if arE op = -2 then .er 6 else if 12 < d then .er 9 else if zqu op v n a.length=false then .er 1
  else if op=oLit then (if z2 v 0≠0 then .er (z2 v 0) else .ok (kindV v))
  else if op=oX then .ok t
  else match ckL a t (d + 1) with
   | .er e=>.er e
   | .ok l=>opT op n l:=by
 simp only [ckE]
 rfl
theorem zr0 (op:List UInt8) (v:Va) (n:Int) (m:Nat):zqu op v n m=((if arE op = -1 then decide (1≤m∧m≤8) else decide ((m:Int)=arE op)) && (decide (op=oAt) || decide (n=0)) && (decide (op=oLit) || nilV v)):=rfl
theorem zEm (op:List UInt8):arE op=0∨arE op=1∨arE op=2∨arE op=3∨arE op = -1∨arE op = -2:=by
 unfold arE
 grind
theorem zv5 (t:Ty) (d:Int):∀ (a:List Ex) (i:Nat) (l:List Ty),(hi:i < a.length)→ckL (a.take i) t d=.ok l→ckL (a.take (i + 1)) t d=match ckE a[i] t d with
  | .er f=>.er f
  | .ok u=>.ok (l++[u])
 | [],i,l,hi,h=>by simp at hi
 | e::r,0,l,hi,h=>by
  simp [ckL] at h
  subst h
  simp only [List.take_succ_cons,List.take_zero,ckL,List.getElem_cons_zero]
  cases ckE e t d <;> rfl
 | e::r,i + 1,l,hi,h=>by
  simp only [List.take_succ_cons,ckL] at h ⊢
  cases he:ckE e t d with
  | er f=>simp [he] at h
  | ok u =>
   simp only [he] at h ⊢
   cases hr:ckL (r.take i) t d with
   | er f=>simp [hr] at h
   | ok l' =>
    simp [hr] at h
    subst h
    have hi':i < r.length:=by simpa using hi
    rw [zv5 t d r i l' hi' hr]
    simp only [List.getElem_cons_succ]
    cases ckE r[i] t d <;> rfl
theorem zoP (t:Ty) (d:Int):∀ (a:List Ex) (i:Nat) (f:Int),ckL (a.take i) t d=.er f→ckL a t d=.er f
 | [],i,f,h=>by simp [ckL] at h
 | e::r,0,f,h=>by simp [ckL] at h
 | e::r,i + 1,f,h=>by
  simp only [List.take_succ_cons,ckL] at h ⊢
  cases he:ckE e t d with
  | er g=>simpa [he] using h
  | ok u =>
   simp only [he] at h ⊢
   cases hr:ckL (r.take i) t d with
   | er g =>
    simp [hr] at h
    subst h
    simp [zoP t d r i g hr]
   | ok l'=>simp [hr] at h
theorem opT_er' {op:List UInt8} {n:Int} {l:List Ty} {f:Int} (h:opT op n l=.er f):f≠0:=by
 unfold opT at h
 repeat' split at h
 all_goals first | (simp at h; omega) | simp at h
mutual
theorem zv4:∀ (e:Ex) (t:Ty) (d f:Int),ckE e t d=.er f→f≠0
 | .mk op v n a,t,d,f,h=>by
  rw [zdJ] at h
  split at h
  ·simp at h; omega
  split at h
  ·simp at h; omega
  split at h
  ·simp at h; omega
  split at h
  ·split at h
   ·rename_i hc; simp at h; omega
   ·simp at h
  split at h
  ·simp at h
  split at h
  ·rename_i g hg; simp at h; subst h; exact zFr a t (d + 1) _ hg
  ·exact opT_er' h
theorem zFr:∀ (a:List Ex) (t:Ty) (d f:Int),ckL a t d=.er f→f≠0
 | [],t,d,f,h=>by simp [ckL] at h
 | e::r,t,d,f,h=>by
  simp only [ckL] at h
  split at h
  ·rename_i g hg; simp at h; subst h; exact zv4 e t d _ hg
  ·split at h
   ·rename_i g hg; simp at h; subst h; exact zFr r t d _ hg
   ·simp at h
end
theorem zcu:∀ (e:Ex) (t:Ty) (d:Int) (_:0≤d) (_:d≤100) (_:We 1000000000 e),Abs.Fn Tryz.prog zdV [] [.p (encE e),.p (encT t),.p (.int .i64 d)] (tyR (ckE e t d)) []
 | .mk op v n a,t,d,hd0,hd1,he=>by
  have hla:a.length≤1000000000:=by cases he; assumption
  have hv:Wv 1000000000 v:=by cases he; assumption
  have hsub:∀ e∈a,We 1000000000 e:=by cases he; assumption
  apply zq7
  simp [ziF]
  (first | refine zn rfl ?_ | refine zl rfl ?_)
  (first | refine zx (zkq _) ?_ | refine zq (zkq _) ?_ | refine zr (zkq _) ?_ | refine zd (zkq _) rfl ?_ | refine zd (zkq _) (by simp [AV.pur]; rfl) ?_)
  try simp
  have hc:=zEm op
  refine ⟨fun h=>zC (by rw [zdJ,if_pos h]; simp [R.get,R.num]),fun har=>⟨fun h=>zC ?_,fun hd=>⟨fun h=>zC ?_,fun h1 h2=>?_⟩⟩⟩
  ·rw [zdJ,if_neg har,if_pos h]; simp [R.get,R.num]
  ·rw [zdJ,if_neg har,if_neg (by omega),if_pos]
   ·simp [R.get,R.num]
   ·rw [zr0]
    have:(if arE op = -1 then decide (1≤a.length∧a.length≤8) else decide ((a.length:Int)=arE op))=false:=by
     split
     ·simp; omega
     ·simp; omega
    simp only [this,Bool.false_and]
  ·have hok:ArOk op a.length:=by
    unfold ArOk
    split
    ·omega
    ·omega
   have hok':(if arE op = -1 then decide (1≤a.length∧a.length≤8) else decide ((a.length:Int)=arE op))=true:=by
    unfold ArOk at hok
    split
    ·rename_i h; rw [if_pos h] at hok; simpa using hok
    ·rename_i h; rw [if_neg h] at hok; simpa using hok
   have hfe:zqu op v n a.length=((decide (op=oAt) || decide (n=0)) && (decide (op=oLit) || nilV v)):=by
    rw [zr0,hok',Bool.true_and]
   refine zz (!decide (op=oLit) && !nilV v) (fun _=>zz (!nilV v) (fun _=>?_) ?_) ?_
   ·(first | refine zn rfl ?_ | refine zl rfl ?_)
    (first | refine zx (zi0 v) ?_ | refine zq (zi0 v) ?_ | refine zr (zi0 v) ?_ | refine zd (zi0 v) rfl ?_ | refine zd (zi0 v) (by simp [AV.pur]; rfl) ?_)
    try simp
   ·simp
   simp
   refine ⟨fun h=>zC ?_,fun h3 h4=>?_⟩
   ·rw [zdJ,if_neg har,if_neg (by omega),if_pos]
    ·simp [R.get,R.num]
    ·rw [hfe]
     have h:(¬op=oAt∧¬n=0)∨(¬op=oLit∧nilV v=false):=h
     rcases h with ⟨g1,g2⟩ | ⟨g1,g2⟩
     ·simp only [g1,g2,decide_false,Bool.or_self,Bool.false_and]
     ·simp only [g1,g2,decide_false,Bool.or_self,Bool.and_false]
   have hf:¬ zqu op v n a.length=false:=by
    rw [hfe]
    have h3:¬op=oAt→n=0:=h3
    have h4:¬op=oLit→nilV v=true:=h4
    by_cases g1:op=oAt <;> by_cases g2:op=oLit <;> simp_all
   refine ⟨fun h=>?_,fun hlit=>⟨fun h=>zC ?_,fun hX=>?_⟩⟩
   ·have hop:op=oLit:=h
    subst hop
    have hun:ckE (.mk oLit v n a) t d=if z2 v 0≠0 then .er (z2 v 0) else .ok (kindV v):=by
     rw [zdJ,if_neg har,if_neg (by omega),if_neg hf,if_pos rfl]
    (first | refine zn rfl ?_ | refine zl rfl ?_)
    (first | refine zx (zd6 v) ?_ | refine zq (zd6 v) ?_ | refine zr (zd6 v) ?_ | refine zd (zd6 v) rfl ?_ | refine zd (zd6 v) (by simp [AV.pur]; rfl) ?_)
    try simp
    refine ⟨fun h=>zC ?_,fun h=>?_⟩
    ·rw [hun,if_pos h]; simp [R.get,R.num]
    ·(first | refine zn rfl ?_ | refine zl rfl ?_)
     (first | refine zx (zhW hv) ?_ | refine zq (zhW hv) ?_ | refine zr (zhW hv) ?_ | refine zd (zhW hv) rfl ?_ | refine zd (zhW hv) (by simp [AV.pur]; rfl) ?_)
     try simp
     refine zC ?_
     rw [hun,if_neg (by simpa using h)]; simp [R.get,R.num]
   ·have hop:op=oX:=h
    subst hop
    rw [zdJ,if_neg har,if_neg (by omega),if_neg hf,if_neg (by decide),if_pos rfl]; simp [R.get,R.num]
   have hun:ckE (.mk op v n a) t d=match ckL a t (d + 1) with
     | .er e=>.er e
     | .ok l=>opT op n l:=by
    rw [zdJ,if_neg har,if_neg (by omega),if_neg hf,if_neg hlit,if_neg hX]
   refine zA (σ:=Nat×List Ty) (n:=4) (fun q=>[.own 3 (q.2.map encT),.p (.int .i64 q.1)])
    (fun q=>[.box [.p (.str op),.p (.int .i64 v.k),.p (.int .i64 v.i),.p (.bool v.b),.p (.str v.s),.p (.slice (v.t.map encV)),.p (.int .i64 n),.p (.slice (a.map encE))],.box [.p (.int .i64 t.kind),.p (.slice (t.of.map encT))],.box [.p (.int .i64 0),.full []],.row q.2.length 2])
    (fun q=>q.1≤a.length∧ckL (a.take q.1) t (d + 1)=.ok q.2∧q.2.length=q.1) (fun q=>a.length - q.1) [.slot 0 2] (0,[]) (fun _=>rfl) (by simp [zbo,ghost]) ⟨by simp,by simp [ckL],rfl⟩ (fun q B hq hB=>?_)
   obtain ⟨j,l⟩:=q
   obtain ⟨q1,q2,q3⟩:=hq
   simp only at q1 q2 q3
   simp [zj4]
   intro _
   refine ⟨fun hlt=>?_,fun hge=>?_⟩
   ·have hm:a[j]∈a:=by simp
    have hsn:=zv5 t (d + 1) a j l hlt q2
    simp [hlt]
    rw [IntWalk.i64_in _ (by omega)]
    (first | refine zn rfl ?_ | refine zl rfl ?_)
    (first | refine zx (zcu a[j] t (d + 1) (by omega) (by omega) (hsub _ hm)) ?_ | refine zq (zcu a[j] t (d + 1) (by omega) (by omega) (hsub _ hm)) ?_ | refine zr (zcu a[j] t (d + 1) (by omega) (by omega) (hsub _ hm)) ?_ | refine zd (zcu a[j] t (d + 1) (by omega) (by omega) (hsub _ hm)) rfl ?_ | refine zd (zcu a[j] t (d + 1) (by omega) (by omega) (hsub _ hm)) (by simp [AV.pur]; rfl) ?_)
    try simp [tyR]
    cases hck:ckE a[j] t (d + 1) with
    | er f =>
     have hne:=zv4 _ _ _ _ hck
     simp only [hck] at hsn
     have h5:=zoP t (d + 1) a (j + 1) f hsn
     simp [R.num,hne]
     rw [show ckE (.mk op v n a) t d=.er f from by rw [hun,h5]]
     exact zj (by simp [AV.pur,R.get,R.num])
    | ok u =>
     simp only [hck] at hsn
     simp [R.num,R.get]
     refine ⟨⟨by simp,by simp,by simp; omega⟩, ?_⟩
     rw [IntWalk.i64_in _ (by omega)]
     have:=hB (j + 1,l++[u]) [.box [.p (.str op),.p (.int .i64 v.k),.p (.int .i64 v.i),.p (.bool v.b),.p (.str v.s),.p (.slice (v.t.map encV)),.p (.int .i64 n),.p (.slice (a.map encE))],.box [.p (.int .i64 t.kind),.p (.slice (t.of.map encT))],.box [.p (.int .i64 0),.full []],.row (l++[u]).length 2,.box [.p (.int .i64 u.kind),.p (.slice (u.of.map encT))]]
      ⟨by simp; omega,hsn,by simp [q3]⟩ (by simp; omega) (by simp) (by simp [Ob.below,AV.under1]) (by simp) (by simp [AV.under,AV.under1])
     simpa using this
   ·have:j=a.length:=by omega
    subst this
    rw [List.take_of_length_le (Nat.le_refl _)] at q2
    have hlen:=zm4 a t (d + 1) l q2
    (first | refine zn rfl ?_ | refine zl rfl ?_)
    (first | refine zx (ziV op n l (by rw [hlen]; exact hok)) ?_ | refine zq (ziV op n l (by rw [hlen]; exact hok)) ?_ | refine zr (ziV op n l (by rw [hlen]; exact hok)) ?_ | refine zd (ziV op n l (by rw [hlen]; exact hok)) rfl ?_ | refine zd (ziV op n l (by rw [hlen]; exact hok)) (by simp [AV.pur]; rfl) ?_)
    try simp [tyR]
    rw [hun,q2]
    exact zj (by simp [AV.pur])
termination_by e=>SizeOf.sizeOf e
decreasing_by
 have:=List.sizeOf_lt_of_mem hm
 simp
 omega
theorem zju (e:Ex) (t:Ty) (he:We 1000000000 e) (hs:sizeE e≤1000000000):Abs.Fn Tryz.prog zco [] [.p (encE e),.p (encT t)] (tyR (zaL e t)) []:=by
 apply zmQ
 simp [zfd]
 (first | refine zn rfl ?_ | refine zl rfl ?_)
 (first | refine zx (zaq t) ?_ | refine zq (zaq t) ?_ | refine zr (zaq t) ?_ | refine zd (zaq t) rfl ?_ | refine zd (zaq t) (by simp [AV.pur]; rfl) ?_)
 try simp
 refine ⟨fun h=>zC (by simp [zaL,h,R.get,R.num]),fun h=>?_⟩
 (first | refine zn rfl ?_ | refine zl rfl ?_)
 (first | refine zx (zdc e hs) ?_ | refine zq (zdc e hs) ?_ | refine zr (zdc e hs) ?_ | refine zd (zdc e hs) rfl ?_ | refine zd (zdc e hs) (by simp [AV.pur]; rfl) ?_)
 try simp
 refine ⟨fun h2=>zC ?_,fun h2=>?_⟩
 ·simp only [zaL]; rw [if_neg (by simpa using h),if_pos (by omega)]; simp [R.get,R.num]
 ·(first | refine zn rfl ?_ | refine zl rfl ?_)
  (first | refine zx (zcu e t 0 (by omega) (by omega) he) ?_ | refine zq (zcu e t 0 (by omega) (by omega) he) ?_ | refine zr (zcu e t 0 (by omega) (by omega) he) ?_ | refine zd (zcu e t 0 (by omega) (by omega) he) rfl ?_ | refine zd (zcu e t 0 (by omega) (by omega) he) (by simp [AV.pur]; rfl) ?_)
  try simp [tyR]
  simp only [zaL]; rw [if_neg (by simpa using h),if_neg (by omega)]
  exact zj (by simp [AV.pur])
end Go.Proofs.YtdmgbhamigegfaaGreatDoor
end

section
/- What the package expr answers, over trees. -/
set_option linter.unusedSimpArgs false
set_option linter.unusedVariables false
namespace Go.Proofs.YtdmgbhamigegfaaGreatDoor
open Go Go.Abs
attribute [local irreducible] Abs.Fn
theorem zhh (v:Va) (h:z2 v 0=0→Wv 1000000000 v):Abs.Fn Tryz.prog znN [] [.p (encV v)] (.p (encT (zqE v))) []:=by
 apply zyK
 simp [zsw]
 (first | refine zn rfl ?_ | refine zl rfl ?_)
 (first | refine zx (zbT v) ?_ | refine zq (zbT v) ?_ | refine zr (zbT v) ?_ | refine zd (zbT v) rfl ?_ | refine zd (zbT v) (by simp [AV.pur]; rfl) ?_)
 try simp
 refine ⟨fun hc=>zj (by simp [AV.pur,zqE,hc]),fun hc=>?_⟩
 (first | refine zn rfl ?_ | refine zl rfl ?_)
 (first | refine zx (zkn (h hc)) ?_ | refine zq (zkn (h hc)) ?_ | refine zr (zkn (h hc)) ?_ | refine zd (zkn (h hc)) rfl ?_ | refine zd (zkn (h hc)) (by simp [AV.pur]; rfl) ?_)
 try simp
 exact zj (by simp [AV.pur,zqE,hc])
def encSh (s:Sh):T:=.agg [.int .i64 s.least,.int .i64 s.most,.slice (s.of.map (.int .i64)),.bool s.alike,.int .i64 s.out]
def encSp (p:List UInt8×Sh):T:=.agg [.str p.1,.int .i64 p.2.least,.int .i64 p.2.most,.slice (p.2.of.map (.int .i64)),.bool p.2.alike,.int .i64 p.2.out]
def findS (o:Option Sh):AV :=
 match o with
 | some s=>.tup [.p (encSh s),.p (.bool true)]
 | none=>.tup [.p (encSh noSh),.p (.bool false)]
set_option maxRecDepth 100000 in
set_option maxHeartbeats 1000000 in
theorem zjo:Abs.Fn Tryz.prog zlV [] [] (.p (.slice (shL.map encSp))) []:=by
 apply zwZ
 simp [zpt]
 exact zj (by simp [AV.pur,shL,encSp,numSh,askSh,zoM,noSh])
theorem zBm (l:List (List UInt8×Sh)) (name:List UInt8):Abs.Fn Tryz.prog zbV [] [.p (.slice (l.map encSp)),.p (.str name)] (findS (lookS name l)) []:=by
 apply zim
 simp [zcn]
 intro hl
 refine zA (σ:=Nat) (n:=1) (fun i=>[.p (.int .i64 i)]) (fun _=>[.box [.p (.int .i64 0),.p (.int .i64 0),.full [],.p (.bool false),.p (.int .i64 0)]]) (fun i=>i≤l.length∧lookS name (l.drop i)=lookS name l) (fun i=>l.length - i) [] 0 (fun _=>rfl) ⟨rfl,rfl⟩ (by simp) (fun i B hi hB=>?_)
 obtain ⟨h1,h2⟩:=hi
 simp [zdv]
 refine ⟨fun hlt=>?_,fun hge=>?_⟩
 ·have hd:=zDf name l i hlt
  rw [h2] at hd
  simp [hlt,encSp]
  refine ⟨fun hz=>?_,fun hz=>?_⟩
  ·rw [hd,if_pos hz]
   exact zj (by simp [AV.pur,findS,encSh])
  ·rw [IntWalk.i64_in _ (by simp [maxLen] at hl; omega)]
   exact hB (i + 1) _ ⟨by omega,by simp [hd,hz]⟩ (by omega) (by simp) (by simp [Ob.below,AV.under1]) (by simp) (by simp [AV.under,AV.under1])
 ·have:i=l.length:=by omega
  subst this
  rw [← h2]
  simp [lookS,findS]
  exact zj (by simp [AV.pur,encSh,noSh])
theorem zmA (v:Va):Abs.Fn Tryz.prog zps [] [.p (encV v)] (.p (.bool (nilV v))) []:=by
 apply zzO
 simp [ztY]
 (first | refine zn rfl ?_ | refine zl rfl ?_)
 (first | refine zx (zcU v zeroV) ?_ | refine zq (zcU v zeroV) ?_ | refine zr (zcU v zeroV) ?_ | refine zd (zcU v zeroV) rfl ?_ | refine zd (zcU v zeroV) (by simp [AV.pur]; rfl) ?_)
 try simp
 exact zg (by simp [nilV])
def zna (s:Sh) (op:List UInt8) (v:Va) (n:Int) (m:Nat):Bool:=decide (s.least≤m) && decide ((m:Int)≤s.most) && (decide (op=oLit) || nilV v) && (decide (op=oAt) || decide (n=0))
theorem zBl (op:List UInt8) (v:Va) (n:Int) (a:List Ex) (s:Sh):Abs.Fn Tryz.prog zgD [] [.p (encE (.mk op v n a)),.p (encSh s)] (.p (.bool (zna s op v n a.length))) []:=by
 apply zqJ
 simp [zik,encSh]
 intro _
 refine zz (decide (op=oLit) || nilV v) (fun _=>zz (nilV v) (fun _=>?_) (by simp)) ?_
 ·(first | refine zn rfl ?_ | refine zl rfl ?_)
  (first | refine zx (zmA v) ?_ | refine zq (zmA v) ?_ | refine zr (zmA v) ?_ | refine zd (zmA v) rfl ?_ | refine zd (zmA v) (by simp [AV.pur]; rfl) ?_)
  try simp [encSh]
 ·simp
  exact zg (by simp [zna])
theorem zEE (s:Sh) (l:List Ty) (h:s.of.length≤l.length) (h2:s.alike=true→2≤l.length) (hb:l.length≤1000000000):Abs.Fn Tryz.prog zpr [] [.p (encSh s),.p (.slice (l.map encT))] (.p (.bool (fitsS s l))) []:=by
 apply zzM
 simp [ztX,encSh]
 intro hl
 refine zA (σ:=Nat) (n:=1) (fun i=>[.p (.int .i64 i)]) (fun _=>[.box [.p (.int .i64 s.least),.p (.int .i64 s.most),.p (.slice (s.of.map (.int .i64))),.p (.bool s.alike),.p (.int .i64 s.out)]]) (fun i=>i≤s.of.length∧fitsK (s.of.drop i) (l.drop i)=fitsK s.of l) (fun i=>s.of.length - i) [] 0 (fun _=>rfl) ⟨rfl,rfl⟩ (by simp) (fun i B hi hB=>?_)
 obtain ⟨g1,g2⟩:=hi
 simp [zsQ]
 refine ⟨fun hlt=>?_,fun hge=>?_⟩
 ·have hlt':i < l.length:=by omega
  have hd:=zCZ s.of l i hlt hlt'
  rw [g2] at hd
  simp [hlt,hlt']
  refine ⟨fun hz hk=>zg ?_,fun hz=>?_⟩
  ·simp [fitsS,hd,hz,hk]
  ·rw [IntWalk.i64_in _ (by simp [maxLen] at hl; omega)]
   refine hB (i + 1) _ ⟨by omega, ?_⟩ (by omega) (by simp) (by simp [Ob.below,AV.under1]) (by simp) (by simp [AV.under,AV.under1])
   rw [hd]
   by_cases hk:s.of[i]=0 <;> simp [hk]
   simp [hz hk]
 ·have:i=s.of.length:=by omega
  subst this
  have hk:fitsK s.of l=true:=by rw [← g2]; simp [fitsK]
  refine ⟨fun ha=>zg (by simp [fitsS,hk,ha]),fun ha=>?_⟩
  have h2':=h2 ha
  rw [IntWalk.i64_in _ (by omega),IntWalk.i64_in _ (by omega)]
  have e1:((l.length:Int) - 1).toNat=l.length - 1:=by omega
  have e2:((l.length:Int) - 2).toNat=l.length - 2:=by omega
  have e3:l.length - 1 < l.length:=by omega
  have e4:l.length - 2 < l.length:=by omega
  simp [e1,e2,e3,e4]
  refine ⟨by simp [maxLen]; omega,by omega,by simp [maxLen]; omega,by omega, ?_⟩
  (first | refine zn rfl ?_ | refine zl rfl ?_)
  (first | refine zx (zcX _ _) ?_ | refine zq (zcX _ _) ?_ | refine zr (zcX _ _) ?_ | refine zd (zcX _ _) rfl ?_ | refine zd (zcX _ _) (by simp [AV.pur]; rfl) ?_)
  try simp
  exact zg (by simp [fitsS,hk,ha,e3,e4])
theorem zCJ (op:List UInt8) (v:Va) (n:Int) (a:List Ex) (s:Sh) (l:List Ty) (t:Ty) (hv:op=oLit→Wv 1000000000 v) (h1:op=oAt→1≤l.length) (h2:op=oIf→2≤l.length) (hm:op=oAt→(l.getD 0 (.mk 0 [])).of.length≤1000000000) :
  Abs.Fn Tryz.prog zhr [] [.p (encE (.mk op v n a)),.p (encSh s),.p (.slice (l.map encT)),.p (encT t)] (tyR (if op=oLit then .ok (zqE v) else if op=oX then .ok t else zds op n s.out l)) []:=by
 apply zrY
 simp [zjx,encSh]
 refine ⟨fun hop=>?_,fun hlit=>⟨fun hop=>?_,fun hX=>⟨fun hop=>?_,fun hat=>⟨fun hop=>?_,fun htup=>⟨fun hop=>?_,fun hif=>?_⟩⟩⟩⟩⟩
 ·have hop:op=oLit:=hop
  rw [if_pos hop]
  (first | refine zn rfl ?_ | refine zl rfl ?_)
  (first | refine zx (zhh v (fun _=>hv hop)) ?_ | refine zq (zhh v (fun _=>hv hop)) ?_ | refine zr (zhh v (fun _=>hv hop)) ?_ | refine zd (zhh v (fun _=>hv hop)) rfl ?_ | refine zd (zhh v (fun _=>hv hop)) (by simp [AV.pur]; rfl) ?_)
  try simp
  exact zC (by simp [R.get,R.num])
 ·have hop:op=oX:=hop
  rw [if_neg hlit,if_pos hop]
  exact zC (by simp [R.get,R.num])
 ·have hop:op=oAt:=hop
  rw [if_neg hlit,if_neg hX]
  have hl:=h1 hop
  have hm:=hm hop
  obtain ⟨u,r,rfl⟩:∃ u r,l=u::r:=by
   match l,hl with
   | u::r,_=>exact ⟨u,r,rfl⟩
  simp at hm
  simp
  refine ⟨fun hn=>zC ?_,fun hn=>⟨by simp [maxLen]; omega,fun hge=>zC ?_,fun hlt=>?_⟩⟩
  ·simp only [zds]
   rw [if_pos hop,if_pos (.inl hn)]
   simp [R.get,R.num]
  ·simp only [zds]
   rw [if_pos hop,if_pos (.inr (by simpa using hge))]
   simp [R.get,R.num]
  ·have e1:n.toNat < u.of.length:=by omega
   simp [e1]
   refine ⟨by omega,zC ?_⟩
   simp only [zds]
   rw [if_pos hop,if_neg (by simp; omega)]
   simp [R.get,R.num,e1]
 ·have hop:op=oTup:=hop
  subst hop
  (first | refine zn rfl ?_ | refine zl rfl ?_)
  (first | refine zx (za4 _) ?_ | refine zq (za4 _) ?_ | refine zr (za4 _) ?_ | refine zd (za4 _) rfl ?_ | refine zd (za4 _) (by simp [AV.pur]; rfl) ?_)
  try simp
  refine ⟨fun h=>zC ?_,fun h=>zC ?_⟩
  ·simp [zds,h,R.get,R.num]
  ·simp [zds,h,R.get,R.num]
 ·have hop:op=oIf:=hop
  subst hop
  have hl:=h2 rfl
  have e1:1 < l.length:=by omega
  simp [e1]
  exact ⟨by omega,zC (by simp [zds,R.get,R.num,e1])⟩
 ·refine zC ?_
  have g3:op≠oAt:=hat
  have g4:op≠oTup:=htup
  have g5:op≠oIf:=hif
  rw [if_neg hlit,if_neg hX]
  simp only [zds]
  rw [if_neg g3,if_neg g4,if_neg g5]
  simp [R.get,R.num]
theorem zkx (l:List Ty):Abs.Fn Tryz.prog zbD [] [.p (.slice (l.map encT))] (.p (.slice (l.map encT))) []:=by
 apply zhT
 simp [zb2]
 intro _
 simp [zbU,zih]
 exact zj (by simp [AV.pur,List.take_of_length_le])
theorem zei:∀ (e:Ex) (_:sizeE e≤1000000000),Abs.Fn Tryz.prog zlm [] [.p (encE e)] (.p (.int .i64 (sizeE e))) []
 | .mk op v n a,hs=>by
  apply zzK
  simp [ztW]
  intro _
  simp only [sizeE] at hs
  refine zA (σ:=Nat×Nat) (n:=1) (fun q=>[.p (.int .i64 q.2),.p (.int .i64 q.1)]) (fun q=>[.box [.p (.str op),.p (.int .i64 v.k),.p (.int .i64 v.i),.p (.bool v.b),.p (.str v.s),.p (.slice (v.t.map encV)),.p (.int .i64 n),.p (.slice (a.map encE))]])
   (fun q=>q.1≤a.length∧q.2 + zep (a.drop q.1)=1 + zep a) (fun q=>a.length - q.1) [] (0,1) (fun _=>rfl) ⟨rfl,rfl⟩ ⟨by simp,by simp⟩ (fun q B hq hB=>?_)
  obtain ⟨j,m⟩:=q
  obtain ⟨g1,g2⟩:=hq
  simp only at g1 g2
  simp [zsP]
  refine ⟨fun hlt=>?_,fun hge=>zg ?_⟩
  ·have hm:a[j]∈a:=by simp
   have hd:=zu8 a j hlt
   simp [hlt]
   (first | refine zn rfl ?_ | refine zl rfl ?_)
   (first | refine zx (zei a[j] (by omega)) ?_ | refine zq (zei a[j] (by omega)) ?_ | refine zr (zei a[j] (by omega)) ?_ | refine zd (zei a[j] (by omega)) rfl ?_ | refine zd (zei a[j] (by omega)) (by simp [AV.pur]; rfl) ?_)
   try simp
   rw [IntWalk.i64_in _ (by omega),IntWalk.i64_in _ (by simp [maxLen] at *; omega)]
   exact hB (j + 1,m + sizeE a[j]) _ ⟨by simp; omega,by simp; omega⟩ (by simp; omega) (by simp) (by simp [Ob.below,AV.under1]) (by simp) (by simp [AV.under,AV.under1])
  ·rw [List.drop_of_length_le hge] at g2
   simp [zep] at g2
   simp [sizeE,g2]
termination_by e=>SizeOf.sizeOf e
decreasing_by
 have:=List.sizeOf_lt_of_mem hm
 simp
 omega
theorem zw1 {op:List UInt8} {s:Sh} (hs:lookS op shL=some s) (v:Va) (n:Int) (m:Nat):zqu op v n m=zna s op v n m∧(zna s op v n m=true→ArOk' s m):=by
 have key:(if arE op = -1 then decide (1≤m∧m≤8) else decide ((m:Int)=arE op))=(decide (s.least≤m) && decide ((m:Int)≤s.most)):=by
  rcases zlr op with ⟨h,_⟩ | ⟨rfl,h⟩ | ⟨rfl,h⟩ | ⟨rfl,h⟩ | ⟨rfl,h⟩ | ⟨rfl,h⟩ | ⟨rfl,h⟩ | ⟨rfl,h⟩ | ⟨hop',h⟩ | ⟨hop',h⟩ | ⟨hop',h⟩ | ⟨rfl,h⟩ | ⟨rfl,h⟩ <;> rw [hs] at h
  ·simp at h
  case inr.inr.inr.inr.inr.inr.inr.inr.inl =>
   simp at h; subst h
   rcases hop' with rfl | rfl | rfl | rfl | rfl <;> (simp [arE,numSh]; grind)
  case inr.inr.inr.inr.inr.inr.inr.inr.inr.inl =>
   simp at h; subst h
   rcases hop' with rfl | rfl <;> (simp [arE,askSh]; grind)
  case inr.inr.inr.inr.inr.inr.inr.inr.inr.inr.inl =>
   simp at h; subst h
   rcases hop' with rfl | rfl <;> (simp [arE,zoM]; grind)
  all_goals
   simp at h
   subst h
   simp [arE,noSh]
   try grind
 constructor
 ·rw [zr0,key]
  simp only [zna]
  generalize (decide (s.least≤m) && decide ((m:Int)≤s.most))=x
  generalize (decide (op=oLit) || nilV v)=y
  generalize (decide (op=oAt) || decide (n=0))=z
  cases x <;> cases y <;> cases z <;> rfl
 ·intro h
  simp only [zna,Bool.and_eq_true,decide_eq_true_eq] at h
  exact ⟨h.1.1.1,h.1.1.2⟩
theorem sh_of {op:List UInt8} {s:Sh} (hs:lookS op shL=some s):(s.of.length:Int)≤s.least∧(s.alike=true→2≤s.least)∧(op=oAt→s.least=1)∧(op=oIf→s.least=3)∧arE op ≠ -2∧((op=oLit∨op=oX)→s.most=0∧s=noSh):=by
 rcases zlr op with ⟨h,_⟩ | ⟨rfl,h⟩ | ⟨rfl,h⟩ | ⟨rfl,h⟩ | ⟨rfl,h⟩ | ⟨rfl,h⟩ | ⟨rfl,h⟩ | ⟨rfl,h⟩ | ⟨hop',h⟩ | ⟨hop',h⟩ | ⟨hop',h⟩ | ⟨rfl,h⟩ | ⟨rfl,h⟩ <;> rw [hs] at h
 ·simp at h
 case inr.inr.inr.inr.inr.inr.inr.inr.inl =>
  simp at h; subst h
  rcases hop' with rfl | rfl | rfl | rfl | rfl <;> simp [arE,numSh]
 case inr.inr.inr.inr.inr.inr.inr.inr.inr.inl =>
  simp at h; subst h
  rcases hop' with rfl | rfl <;> simp [arE,askSh]
 case inr.inr.inr.inr.inr.inr.inr.inr.inr.inr.inl =>
  simp at h; subst h
  rcases hop' with rfl | rfl <;> simp [arE,zoM]
 all_goals
  simp at h
  subst h
  simp [arE,noSh]
theorem ckE_sh (op:List UInt8) (v:Va) (n:Int) (a:List Ex) (t:Ty) (d:Int) (ht:zI t 0=0):ckE (.mk op v n a) t d=match lookS op shL with
  | none=>.er 6
  | some s=>if 12 < d then .er 9 else if zna s op v n a.length=false then .er 1
   else if op=oLit∧z2 v 0≠0 then .er (z2 v 0)
   else match ckL a t (d + 1) with
    | .er e=>.er e
    | .ok l=>if fitsS s l=false then .er 5 else if op=oLit then .ok (zqE v) else if op=oX then .ok t else zds op n s.out l:=by
 rw [zdJ]
 cases hs:lookS op shL with
 | none =>
  rcases zlr op with ⟨_,h⟩ | h | h | h | h | h | h | h | h | h | h | h | h
  ·rw [if_pos h]
  all_goals (rw [h.2] at hs; simp at hs)
 | some s =>
  obtain ⟨h1,h2,h3,h4,h5,h6⟩:=sh_of hs
  obtain ⟨f1,f2⟩:=zw1 hs v n a.length
  rw [if_neg h5,f1]
  simp only
  split
  ·rfl
  split
  ·rfl
  rename_i hf
  have ha:=f2 (by simpa using hf)
  by_cases hlit:op=oLit
  ·obtain ⟨m0,rfl⟩:=h6 (.inl hlit)
   have ha0:a=[]:=by
    have:=ha.2
    rw [m0] at this
    exact List.eq_nil_of_length_eq_zero (by omega)
   subst ha0
   rw [if_pos hlit]
   by_cases hc:z2 v 0=0
   ·simp [hlit,hc,ckL,fitsS,noSh,fitsK,zqE]
   ·simp [hlit,hc]
  ·rw [if_neg hlit,if_neg (show ¬ (op=oLit∧z2 v 0≠0) from fun h=>hlit h.1)]
   by_cases hX:op=oX
   ·obtain ⟨m0,rfl⟩:=h6 (.inr hX)
    have ha0:a=[]:=by
     have:=ha.2
     rw [m0] at this
     exact List.eq_nil_of_length_eq_zero (by omega)
    subst ha0
    rw [if_pos hX]
    simp [hX,ckL,fitsS,noSh,fitsK]
   ·rw [if_neg hX]
    cases hl:ckL a t (d + 1) with
    | er e=>rfl
    | ok l =>
     simp only
     rw [opT_sh hs n l ⟨hlit,hX⟩ (by rw [zm4 a t (d + 1) l hl]; exact ha) (zqp a t (d + 1) l hl ht),if_neg hlit,if_neg hX]
theorem zEu {t:Ty} (h:zI t 0=0):t.of.length≤8:=by
 obtain ⟨k,of⟩:=t
 simp only [zI] at h
 simp
 unfold rowE at h
 split at h
 ·split at h
  ·rename_i h0; simp [h0]
  ·simp at h
 split at h
 ·grind
 ·simp at h
set_option maxHeartbeats 1000000 in
theorem zuL:∀ (e:Ex) (t:Ty) (d:Int) (_:0≤d) (_:d≤100) (_:We 1000000000 e) (_:zI t 0=0),Abs.Fn Tryz.prog zke [] [.p (encE e),.p (encT t),.p (.int .i64 d)] (tyR (ckE e t d)) []
 | .mk op v n a,t,d,hd0,hd1,he,ht=>by
  have hla:a.length≤1000000000:=by cases he; assumption
  have hv:Wv 1000000000 v:=by cases he; assumption
  have hsub:∀ e∈a,We 1000000000 e:=by cases he; assumption
  apply zyt
  simp [zrZ]
  (first | refine zn rfl ?_ | refine zl rfl ?_)
  (first | refine zx (zjo) ?_ | refine zq (zjo) ?_ | refine zr (zjo) ?_ | refine zd (zjo) rfl ?_ | refine zd (zjo) (by simp [AV.pur]; rfl) ?_)
  try simp
  have hun:=ckE_sh op v n a t d ht
  have hfs:=zBm shL op
  cases hs:lookS op shL with
  | none =>
   rw [hs] at hun hfs
   (first | refine zn rfl ?_ | refine zl rfl ?_)
   (first | refine zx (hfs) ?_ | refine zq (hfs) ?_ | refine zr (hfs) ?_ | refine zd (hfs) rfl ?_ | refine zd (hfs) (by simp [AV.pur]; rfl) ?_)
   try simp [encSh,noSh]
   refine zC ?_
   rw [hun]; simp [R.get,R.num]
  | some s =>
   rw [hs] at hun hfs
   obtain ⟨h1,h2,h3,h4,h5,h6⟩:=sh_of hs
   simp only at hun
   (first | refine zn rfl ?_ | refine zl rfl ?_)
   (first | refine zx (hfs) ?_ | refine zq (hfs) ?_ | refine zr (hfs) ?_ | refine zd (hfs) rfl ?_ | refine zd (hfs) (by simp [AV.pur]; rfl) ?_)
   try simp [encSh]
   refine ⟨fun h=>zC ?_,fun hd=>?_⟩
   ·rw [hun,if_pos h]; simp [R.get,R.num]
   have hd:¬ 12 < d:=by omega
   rw [if_neg hd] at hun
   have hfd:=zBl op v n a s
   simp only [encSh] at hfd
   (first | refine zn rfl ?_ | refine zl rfl ?_)
   (first | refine zx (hfd) ?_ | refine zq (hfd) ?_ | refine zr (hfd) ?_ | refine zd (hfd) rfl ?_ | refine zd (hfd) (by simp [AV.pur]; rfl) ?_)
   try simp
   refine ⟨fun h=>zC ?_,fun hf=>?_⟩
   ·rw [hun,if_pos h]; simp [R.get,R.num]
   rw [if_neg (by simp [hf])] at hun
   have ha:=(zw1 hs v n a.length).2 hf
   -- what comes behind
   have rest:(op=oLit→z2 v 0=0)→ziS (.p (.int .i64 d)) (.bptr 0 0) (.bptr 1 0) (.bptr 2 0) (.bptr 3 0)
     [.box [.p (.str op),.p (.int .i64 v.k),.p (.int .i64 v.i),.p (.bool v.b),.p (.str v.s),.p (.slice (v.t.map encV)),.p (.int .i64 n),.p (.slice (a.map encE))],.box [.p (.int .i64 t.kind),.p (.slice (t.of.map encT))],.box [.p (.int .i64 0),.full []],
      .box [.p (.int .i64 s.least),.p (.int .i64 s.most),.p (.slice (s.of.map (.int .i64))),.p (.bool s.alike),.p (.int .i64 s.out)]] (fun u H'=>Gives 0 u H' (tyR (ckE (.mk op v n a) t d)) []):=by
    intro hlv
    rw [if_neg (fun h=>h.2 (hlv h.1))] at hun
    simp [ziS]
    intro _
    refine zA (σ:=Nat×List Ty) (n:=5) (fun q=>[.own 4 (q.2.map encT),.p (.int .i64 q.1)])
     (fun q=>[.box [.p (.str op),.p (.int .i64 v.k),.p (.int .i64 v.i),.p (.bool v.b),.p (.str v.s),.p (.slice (v.t.map encV)),.p (.int .i64 n),.p (.slice (a.map encE))],.box [.p (.int .i64 t.kind),.p (.slice (t.of.map encT))],.box [.p (.int .i64 0),.full []],
      .box [.p (.int .i64 s.least),.p (.int .i64 s.most),.p (.slice (s.of.map (.int .i64))),.p (.bool s.alike),.p (.int .i64 s.out)],.row q.2.length 2])
     (fun q=>q.1≤a.length∧ckL (a.take q.1) t (d + 1)=.ok q.2∧q.2.length=q.1) (fun q=>a.length - q.1) [.slot 0 2] (0,[]) (fun _=>rfl) (by simp [zbo,ghost]) ⟨by simp,by simp [ckL],rfl⟩ (fun q B hq hB=>?_)
    obtain ⟨j,l⟩:=q
    obtain ⟨q1,q2,q3⟩:=hq
    simp only at q1 q2 q3
    simp [zrl]
    refine ⟨fun hlt=>?_,fun hge=>?_⟩
    ·have hm:a[j]∈a:=by simp
     have hsn:=zv5 t (d + 1) a j l hlt q2
     simp [hlt]
     rw [IntWalk.i64_in _ (by omega)]
     have hrec:=zuL a[j] t (d + 1) (by omega) (by omega) (hsub _ hm) ht
     cases hck:ckE a[j] t (d + 1) with
     | er f =>
      rw [hck] at hrec
      simp only [tyR] at hrec
      have hne:=zv4 _ _ _ _ hck
      simp only [hck] at hsn
      have h5:=zoP t (d + 1) a (j + 1) f hsn
      (first | refine zn rfl ?_ | refine zl rfl ?_)
      (first | refine zx (hrec) ?_ | refine zq (hrec) ?_ | refine zr (hrec) ?_ | refine zd (hrec) rfl ?_ | refine zd (hrec) (by simp [AV.pur]; rfl) ?_)
      try simp [R.num,R.get,hne]
      refine zC ?_
      rw [hun,h5]
      simp [R.get,R.num]
     | ok u =>
      rw [hck] at hrec
      simp only [tyR] at hrec
      simp only [hck] at hsn
      (first | refine zn rfl ?_ | refine zl rfl ?_)
      (first | refine zx (hrec) ?_ | refine zq (hrec) ?_ | refine zr (hrec) ?_ | refine zd (hrec) rfl ?_ | refine zd (hrec) (by simp [AV.pur]; rfl) ?_)
      try simp [R.num,R.get]
      refine ⟨⟨by simp,by simp,by simp; omega⟩, ?_⟩
      rw [IntWalk.i64_in _ (by omega)]
      refine cast (congrArg (fun x=>B x _) ?_) (hB (j + 1,l++[u]) _ ⟨by simp; omega,hsn,by simp [q3]⟩ (by simp; omega) ?_ ?_ ?_ (by simp [AV.under,AV.under1]))
      ·simp
      ·simp
      ·simp [Ob.below,AV.under1]
      ·simp
    ·have:j=a.length:=by omega
     subst this
     rw [List.take_of_length_le (Nat.le_refl _)] at q2
     have hlen:=zm4 a t (d + 1) l q2
     rw [q2] at hun
     simp only at hun
     have hft:=zEE s l (by have:=ha.1; omega) (fun h=>by have:=h2 h; have:=ha.1; omega) (by omega)
     simp only [encSh] at hft
     (first | refine zn rfl ?_ | refine zl rfl ?_)
     (first | refine zx (hft) ?_ | refine zq (hft) ?_ | refine zr (hft) ?_ | refine zd (hft) rfl ?_ | refine zd (hft) (by simp [AV.pur]; rfl) ?_)
     try simp
     refine ⟨fun h=>zC ?_,fun h=>?_⟩
     ·rw [hun,if_pos h]; simp [R.get,R.num]
     ·rw [if_neg (by simp [h])] at hun
      (first | refine zn rfl ?_ | refine zl rfl ?_)
      (first | refine zx (zkx l) ?_ | refine zq (zkx l) ?_ | refine zr (zkx l) ?_ | refine zd (zkx l) rfl ?_ | refine zd (zkx l) (by simp [AV.pur]; rfl) ?_)
      try simp
      have hcm:=zCJ op v n a s l t (fun _=>hv) (fun h=>by have:=h3 h; have:=ha.1; omega) (fun h=>by have:=h4 h; have:=ha.1; omega) (fun h=>?_)
      ·simp only [encSh] at hcm
       rw [← hun] at hcm
       simp only [tyR] at hcm
       (first | refine zn rfl ?_ | refine zl rfl ?_)
       (first | refine zx (hcm) ?_ | refine zq (hcm) ?_ | refine zr (hcm) ?_ | refine zd (hcm) rfl ?_ | refine zd (hcm) (by simp [AV.pur]; rfl) ?_)
       try simp
       exact zj (by simp [AV.pur,tyR])
      ·match l with
       | []=>simp
       | u::r =>
        have:=zEu (zqp a t (d + 1) _ q2 ht u (by simp))
        simp
        omega
   refine ⟨fun hop=>?_,fun hlit=>rest (fun h=>absurd h hlit)⟩
   have hop:op=oLit:=hop
   (first | refine zn rfl ?_ | refine zl rfl ?_)
   (first | refine zx (zbT v) ?_ | refine zq (zbT v) ?_ | refine zr (zbT v) ?_ | refine zd (zbT v) rfl ?_ | refine zd (zbT v) (by simp [AV.pur]; rfl) ?_)
   try simp
   refine ⟨fun h=>zC ?_,fun h=>rest (fun _=>h)⟩
   rw [hun,if_pos ⟨hop,h⟩]; simp [R.get,R.num]
termination_by e=>SizeOf.sizeOf e
decreasing_by
 have:=List.sizeOf_lt_of_mem hm
 simp
 omega
end Go.Proofs.YtdmgbhamigegfaaGreatDoor
end

section
/- How great a type is, as the laws measure it. -/
set_option linter.unusedSimpArgs false
set_option linter.unusedVariables false
namespace Go.Proofs.YtdmgbhamigegfaaGreatDoor
open Go Go.Abs
attribute [local irreducible] Abs.Fn
theorem zuE (e:Ex) (t:Ty) (he:We 1000000000 e) (hs:sizeE e≤1000000000):Abs.Fn Tryz.prog zkd [] [.p (encE e),.p (encT t)] (tyR (zaL e t)) []:=by
 apply zyr
 simp [zrW]
 (first | refine zn rfl ?_ | refine zl rfl ?_)
 (first | refine zx (za4 t) ?_ | refine zq (za4 t) ?_ | refine zr (za4 t) ?_ | refine zd (za4 t) rfl ?_ | refine zd (za4 t) (by simp [AV.pur]; rfl) ?_)
 try simp
 refine ⟨fun h=>zC (by simp [zaL,h,R.get,R.num]),fun h=>?_⟩
 (first | refine zn rfl ?_ | refine zl rfl ?_)
 (first | refine zx (zei e hs) ?_ | refine zq (zei e hs) ?_ | refine zr (zei e hs) ?_ | refine zd (zei e hs) rfl ?_ | refine zd (zei e hs) (by simp [AV.pur]; rfl) ?_)
 try simp
 refine ⟨fun h2=>zC ?_,fun h2=>?_⟩
 ·simp only [zaL]; rw [if_neg (by simpa using h),if_pos (by omega)]; simp [R.get,R.num]
 ·have hc:=zuL e t 0 (by omega) (by omega) he h
  have:zaL e t=ckE e t 0:=by simp only [zaL]; rw [if_neg (by simpa using h),if_neg (by omega)]
  rw [this]
  (first | refine zn rfl ?_ | refine zl rfl ?_)
  (first | refine zx (hc) ?_ | refine zq (hc) ?_ | refine zr (hc) ?_ | refine zd (hc) rfl ?_ | refine zd (hc) (by simp [AV.pur]; rfl) ?_)
  try simp [tyR]
  exact zj (by simp [AV.pur])
mutual
def budT:Ty→Int→Int→Int
 | .mk _ of,d,l=>if l≤0∨d≤0∨20 < of.length then 0 else budTs of (d - 1) (l - 1)
def budTs:List Ty→Int→Int→Int
 | [],_,l=>l
 | t::r,d,l=>if l≤0 then l else budTs r d (budT t d l)
end
mutual
theorem zDR:∀ (t:Ty) (d l:Int),0≤l→0≤budT t d l∧budT t d l≤l
 | .mk k of,d,l,h=>by
  simp only [budT]
  split
  ·omega
  ·have:=zAT of (d - 1) (l - 1) (by omega)
   omega
theorem zAT:∀ (r:List Ty) (d l:Int),0≤l→0≤budTs r d l∧budTs r d l≤l
 | [],d,l,h=>by simp [budTs]; omega
 | e::r,d,l,h=>by
  simp only [budTs]
  split
  ·omega
  ·have h1:=zDR e d l h
   have h2:=zAT r d (budT e d l) h1.1
   omega
end
theorem zEr:∀ (r:List Ty) (d l:Int),0 < budTs r d l→0 < l
 | [],d,l,h=>by simpa [budTs] using h
 | e::r,d,l,h=>by
  simp only [budTs] at h
  split at h
  ·omega
  ·omega
theorem zCB:∀ (r:List Ty) (d l:Int),l≤0→budTs r d l=l
 | [],d,l,h=>by simp [budTs]
 | v::r,d,l,h=>by simp [budTs,h]
mutual
theorem zvU:∀ (t:Ty) (d l:Int),0 < budT t d l→Wd 300 t
 | .mk k of,d,l,h=>by
  simp only [budT] at h
  split at h
  ·omega
  ·exact .mk k of (by omega) (zuJ of (d - 1) (l - 1) h)
theorem zuJ:∀ (r:List Ty) (d l:Int),0 < budTs r d l→∀ t∈r,Wd 300 t
 | [],d,l,h=>by simp
 | e::r,d,l,h=>by
  simp only [budTs] at h
  split at h
  ·omega
  ·intro x hx
   simp only [List.mem_cons] at hx
   rcases hx with rfl | hx
   ·exact zvU x d l (zEr r d _ h)
   ·exact zuJ r d _ h x hx
end
theorem zeh:∀ (t:Ty) (d l:Int) (_:0≤d) (_:d≤100) (_:0≤l) (_:l≤1000),Abs.Fn Tryz.prog zdn [] [.p (encT t),.p (.int .i64 d),.p (.int .i64 l)] (.p (.int .i64 (budT t d l))) []
 | .mk k of,d,l,hd0,hd1,hl0,hl1=>by
  apply zpS
  simp [zhz]
  refine ⟨fun h=>zg (by simp only [budT]; grind),fun h1 h2 h3=>?_⟩
  rw [IntWalk.i64_in _ (by omega)]
  have he:budT (.mk k of) d l=budTs of (d - 1) (l - 1):=by
   simp only [budT]
   rw [if_neg (by omega)]
  rw [he]
  refine zA (σ:=Nat×Int) (n:=1) (fun q=>[.p (.int .i64 q.2),.p (.int .i64 q.1)]) (fun q=>[.box [.p (.int .i64 k),.p (.slice (of.map encT))]])
   (fun q=>q.1≤of.length∧0≤q.2∧q.2≤1000∧budTs (of.drop q.1) (d - 1) q.2=budTs of (d - 1) (l - 1)) (fun q=>of.length - q.1) [] (0,l - 1) (fun _=>rfl) ⟨rfl,rfl⟩ ⟨by simp,by simp; omega,by simp; omega,by simp⟩ (fun q B hq hB=>?_)
  obtain ⟨j,m⟩:=q
  obtain ⟨g1,g2,g3,g4⟩:=hq
  simp only at g1 g2 g3 g4
  simp [zi4]
  intro _
  refine ⟨fun hlt hm0=>?_,fun hx=>zg ?_⟩
  ·have hm:of[j]∈of:=by simp
   have hle:=zDR of[j] (d - 1) m g2
   rw [List.drop_eq_getElem_cons hlt,budTs,if_neg (by omega)] at g4
   simp [hlt]
   rw [IntWalk.i64_in _ (by omega)]
   (first | refine zn rfl ?_ | refine zl rfl ?_)
   (first | refine zx (zeh of[j] (d - 1) m (by omega) (by omega) g2 g3) ?_ | refine zq (zeh of[j] (d - 1) m (by omega) (by omega) g2 g3) ?_ | refine zr (zeh of[j] (d - 1) m (by omega) (by omega) g2 g3) ?_ | refine zd (zeh of[j] (d - 1) m (by omega) (by omega) g2 g3) rfl ?_ | refine zd (zeh of[j] (d - 1) m (by omega) (by omega) g2 g3) (by simp [AV.pur]; rfl) ?_)
   try simp
   rw [IntWalk.i64_in _ (by omega)]
   exact hB (j + 1,budT of[j] (d - 1) m) _ ⟨by simp; omega,by simp; omega,by simp; omega,g4⟩ (by simp; omega) (by simp) (by simp [Ob.below,AV.under1]) (by simp) (by simp [AV.under,AV.under1])
  ·rcases Nat.lt_or_ge j of.length with hlt | hge
   ·have:=hx hlt
    rw [← g4,zCB _ _ _ (by omega)]
   ·rw [← g4,List.drop_of_length_le hge]
    simp [budTs]
termination_by t=>SizeOf.sizeOf t
decreasing_by
 have:=List.sizeOf_lt_of_mem hm
 simp
 omega
def fewT (t:Ty):Bool:=decide (0 < budT t 12 300)
theorem zCU {t:Ty} (h:fewT t=true):Wd 1000000000 t:=(zvU t 12 300 (by simpa [fewT] using h)).mono (by omega)
theorem zEB (t:Ty):Abs.Fn Tryz.prog zit [] [.p (encT t)] (.p (.bool (fewT t))) []:=by
 apply ztj
 simp [zkS]
 (first | refine zn rfl ?_ | refine zl rfl ?_)
 (first | refine zx (zeh _ 12 300 (by omega) (by omega) (by omega) (by omega)) ?_ | refine zq (zeh _ 12 300 (by omega) (by omega) (by omega) (by omega)) ?_ | refine zr (zeh _ 12 300 (by omega) (by omega) (by omega) (by omega)) ?_ | refine zd (zeh _ 12 300 (by omega) (by omega) (by omega) (by omega)) rfl ?_ | refine zd (zeh _ 12 300 (by omega) (by omega) (by omega) (by omega)) (by simp [AV.pur]; rfl) ?_)
 try simp
 exact zg (by simp [fewT])
end Go.Proofs.YtdmgbhamigegfaaGreatDoor
end
