/- What the package op answers: the type that goes out, what goes out of a row, its key. -/
import Derived.Test.YtdmgbhamigegfaaGreatDoorZSpOpO
set_option linter.unusedSimpArgs false
set_option linter.unusedVariables false
namespace Go.Proofs.YtdmgbhamigegfaaGreatDoor
open Go Go.Abs
attribute [local irreducible] Abs.Fn
def boxK (s:Kd):List AV:=(encK s).cells.map .p
@[simp] theorem boxK_eq {s:Kd}:boxK s=[.p (.bool s.name),.p (.bool s.typed),.p (.bool s.keyed),.p (.int .i64 s.e1),.p (.int .i64 s.e2),.p (.int .i64 s.i1),.p (.int .i64 s.i2),.p (.int .i64 s.f1),.p (.int .i64 s.f2),.p (.int .i64 s.n1),.p (.int .i64 s.n2)]:=id rfl
def boxP (o:Opr):List AV:=(encO o).cells.map .p
@[simp] theorem boxP_eq {o:Opr}:boxP o=[.p (.int .i64 o.k),.p (.str o.name),.p (.int .i64 o.t.kind),.p (.slice (o.t.of.map encT)),.p (.slice (o.es.map encE)),.p (.str o.key.op),.p (.int .i64 o.key.v.k),.p (.int .i64 o.key.v.i),.p (.bool o.key.v.b),.p (.str o.key.v.s),.p (.slice (o.key.v.t.map encV)),.p (.int .i64 o.key.n),.p (.slice (o.key.a.map encE)),.p (.int .i64 o.f),.p (.int .i64 o.n)]:=id rfl
def kcOk (key:Ty) (kc:AV):Prop:=(kc=.p (.slice (key.of.map encT)))∨(key=noT∧kc=.full [])
def tsOk (ts:List Ty) (ta:AV):Prop:=(ta=.p (.slice (ts.map encT)))∨(ts=[]∧ta=.full [])
@[simp] theorem noT_eq:noT=.mk 0 []:=id rfl
theorem zza (o:Opr) (s:Kd) (ins ts:List Ty) (key:Ty) (kc ta:AV) (hkc:kcOk key kc) (hta:tsOk ts ta) (h3:o.k=3∨o.k=5→0 < ts.length) (h2:o.k=2∨o.k=4→0 < ts.length) (hi:o.k≠1→0 < ins.length) :
  ziq (.p (.slice (ins.map encT))) (.bptr 0 0) (.bptr 1 0) (.bptr 3 0) ta [.box (boxP o),.box [.p (.int .i64 0),.full []],.box (boxK s),.box [.p (.int .i64 key.kind),kc]] (fun v H'=>Gives 0 v H' (tyR (lastO o key ts ins)) []):=by
 have hf:=zCY o ts ins h3
 have hg:=zC6 o key ts ins h2 hi
 have hc:=za4 (goesO o key ts ins)
 have r1:fitsO o ts ins=false→lastO o key ts ins=.er 5:=fun h=>by simp only [lastO]; rw [if_pos h]
 have r2:fitsO o ts ins=true→zI (goesO o key ts ins) 0≠0→lastO o key ts ins=.er (zI (goesO o key ts ins) 0):=fun h h'=>by simp only [lastO]; rw [if_neg (by simp [h]),if_pos h']
 have r3:fitsO o ts ins=true→zI (goesO o key ts ins) 0=0→lastO o key ts ins=.ok (goesO o key ts ins):=fun h h'=>by simp only [lastO]; rw [if_neg (by simp [h]),if_neg (by simp [h'])]
 generalize goesO o key ts ins=g at *
 generalize fitsO o ts ins=f at *
 generalize lastO o key ts ins=la at *
 rcases hkc with rfl | ⟨rfl,rfl⟩ <;> rcases hta with rfl | ⟨rfl,rfl⟩
 ·simp [ziq]
  (first | refine zn rfl ?_ | refine zl rfl ?_)
  (first | refine zx (hf) ?_ | refine zq (hf) ?_ | refine zr (hf) ?_ | refine zd (hf) rfl ?_ | refine zd (hf) (by simp [AV.pur]; rfl) ?_)
  try simp
  refine ⟨fun h=>?_,fun h=>?_⟩
  ·rw [r1 h]
   exact zC (by simp [R.get,R.num])
  ·(first | refine zn rfl ?_ | refine zl rfl ?_)
   (first | refine zx (hg) ?_ | refine zq (hg) ?_ | refine zr (hg) ?_ | refine zd (hg) rfl ?_ | refine zd (hg) (by simp [AV.pur]; rfl) ?_)
   try simp
   (first | refine zn rfl ?_ | refine zl rfl ?_)
   (first | refine zx (hc) ?_ | refine zq (hc) ?_ | refine zr (hc) ?_ | refine zd (hc) rfl ?_ | refine zd (hc) (by simp [AV.pur]; rfl) ?_)
   try simp
   refine ⟨fun h'=>?_,fun h'=>?_⟩
   ·rw [r2 h h']
    exact zC (by simp [R.get,R.num])
   ·rw [r3 h h']
    exact zC (by simp [R.get,R.num])
 ·simp [ziq]
  (first | refine zn rfl ?_ | refine zl rfl ?_)
  (first | refine zx (hf) ?_ | refine zq (hf) ?_ | refine zr (hf) ?_ | refine zd (hf) rfl ?_ | refine zd (hf) (by simp [AV.pur]; rfl) ?_)
  try simp
  refine ⟨fun h=>?_,fun h=>?_⟩
  ·rw [r1 h]
   exact zC (by simp [R.get,R.num])
  ·(first | refine zn rfl ?_ | refine zl rfl ?_)
   (first | refine zx (hg) ?_ | refine zq (hg) ?_ | refine zr (hg) ?_ | refine zd (hg) rfl ?_ | refine zd (hg) (by simp [AV.pur]; rfl) ?_)
   try simp
   (first | refine zn rfl ?_ | refine zl rfl ?_)
   (first | refine zx (hc) ?_ | refine zq (hc) ?_ | refine zr (hc) ?_ | refine zd (hc) rfl ?_ | refine zd (hc) (by simp [AV.pur]; rfl) ?_)
   try simp
   refine ⟨fun h'=>?_,fun h'=>?_⟩
   ·rw [r2 h h']
    exact zC (by simp [R.get,R.num])
   ·rw [r3 h h']
    exact zC (by simp [R.get,R.num])
 ·simp [ziq]
  (first | refine zn rfl ?_ | refine zl rfl ?_)
  (first | refine zx (hf) ?_ | refine zq (hf) ?_ | refine zr (hf) ?_ | refine zd (hf) rfl ?_ | refine zd (hf) (by simp [AV.pur]; rfl) ?_)
  try simp
  refine ⟨fun h=>?_,fun h=>?_⟩
  ·rw [r1 h]
   exact zC (by simp [R.get,R.num])
  ·(first | refine zn rfl ?_ | refine zl rfl ?_)
   (first | refine zx (hg) ?_ | refine zq (hg) ?_ | refine zr (hg) ?_ | refine zd (hg) rfl ?_ | refine zd (hg) (by simp [AV.pur]; rfl) ?_)
   try simp
   (first | refine zn rfl ?_ | refine zl rfl ?_)
   (first | refine zx (hc) ?_ | refine zq (hc) ?_ | refine zr (hc) ?_ | refine zd (hc) rfl ?_ | refine zd (hc) (by simp [AV.pur]; rfl) ?_)
   try simp
   refine ⟨fun h'=>?_,fun h'=>?_⟩
   ·rw [r2 h h']
    exact zC (by simp [R.get,R.num])
   ·rw [r3 h h']
    exact zC (by simp [R.get,R.num])
 ·simp [ziq]
  (first | refine zn rfl ?_ | refine zl rfl ?_)
  (first | refine zx (hf) ?_ | refine zq (hf) ?_ | refine zr (hf) ?_ | refine zd (hf) rfl ?_ | refine zd (hf) (by simp [AV.pur]; rfl) ?_)
  try simp
  refine ⟨fun h=>?_,fun h=>?_⟩
  ·rw [r1 h]
   exact zC (by simp [R.get,R.num])
  ·(first | refine zn rfl ?_ | refine zl rfl ?_)
   (first | refine zx (hg) ?_ | refine zq (hg) ?_ | refine zr (hg) ?_ | refine zd (hg) rfl ?_ | refine zd (hg) (by simp [AV.pur]; rfl) ?_)
   try simp
   (first | refine zn rfl ?_ | refine zl rfl ?_)
   (first | refine zx (hc) ?_ | refine zq (hc) ?_ | refine zr (hc) ?_ | refine zd (hc) rfl ?_ | refine zd (hc) (by simp [AV.pur]; rfl) ?_)
   try simp
   refine ⟨fun h'=>?_,fun h'=>?_⟩
   ·rw [r2 h h']
    exact zC (by simp [R.get,R.num])
   ·rw [r3 h h']
    exact zC (by simp [R.get,R.num])
theorem zBP (o:Opr) (s:Kd) (ins:List Ty) (key:Ty) (kc:AV) (hes:∀ e∈o.es,We 1000000000 e∧sizeE e≤1000000000) (hl:o.es.length≤1000000) (hkc:kcOk key kc) (h3:o.k=2∨o.k=3∨o.k=4∨o.k=5→0 < o.es.length) (h1:o.k=1→o.es.length=0) (hi:o.k≠1→0 < ins.length) (ra:R Ty) (hra:(match ckO (ins.getD 0 noT) o.es with
   | .er x=>.er x
   | .ok ts=>lastO o key ts ins)=ra) :
  zqy (.p (.slice (ins.map encT))) (.bptr 0 0) (.bptr 1 0) (.bptr 3 0) [.box (boxP o),.box [.p (.int .i64 0),.full []],.box (boxK s),.box [.p (.int .i64 key.kind),kc]] (fun v H'=>Gives 0 v H' (tyR ra) []):=by
 simp [zqy]
 intro hml
 refine ⟨fun hpos=>?_,fun hz=>?_⟩
 ·have hpos:0 < o.es.length:=by omega
  have hip:0 < ins.length:=hi (fun h=>by have:=h1 h; omega)
  obtain ⟨t0,rins,hins⟩:∃ t0 r,ins=t0::r:=by
   match ins,hip with
   | u::r,_=>exact ⟨u,r,rfl⟩
  have hin0:ins.getD 0 noT=t0:=by subst hins; rfl
  have hi0:∀ h:0 < ins.length,ins[0]=t0:=by subst hins; intro _; rfl
  rw [hin0] at hra
  have hc:=zFx o t0 hes hl
  simp [hip,hi0]
  cases hr:ckO t0 o.es with
  | er x =>
   rw [hr] at hc hra
   simp only at hra
   subst hra
   simp only [esR] at hc
   have hx:=zCH _ _ _ hr
   (first | refine zn rfl ?_ | refine zl rfl ?_)
   (first | refine zx (hc) ?_ | refine zq (hc) ?_ | refine zr (hc) ?_ | refine zd (hc) rfl ?_ | refine zd (hc) (by simp [AV.pur]; rfl) ?_)
   try simp [hx]
   exact zC (by simp [R.get,R.num])
  | ok ts =>
   rw [hr] at hc hra
   simp only at hra
   subst hra
   simp only [esR] at hc
   have hlen:=zv3 _ _ _ hr
   have:=zza o s ins ts key kc _ hkc (.inl rfl) (fun h=>by have:=h3 (by omega); omega) (fun h=>by have:=h3 (by omega); omega) hi
   simp at this
   (first | refine zn rfl ?_ | refine zl rfl ?_)
   (first | refine zx (hc) ?_ | refine zq (hc) ?_ | refine zr (hc) ?_ | refine zd (hc) rfl ?_ | refine zd (hc) (by simp [AV.pur]; rfl) ?_)
   try simp
   exact this
 ·have h0:o.es=[]:=by
   first
    | exact hz
    | exact List.eq_nil_of_length_eq_zero (by omega)
  rw [h0] at hra
  simp only [ckO] at hra
  subst hra
  have:=zza o s ins [] key kc _ hkc (.inr ⟨rfl,rfl⟩) (fun h=>by have:=h3 (by omega); simp [h0] at this) (fun h=>by have:=h3 (by omega); simp [h0] at this) hi
  simp at this
  exact this
theorem zEh (o:Opr) (ins:List Ty) (hes:∀ e∈o.es,We 1000000000 e∧sizeE e≤1000000000) (hkey:We 1000000000 o.key∧sizeE o.key≤1000000000) (hl:o.es.length≤1000000) (hi:ins.length≤1000000) :
  Abs.Fn Tryz.prog zxw [] [.p (encO o),.p (.slice (ins.map encT))] (tyR (outP o ins)) []:=by
 apply zER
 simp [zDr]
 (first | refine zn rfl ?_ | refine zl rfl ?_)
 (first | refine zx (zbu) ?_ | refine zq (zbu) ?_ | refine zr (zbu) ?_ | refine zd (zbu) rfl ?_ | refine zd (zbu) (by simp [AV.pur]; rfl) ?_)
 try simp
 have hk:=zBD kdL o.k
 rcases zuZ o ins.length with ⟨h,hlk⟩ | ⟨h,s,hlk,h1,h2,h3,h4⟩
 ·rw [hlk] at hk
  have:outP o ins=.er 6:=by simp only [outP]; rw [if_pos (by omega)]
  rw [this]
  (first | refine zn rfl ?_ | refine zl rfl ?_)
  (first | refine zx (hk) ?_ | refine zq (hk) ?_ | refine zr (hk) ?_ | refine zd (hk) rfl ?_ | refine zd (hk) (by simp [AV.pur]; rfl) ?_)
  try simp [encK,noK]
  refine zz true (fun h=>by simp at h) ?_
  simp
  exact zC (by simp [R.get,R.num])
 ·rw [hlk] at hk
  have n0:¬ (o.k < 1∨9 < o.k):=by omega
  (first | refine zn rfl ?_ | refine zl rfl ?_)
  (first | refine zx (hk) ?_ | refine zq (hk) ?_ | refine zr (hk) ?_ | refine zd (hk) rfl ?_ | refine zd (hk) (by simp [AV.pur]; rfl) ?_)
  try simp [encK,noK]
  refine zz (s.name && !nameS o.name) (fun _=>zz (!nameS o.name) (fun _=>?_) ?_) ?_
  ·(first | refine zn rfl ?_ | refine zl rfl ?_)
   (first | refine zx (zgH o.name) ?_ | refine zq (zgH o.name) ?_ | refine zr (zgH o.name) ?_ | refine zd (zgH o.name) rfl ?_ | refine zd (zgH o.name) (by simp [AV.pur]; rfl) ?_)
   try simp [encK]
  ·simp
  ·simp
   refine ⟨fun q1 q2=>?_,fun q hml=>?_⟩
   ·have:outP o ins=.er 6:=by
     simp only [outP]; rw [if_neg n0,if_pos ⟨by simpa [h1] using q1,q2⟩]
    rw [this]
    exact zC (by simp [R.get,R.num])
   have n1:¬ ((o.k=1∨o.k=9)∧nameS o.name=false):=fun w=>by have:=q (by rw [h1]; simpa using w.1); simp [this] at w
   (first | refine zn rfl ?_ | refine zl rfl ?_)
   (first | refine zx (zhs s o ins.length) ?_ | refine zq (zhs s o ins.length) ?_ | refine zr (zhs s o ins.length) ?_ | refine zd (zhs s o ins.length) rfl ?_ | refine zd (zhs s o ins.length) (by simp [AV.pur]; rfl) ?_)
   try simp [encK]
   refine ⟨fun q2=>?_,fun q2=>?_⟩
   ·have:outP o ins=.er 1:=by
     simp only [outP]; rw [if_neg n0,if_neg n1,if_pos (by rw [h4] at q2; simpa [Classical.or_iff_not_imp_left] using q2)]
    rw [this]
    exact zC (by simp [R.get,R.num])
   rw [h4,Bool.and_eq_true] at q2
   have n2:¬ (zeA o=false∨insO o.k ins.length=false):=by simp [q2.1,q2.2]
   (first | refine zn rfl ?_ | refine zl rfl ?_)
   (first | refine zx (zhg ins) ?_ | refine zq (zhg ins) ?_ | refine zr (zhg ins) ?_ | refine zd (zhg ins) rfl ?_ | refine zd (zhg ins) (by simp [AV.pur]; rfl) ?_)
   try simp
   have ht1:=zhg [o.t]
   have hanyt:zig [o.t]=decide (zI o.t 0≠0):=by simp [zig]
   refine zz (zig ins || (s.typed && zig [o.t])) (fun hz=>zz (zig [o.t]) (fun _=>?_) ?_) ?_
   ·(first | refine zn rfl ?_ | refine zl rfl ?_)
    (first | refine zx (ht1) ?_ | refine zq (ht1) ?_ | refine zr (ht1) ?_ | refine zd (ht1) rfl ?_ | refine zd (ht1) (by simp [AV.pur]; rfl) ?_)
    try simp [encK]
   ·simp [show zig ins=false from hz]
   ·simp
    refine ⟨fun q3=>?_,fun q3 q4=>?_⟩
    ·have:outP o ins=.er 5:=by
      simp only [outP]; rw [if_neg n0,if_neg n1,if_neg n2,if_pos]
      rw [hanyt,h2] at q3
      rcases q3 with q3 | q3
      ·exact .inl q3
      ·exact .inr (by simpa using q3)
     rw [this]
     exact zC (by simp [R.get,R.num])
    have n3:¬ (ins.any (fun t=>decide (zI t 0≠0))=true∨(o.k=1∧zI o.t 0≠0)):=by
     rw [hanyt,h2] at q4
     rintro (w | w)
     ·have:zig ins=true:=w
      simp [this] at q3
     ·have:=q4 (by simpa using w.1)
      simp at this
      exact w.2 this
    have hout:outP o ins=match (if zas o.k then zaL o.key (ins.getD 0 noT) else .ok noT) with
      | .er x=>.er x
      | .ok key=>match ckO (ins.getD 0 noT) o.es with
       | .er x=>.er x
       | .ok ts=>lastO o key ts ins:=by
     simp only [outP]; rw [if_neg n0,if_neg n1,if_neg n2,if_neg n3]
     rfl
    have hip:o.k≠1→0 < ins.length:=by
     have:=q2.2
     intro h1
     simp only [insO,if_neg h1] at this
     split at this
     ·simp at this; omega
     ·simp at this; omega
    have hes1:(o.k=2∨o.k=3∨o.k=4∨o.k=5→0 < o.es.length)∧(o.k=1→o.es.length=0):=by
     have:=q2.1
     simp only [zeA,Bool.and_eq_true] at this
     have:=this.1.1.1.2
     constructor
     ·intro hh
      by_cases h4:o.k=4
      ·rw [if_neg (by omega),if_pos h4] at this
       simp at this; omega
      ·rw [if_pos (by omega)] at this
       simp at this; omega
     ·intro hh
      rw [if_neg (by omega),if_neg (by omega)] at this
      simpa using this
    refine ⟨fun hkd=>?_,fun hkd=>?_⟩
    ·have hkk:zas o.k=true:=by rw [← h3]; exact hkd
     have hk1:o.k≠1:=by simp [zas] at hkk; omega
     obtain ⟨t0,rins,hins⟩:∃ t0 r,ins=t0::r:=by
      match ins,hip hk1 with
      | u::r,_=>exact ⟨u,r,rfl⟩
     have hin0:ins.getD 0 noT=t0:=by subst hins; rfl
     have hi0:∀ h:0 < ins.length,ins[0]=t0:=by subst hins; intro _; rfl
     have hc:=zuE o.key t0 hkey.1 hkey.2
     rw [hin0,if_pos hkk] at hout
     simp [hip hk1,hi0]
     cases hr:zaL o.key t0 with
     | er x =>
      rw [hr] at hc hout
      simp only at hout
      simp only [tyR] at hc
      have hx:=zqo hr
      (first | refine zn rfl ?_ | refine zl rfl ?_)
      (first | refine zx (hc) ?_ | refine zq (hc) ?_ | refine zr (hc) ?_ | refine zd (hc) rfl ?_ | refine zd (hc) (by simp [AV.pur]; rfl) ?_)
      try simp [hx,R.num,R.get]
      rw [hout]
      exact zC (by simp [R.get,R.num])
     | ok u =>
      rw [hr] at hc hout
      simp only at hout
      simp only [tyR] at hc
      have hmid:=zBP o s ins u _ hes hl (.inl rfl) hes1.1 hes1.2 hip (outP o ins) (by rw [hout,hin0])
      simp at hmid
      (first | refine zn rfl ?_ | refine zl rfl ?_)
      (first | refine zx (hc) ?_ | refine zq (hc) ?_ | refine zr (hc) ?_ | refine zd (hc) rfl ?_ | refine zd (hc) (by simp [AV.pur]; rfl) ?_)
      try simp [R.num,R.get]
      exact hmid
    ·rw [if_neg (by rw [← h3,hkd]; simp)] at hout
     have hmid:=zBP o s ins noT _ hes hl (.inr ⟨rfl,rfl⟩) hes1.1 hes1.2 hip (outP o ins) (by rw [hout])
     simp at hmid
     exact hmid
theorem zAG (o:Opr) (x:Va) (r:R (List Va)) (h:zeM o x=some r) (hne:∀ e∈o.es,We 1000000000 e) (hx:Wv 1000000000 x) (hl:o.es.length≤8) (h3:o.k=3→o.es.length=1):Abs.Fn Tryz.prog zr6 [] [.p (encO o),.p (encV x)] (allR r) []:=by
 apply zBG
 simp [zxr]
 refine ⟨fun hk hml=>?_,fun n2 n3 n4=>?_⟩
 rotate_left
 ·have:zeM o x=some (.ok [x]):=by simp only [zeM]; rw [if_neg (by omega),if_neg (by omega)]
  rw [this] at h
  simp only [Option.some.injEq] at h
  subst h
  exact zj (by simp [AV.pur,allR,toTs])
 have hk:o.k=2∨o.k=3∨o.k=4:=by omega
 obtain ⟨r0,hr0,hrr⟩:∃ r0,evL o.es x=some r0∧r=(match r0 with
   | .er f=>.er f
   | .ok l=>if o.k=3 then .ok (if (l.getD 0 zeroV).truth then [x] else []) else .ok l):=by
  by_cases hk3:o.k=3
  ·simp only [zeM] at h
   rw [if_neg (by omega),if_pos hk3] at h
   split at h
   ·simp at h
   ·rename_i f hf
    simp at h; subst h
    exact ⟨_,hf,rfl⟩
   ·rename_i l hl
    simp only [Option.some.injEq] at h; subst h
    exact ⟨_,hl,by simp [hk3]⟩
  ·simp only [zeM] at h
   rw [if_pos (by omega)] at h
   refine ⟨r,h, ?_⟩
   cases r <;> simp [hk3]
 refine zA (σ:=Nat×List Va) (n:=3) (fun q=>[.own 2 (q.2.map encV),.p (.int .i64 q.1)]) (fun q=>[.box (boxP o),.box [.p (.int .i64 x.k),.p (.int .i64 x.i),.p (.bool x.b),.p (.str x.s),.p (.slice (x.t.map encV))],.row q.2.length 5]) (fun q=>q.1≤o.es.length∧evL (o.es.take q.1) x=some (.ok q.2)∧q.2.length=q.1) (fun q=>o.es.length - q.1) [.slot 0 5] (0,[]) (fun _=>rfl) ⟨rfl,rfl⟩ ⟨by simp,by simp [evL],rfl⟩ (fun q B hq hB=>?_)
 obtain ⟨i,l⟩:=q
 obtain ⟨h1,h2,h4⟩:=hq
 simp only at h1 h2 h4
 simp [zu1]
 refine ⟨fun hlt=>?_,fun hge=>?_⟩
 ·have hsn:=zwu x o.es i l hlt h2
  obtain ⟨r',g1,g2⟩:=zlS x o.es (i + 1) r0 hr0
  rw [hsn] at g1
  have n2:=hne o.es[i] (by simp)
  cases hev:evE o.es[i] x with
  | none=>simp [hev] at g1
  | some u =>
   have hfn:=zyL o.es[i] x n2 hx u hev
   simp [hlt]
   cases u with
   | er f =>
    have hne0:=zm7 _ _ _ hev
    simp only [twoR] at hfn
    (first | refine zn rfl ?_ | refine zl rfl ?_)
    (first | refine zx (hfn) ?_ | refine zq (hfn) ?_ | refine zr (hfn) ?_ | refine zd (hfn) rfl ?_ | refine zd (hfn) (by simp [AV.pur]; rfl) ?_)
    try simp [R.num,R.get,hne0]
    simp only [hev] at hsn
    have:=zpa x o.es (i + 1) f hsn
    rw [hr0] at this
    simp at this
    subst this
    subst hrr
    exact zj (by simp [AV.pur,allR,toTs])
   | ok v =>
    simp only [twoR] at hfn
    (first | refine zn rfl ?_ | refine zl rfl ?_)
    (first | refine zx (hfn) ?_ | refine zq (hfn) ?_ | refine zr (hfn) ?_ | refine zd (hfn) rfl ?_ | refine zd (hfn) (by simp [AV.pur]; rfl) ?_)
    try simp [R.num,R.get]
    refine ⟨⟨zqs l,by simp,by simp; omega⟩, ?_⟩
    rw [IntWalk.i64_in _ (by omega)]
    simp only [hev] at hsn
    refine cast (congrArg (fun x=>B x _) ?_) (hB (i + 1,l++[v]) _ ⟨by simp only; omega,hsn,by simp [h4]⟩ (by simp only; omega) ?_ ?_ ?_ (by simp [AV.under,AV.under1]))
    ·simp
    ·simp
    ·simp [Ob.below,AV.under1]
    ·simp
 ·have:i=o.es.length:=by omega
  subst this
  rw [List.take_of_length_le (Nat.le_refl _),hr0] at h2
  simp at h2
  subst h2
  simp only at hrr
  refine ⟨fun hk3=>?_,fun hk3=>?_⟩
  ·have hl1:=h3 hk3
   rw [if_pos hk3] at hrr
   match l,(by omega:l.length=1) with
   | [v],_ =>
    subst hrr
    simp
    refine ⟨fun ht=>?_,fun ht=>?_⟩
    ·have ht:v.truth=false:=ht
     exact zj (by simp [AV.pur,allR,toTs,ht])
    ·have ht:v.truth=true:=ht
     exact zj (by simp [AV.pur,allR,toTs,ht])
  ·rw [if_neg hk3] at hrr
   subst hrr
   exact zj (by simp [AV.pur,allR,toTs])
end Go.Proofs.YtdmgbhamigegfaaGreatDoor
