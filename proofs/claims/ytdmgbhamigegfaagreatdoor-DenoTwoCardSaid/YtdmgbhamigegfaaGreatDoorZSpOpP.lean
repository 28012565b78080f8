/- What the package op answers: the type that goes out, what goes out of a row, its key. -/
import Derived.Test.YtdmgbhamigegfaaGreatDoorZSpOpO
set_option linter.unusedSimpArgs false
set_option linter.unusedVariables false
namespace Go.Proofs.YtdmgbhamigegfaaGreatDoor
open Go Go.Abs
attribute [local irreducible] Abs.Fn
def boxK (s:Kd):List AV:=(encK s).cells.map .p
@[simp] theorem boxK_eq {s:Kd}:boxK s = [.p (.bool s.name),.p (.bool s.typed),.p (.bool s.keyed),.p (.int .i64 s.e1),.p (.int .i64 s.e2),.p (.int .i64 s.i1),.p (.int .i64 s.i2),.p (.int .i64 s.f1),.p (.int .i64 s.f2),.p (.int .i64 s.n1),.p (.int .i64 s.n2)]:=id rfl
def boxP (o:Opr):List AV:=(encO o).cells.map .p
@[simp] theorem boxP_eq {o:Opr}:boxP o = [.p (.int .i64 o.k),.p (.str o.name),.p (.int .i64 o.t.kind),.p (.slice (o.t.of.map encT)),.p (.slice (o.es.map encE)),.p (.str o.key.op),.p (.int .i64 o.key.v.k),.p (.int .i64 o.key.v.i),.p (.bool o.key.v.b),.p (.str o.key.v.s),.p (.slice (o.key.v.t.map encV)),.p (.int .i64 o.key.n),.p (.slice (o.key.a.map encE)),.p (.int .i64 o.f),.p (.int .i64 o.n)]:=id rfl
def kcOk (key:Ty) (kc:AV):Prop:=(kc = .p (.slice (key.of.map encT))) ∨ (key = noT ∧ kc = .full [])
def tsOk (ts:List Ty) (ta:AV):Prop:=(ta = .p (.slice (ts.map encT))) ∨ (ts = [] ∧ ta = .full [])
@[simp] theorem noT_eq:noT = .mk 0 []:=id rfl
theorem out7_last (o:Opr) (s:Kd) (ins ts:List Ty) (key:Ty) (kc ta:AV) (hkc:kcOk key kc) (hta:tsOk ts ta) (h3:o.k = 3 ∨ o.k = 5→0 < ts.length) (h2:o.k = 2 ∨ o.k = 4→0 < ts.length) (hi:o.k ≠ 1→0 < ins.length) :
  op_Out_J2 (.p (.slice (ins.map encT))) (.bptr 0 0) (.bptr 1 0) (.bptr 3 0) ta [.box (boxP o),.box [.p (.int .i64 0),.full []],.box (boxK s),.box [.p (.int .i64 key.kind),kc]] (fun v H'=>Gives 0 v H' (tyR (lastO o key ts ins)) []):=by
 have hf:=fits7_spec o ts ins h3
 have hg:=goes7_spec o key ts ins h2 hi
 have hc:=Check_spec (goesO o key ts ins)
 have r1:fitsO o ts ins = false→lastO o key ts ins = .er 5:=fun h=>by simp only [lastO]; rw [if_pos h]
 have r2:fitsO o ts ins = true→checkT (goesO o key ts ins) 0 ≠ 0→lastO o key ts ins = .er (checkT (goesO o key ts ins) 0):=fun h h'=>by simp only [lastO]; rw [if_neg (by simp [h]),if_pos h']
 have r3:fitsO o ts ins = true→checkT (goesO o key ts ins) 0 = 0→lastO o key ts ins = .ok (goesO o key ts ins):=fun h h'=>by simp only [lastO]; rw [if_neg (by simp [h]),if_neg (by simp [h'])]
 generalize goesO o key ts ins = g at *
 generalize fitsO o ts ins = f at *
 generalize lastO o key ts ins = la at *
 rcases hkc with rfl | ⟨rfl,rfl⟩ <;> rcases hta with rfl | ⟨rfl,rfl⟩
 ·simp [op_Out_J2]
  (first | refine aCall_fold rfl ?_ | refine aCallT_fold rfl ?_)
  (first | refine aCallU_p (hf) ?_ | refine aCallTU_p (hf) ?_ | refine aCallU_of (hf) ?_ | refine aCallTU_of (hf) rfl ?_ | refine aCallTU_of (hf) (by simp [AV.pur]; rfl) ?_)
  try simp
  refine ⟨fun h=>?_,fun h=>?_⟩
  ·rw [r1 h]
   exact tyR_gives (by simp [R.get,R.num])
  ·(first | refine aCall_fold rfl ?_ | refine aCallT_fold rfl ?_)
   (first | refine aCallU_p (hg) ?_ | refine aCallTU_p (hg) ?_ | refine aCallU_of (hg) ?_ | refine aCallTU_of (hg) rfl ?_ | refine aCallTU_of (hg) (by simp [AV.pur]; rfl) ?_)
   try simp
   (first | refine aCall_fold rfl ?_ | refine aCallT_fold rfl ?_)
   (first | refine aCallU_p (hc) ?_ | refine aCallTU_p (hc) ?_ | refine aCallU_of (hc) ?_ | refine aCallTU_of (hc) rfl ?_ | refine aCallTU_of (hc) (by simp [AV.pur]; rfl) ?_)
   try simp
   refine ⟨fun h'=>?_,fun h'=>?_⟩
   ·rw [r2 h h']
    exact tyR_gives (by simp [R.get,R.num])
   ·rw [r3 h h']
    exact tyR_gives (by simp [R.get,R.num])
 ·simp [op_Out_J2]
  (first | refine aCall_fold rfl ?_ | refine aCallT_fold rfl ?_)
  (first | refine aCallU_p (hf) ?_ | refine aCallTU_p (hf) ?_ | refine aCallU_of (hf) ?_ | refine aCallTU_of (hf) rfl ?_ | refine aCallTU_of (hf) (by simp [AV.pur]; rfl) ?_)
  try simp
  refine ⟨fun h=>?_,fun h=>?_⟩
  ·rw [r1 h]
   exact tyR_gives (by simp [R.get,R.num])
  ·(first | refine aCall_fold rfl ?_ | refine aCallT_fold rfl ?_)
   (first | refine aCallU_p (hg) ?_ | refine aCallTU_p (hg) ?_ | refine aCallU_of (hg) ?_ | refine aCallTU_of (hg) rfl ?_ | refine aCallTU_of (hg) (by simp [AV.pur]; rfl) ?_)
   try simp
   (first | refine aCall_fold rfl ?_ | refine aCallT_fold rfl ?_)
   (first | refine aCallU_p (hc) ?_ | refine aCallTU_p (hc) ?_ | refine aCallU_of (hc) ?_ | refine aCallTU_of (hc) rfl ?_ | refine aCallTU_of (hc) (by simp [AV.pur]; rfl) ?_)
   try simp
   refine ⟨fun h'=>?_,fun h'=>?_⟩
   ·rw [r2 h h']
    exact tyR_gives (by simp [R.get,R.num])
   ·rw [r3 h h']
    exact tyR_gives (by simp [R.get,R.num])
 ·simp [op_Out_J2]
  (first | refine aCall_fold rfl ?_ | refine aCallT_fold rfl ?_)
  (first | refine aCallU_p (hf) ?_ | refine aCallTU_p (hf) ?_ | refine aCallU_of (hf) ?_ | refine aCallTU_of (hf) rfl ?_ | refine aCallTU_of (hf) (by simp [AV.pur]; rfl) ?_)
  try simp
  refine ⟨fun h=>?_,fun h=>?_⟩
  ·rw [r1 h]
   exact tyR_gives (by simp [R.get,R.num])
  ·(first | refine aCall_fold rfl ?_ | refine aCallT_fold rfl ?_)
   (first | refine aCallU_p (hg) ?_ | refine aCallTU_p (hg) ?_ | refine aCallU_of (hg) ?_ | refine aCallTU_of (hg) rfl ?_ | refine aCallTU_of (hg) (by simp [AV.pur]; rfl) ?_)
   try simp
   (first | refine aCall_fold rfl ?_ | refine aCallT_fold rfl ?_)
   (first | refine aCallU_p (hc) ?_ | refine aCallTU_p (hc) ?_ | refine aCallU_of (hc) ?_ | refine aCallTU_of (hc) rfl ?_ | refine aCallTU_of (hc) (by simp [AV.pur]; rfl) ?_)
   try simp
   refine ⟨fun h'=>?_,fun h'=>?_⟩
   ·rw [r2 h h']
    exact tyR_gives (by simp [R.get,R.num])
   ·rw [r3 h h']
    exact tyR_gives (by simp [R.get,R.num])
 ·simp [op_Out_J2]
  (first | refine aCall_fold rfl ?_ | refine aCallT_fold rfl ?_)
  (first | refine aCallU_p (hf) ?_ | refine aCallTU_p (hf) ?_ | refine aCallU_of (hf) ?_ | refine aCallTU_of (hf) rfl ?_ | refine aCallTU_of (hf) (by simp [AV.pur]; rfl) ?_)
  try simp
  refine ⟨fun h=>?_,fun h=>?_⟩
  ·rw [r1 h]
   exact tyR_gives (by simp [R.get,R.num])
  ·(first | refine aCall_fold rfl ?_ | refine aCallT_fold rfl ?_)
   (first | refine aCallU_p (hg) ?_ | refine aCallTU_p (hg) ?_ | refine aCallU_of (hg) ?_ | refine aCallTU_of (hg) rfl ?_ | refine aCallTU_of (hg) (by simp [AV.pur]; rfl) ?_)
   try simp
   (first | refine aCall_fold rfl ?_ | refine aCallT_fold rfl ?_)
   (first | refine aCallU_p (hc) ?_ | refine aCallTU_p (hc) ?_ | refine aCallU_of (hc) ?_ | refine aCallTU_of (hc) rfl ?_ | refine aCallTU_of (hc) (by simp [AV.pur]; rfl) ?_)
   try simp
   refine ⟨fun h'=>?_,fun h'=>?_⟩
   ·rw [r2 h h']
    exact tyR_gives (by simp [R.get,R.num])
   ·rw [r3 h h']
    exact tyR_gives (by simp [R.get,R.num])
theorem out7_mid (o:Opr) (s:Kd) (ins:List Ty) (key:Ty) (kc:AV) (hes:∀ e ∈ o.es,We 1000000000 e ∧ sizeE e ≤ 1000000000) (hl:o.es.length ≤ 1000000) (hkc:kcOk key kc) (h3:o.k = 2 ∨ o.k = 3 ∨ o.k = 4 ∨ o.k = 5→0 < o.es.length) (h1:o.k = 1→o.es.length = 0) (hi:o.k ≠ 1→0 < ins.length) (ra:R Ty) (hra:(match ckO (ins.getD 0 noT) o.es with
   | .er x=>.er x
   | .ok ts=>lastO o key ts ins) = ra) :
  op_Out_J1 (.p (.slice (ins.map encT))) (.bptr 0 0) (.bptr 1 0) (.bptr 3 0) [.box (boxP o),.box [.p (.int .i64 0),.full []],.box (boxK s),.box [.p (.int .i64 key.kind),kc]] (fun v H'=>Gives 0 v H' (tyR ra) []):=by
 simp [op_Out_J1]
 intro hml
 refine ⟨fun hpos=>?_,fun hz=>?_⟩
 ·have hpos:0 < o.es.length:=by omega
  have hip:0 < ins.length:=hi (fun h=>by have:=h1 h; omega)
  obtain ⟨t0,rins,hins⟩:∃ t0 r,ins = t0 :: r:=by
   match ins,hip with
   | u :: r,_=>exact ⟨u,r,rfl⟩
  have hin0:ins.getD 0 noT = t0:=by subst hins; rfl
  have hi0:∀ h:0 < ins.length,ins[0] = t0:=by subst hins; intro _; rfl
  rw [hin0] at hra
  have hc:=es7_spec o t0 hes hl
  simp [hip,hi0]
  cases hr:ckO t0 o.es with
  | er x =>
   rw [hr] at hc hra
   simp only at hra
   subst hra
   simp only [esR] at hc
   have hx:=ck7_er _ _ _ hr
   (first | refine aCall_fold rfl ?_ | refine aCallT_fold rfl ?_)
   (first | refine aCallU_p (hc) ?_ | refine aCallTU_p (hc) ?_ | refine aCallU_of (hc) ?_ | refine aCallTU_of (hc) rfl ?_ | refine aCallTU_of (hc) (by simp [AV.pur]; rfl) ?_)
   try simp [hx]
   exact tyR_gives (by simp [R.get,R.num])
  | ok ts =>
   rw [hr] at hc hra
   simp only at hra
   subst hra
   simp only [esR] at hc
   have hlen:=ck7_length _ _ _ hr
   have:=out7_last o s ins ts key kc _ hkc (.inl rfl) (fun h=>by have:=h3 (by omega); omega) (fun h=>by have:=h3 (by omega); omega) hi
   simp at this
   (first | refine aCall_fold rfl ?_ | refine aCallT_fold rfl ?_)
   (first | refine aCallU_p (hc) ?_ | refine aCallTU_p (hc) ?_ | refine aCallU_of (hc) ?_ | refine aCallTU_of (hc) rfl ?_ | refine aCallTU_of (hc) (by simp [AV.pur]; rfl) ?_)
   try simp
   exact this
 ·have h0:o.es = []:=by
   first
    | exact hz
    | exact List.eq_nil_of_length_eq_zero (by omega)
  rw [h0] at hra
  simp only [ckO] at hra
  subst hra
  have:=out7_last o s ins [] key kc _ hkc (.inr ⟨rfl,rfl⟩) (fun h=>by have:=h3 (by omega); simp [h0] at this) (fun h=>by have:=h3 (by omega); simp [h0] at this) hi
  simp at this
  exact this
theorem Out7_spec (o:Opr) (ins:List Ty) (hes:∀ e ∈ o.es,We 1000000000 e ∧ sizeE e ≤ 1000000000) (hkey:We 1000000000 o.key ∧ sizeE o.key ≤ 1000000000) (hl:o.es.length ≤ 1000000) (hi:ins.length ≤ 1000000) :
  Abs.Fn Tryz.prog op_Out_i [] [.p (encO o),.p (.slice (ins.map encT))] (tyR (outP o ins)) []:=by
 apply op_Out_fn
 simp [op_Out]
 (first | refine aCall_fold rfl ?_ | refine aCallT_fold rfl ?_)
 (first | refine aCallU_p (kdShapes_spec) ?_ | refine aCallTU_p (kdShapes_spec) ?_ | refine aCallU_of (kdShapes_spec) ?_ | refine aCallTU_of (kdShapes_spec) rfl ?_ | refine aCallTU_of (kdShapes_spec) (by simp [AV.pur]; rfl) ?_)
 try simp
 have hk:=ofK_spec kdL o.k
 rcases lookK_cases o ins.length with ⟨h,hlk⟩ | ⟨h,s,hlk,h1,h2,h3,h4⟩
 ·rw [hlk] at hk
  have:outP o ins = .er 6:=by simp only [outP]; rw [if_pos (by omega)]
  rw [this]
  (first | refine aCall_fold rfl ?_ | refine aCallT_fold rfl ?_)
  (first | refine aCallU_p (hk) ?_ | refine aCallTU_p (hk) ?_ | refine aCallU_of (hk) ?_ | refine aCallTU_of (hk) rfl ?_ | refine aCallTU_of (hk) (by simp [AV.pur]; rfl) ?_)
  try simp [encK,noK]
  refine aMerge_intro true (fun h=>by simp at h) ?_
  simp
  exact tyR_gives (by simp [R.get,R.num])
 ·rw [hlk] at hk
  have n0:¬ (o.k < 1 ∨ 9 < o.k):=by omega
  (first | refine aCall_fold rfl ?_ | refine aCallT_fold rfl ?_)
  (first | refine aCallU_p (hk) ?_ | refine aCallTU_p (hk) ?_ | refine aCallU_of (hk) ?_ | refine aCallTU_of (hk) rfl ?_ | refine aCallTU_of (hk) (by simp [AV.pur]; rfl) ?_)
  try simp [encK,noK]
  refine aMerge_intro (s.name && !nameS o.name) (fun _=>aMerge_intro (!nameS o.name) (fun _=>?_) ?_) ?_
  ·(first | refine aCall_fold rfl ?_ | refine aCallT_fold rfl ?_)
   (first | refine aCallU_p (name7_spec o.name) ?_ | refine aCallTU_p (name7_spec o.name) ?_ | refine aCallU_of (name7_spec o.name) ?_ | refine aCallTU_of (name7_spec o.name) rfl ?_ | refine aCallTU_of (name7_spec o.name) (by simp [AV.pur]; rfl) ?_)
   try simp [encK]
  ·simp
  ·simp
   refine ⟨fun q1 q2=>?_,fun q hml=>?_⟩
   ·have:outP o ins = .er 6:=by
     simp only [outP]; rw [if_neg n0,if_pos ⟨by simpa [h1] using q1,q2⟩]
    rw [this]
    exact tyR_gives (by simp [R.get,R.num])
   have n1:¬ ((o.k = 1 ∨ o.k = 9) ∧ nameS o.name = false):=fun w=>by have:=q (by rw [h1]; simpa using w.1); simp [this] at w
   (first | refine aCall_fold rfl ?_ | refine aCallT_fold rfl ?_)
   (first | refine aCallU_p (fields7_spec s o ins.length) ?_ | refine aCallTU_p (fields7_spec s o ins.length) ?_ | refine aCallU_of (fields7_spec s o ins.length) ?_ | refine aCallTU_of (fields7_spec s o ins.length) rfl ?_ | refine aCallTU_of (fields7_spec s o ins.length) (by simp [AV.pur]; rfl) ?_)
   try simp [encK]
   refine ⟨fun q2=>?_,fun q2=>?_⟩
   ·have:outP o ins = .er 1:=by
     simp only [outP]; rw [if_neg n0,if_neg n1,if_pos (by rw [h4] at q2; simpa [Classical.or_iff_not_imp_left] using q2)]
    rw [this]
    exact tyR_gives (by simp [R.get,R.num])
   rw [h4,Bool.and_eq_true] at q2
   have n2:¬ (fieldsO o = false ∨ insO o.k ins.length = false):=by simp [q2.1,q2.2]
   (first | refine aCall_fold rfl ?_ | refine aCallT_fold rfl ?_)
   (first | refine aCallU_p (types7_spec ins) ?_ | refine aCallTU_p (types7_spec ins) ?_ | refine aCallU_of (types7_spec ins) ?_ | refine aCallTU_of (types7_spec ins) rfl ?_ | refine aCallTU_of (types7_spec ins) (by simp [AV.pur]; rfl) ?_)
   try simp
   have ht1:=types7_spec [o.t]
   have hanyt:anyBad [o.t] = decide (checkT o.t 0 ≠ 0):=by simp [anyBad]
   refine aMerge_intro (anyBad ins || (s.typed && anyBad [o.t])) (fun hz=>aMerge_intro (anyBad [o.t]) (fun _=>?_) ?_) ?_
   ·(first | refine aCall_fold rfl ?_ | refine aCallT_fold rfl ?_)
    (first | refine aCallU_p (ht1) ?_ | refine aCallTU_p (ht1) ?_ | refine aCallU_of (ht1) ?_ | refine aCallTU_of (ht1) rfl ?_ | refine aCallTU_of (ht1) (by simp [AV.pur]; rfl) ?_)
    try simp [encK]
   ·simp [show anyBad ins = false from hz]
   ·simp
    refine ⟨fun q3=>?_,fun q3 q4=>?_⟩
    ·have:outP o ins = .er 5:=by
      simp only [outP]; rw [if_neg n0,if_neg n1,if_neg n2,if_pos]
      rw [hanyt,h2] at q3
      rcases q3 with q3 | q3
      ·exact .inl q3
      ·exact .inr (by simpa using q3)
     rw [this]
     exact tyR_gives (by simp [R.get,R.num])
    have n3:¬ (ins.any (fun t=>decide (checkT t 0 ≠ 0)) = true ∨ (o.k = 1 ∧ checkT o.t 0 ≠ 0)):=by
     rw [hanyt,h2] at q4
     rintro (w | w)
     ·have:anyBad ins = true:=w
      simp [this] at q3
     ·have:=q4 (by simpa using w.1)
      simp at this
      exact w.2 this
    have hout:outP o ins = match (if keyedO o.k then checkE o.key (ins.getD 0 noT) else .ok noT) with
      | .er x=>.er x
      | .ok key=>match ckO (ins.getD 0 noT) o.es with
       | .er x=>.er x
       | .ok ts=>lastO o key ts ins:=by
     simp only [outP]; rw [if_neg n0,if_neg n1,if_neg n2,if_neg n3]
     rfl
    have hip:o.k ≠ 1→0 < ins.length:=by
     have:=q2.2
     intro h1
     simp only [insO,if_neg h1] at this
     split at this
     ·simp at this; omega
     ·simp at this; omega
    have hes1:(o.k = 2 ∨ o.k = 3 ∨ o.k = 4 ∨ o.k = 5→0 < o.es.length) ∧ (o.k = 1→o.es.length = 0):=by
     have:=q2.1
     simp only [fieldsO,Bool.and_eq_true] at this
     have:=this.1.1.1.2
     constructor
     ·intro hh
      by_cases h4:o.k = 4
      ·rw [if_neg (by omega),if_pos h4] at this
       simp at this; omega
      ·rw [if_pos (by omega)] at this
       simp at this; omega
     ·intro hh
      rw [if_neg (by omega),if_neg (by omega)] at this
      simpa using this
    refine ⟨fun hkd=>?_,fun hkd=>?_⟩
    ·have hkk:keyedO o.k = true:=by rw [← h3]; exact hkd
     have hk1:o.k ≠ 1:=by simp [keyedO] at hkk; omega
     obtain ⟨t0,rins,hins⟩:∃ t0 r,ins = t0 :: r:=by
      match ins,hip hk1 with
      | u :: r,_=>exact ⟨u,r,rfl⟩
     have hin0:ins.getD 0 noT = t0:=by subst hins; rfl
     have hi0:∀ h:0 < ins.length,ins[0] = t0:=by subst hins; intro _; rfl
     have hc:=CheckE_spec o.key t0 hkey.1 hkey.2
     rw [hin0,if_pos hkk] at hout
     simp [hip hk1,hi0]
     cases hr:checkE o.key t0 with
     | er x =>
      rw [hr] at hc hout
      simp only at hout
      simp only [tyR] at hc
      have hx:=check7_er hr
      (first | refine aCall_fold rfl ?_ | refine aCallT_fold rfl ?_)
      (first | refine aCallU_p (hc) ?_ | refine aCallTU_p (hc) ?_ | refine aCallU_of (hc) ?_ | refine aCallTU_of (hc) rfl ?_ | refine aCallTU_of (hc) (by simp [AV.pur]; rfl) ?_)
      try simp [hx,R.num,R.get]
      rw [hout]
      exact tyR_gives (by simp [R.get,R.num])
     | ok u =>
      rw [hr] at hc hout
      simp only at hout
      simp only [tyR] at hc
      have hmid:=out7_mid o s ins u _ hes hl (.inl rfl) hes1.1 hes1.2 hip (outP o ins) (by rw [hout,hin0])
      simp at hmid
      (first | refine aCall_fold rfl ?_ | refine aCallT_fold rfl ?_)
      (first | refine aCallU_p (hc) ?_ | refine aCallTU_p (hc) ?_ | refine aCallU_of (hc) ?_ | refine aCallTU_of (hc) rfl ?_ | refine aCallTU_of (hc) (by simp [AV.pur]; rfl) ?_)
      try simp [R.num,R.get]
      exact hmid
    ·rw [if_neg (by rw [← h3,hkd]; simp)] at hout
     have hmid:=out7_mid o s ins noT _ hes hl (.inr ⟨rfl,rfl⟩) hes1.1 hes1.2 hip (outP o ins) (by rw [hout])
     simp at hmid
     exact hmid
theorem Apply7_spec (o:Opr) (x:Va) (r:R (List Va)) (h:applyO o x = some r) (hne:∀ e ∈ o.es,We 1000000000 e) (hx:Wv 1000000000 x) (hl:o.es.length ≤ 8) (h3:o.k = 3→o.es.length = 1):Abs.Fn Tryz.prog op_Apply_i [] [.p (encO o),.p (encV x)] (allR r) []:=by
 apply op_Apply_fn
 simp [op_Apply]
 refine ⟨fun hk hml=>?_,fun n2 n3 n4=>?_⟩
 rotate_left
 ·have:applyO o x = some (.ok [x]):=by simp only [applyO]; rw [if_neg (by omega),if_neg (by omega)]
  rw [this] at h
  simp only [Option.some.injEq] at h
  subst h
  exact gives_pure (by simp [AV.pur,allR,toTs])
 have hk:o.k = 2 ∨ o.k = 3 ∨ o.k = 4:=by omega
 obtain ⟨r0,hr0,hrr⟩:∃ r0,evL o.es x = some r0 ∧ r = (match r0 with
   | .er f=>.er f
   | .ok l=>if o.k = 3 then .ok (if (l.getD 0 zeroV).truth then [x] else []) else .ok l):=by
  by_cases hk3:o.k = 3
  ·simp only [applyO] at h
   rw [if_neg (by omega),if_pos hk3] at h
   split at h
   ·simp at h
   ·rename_i f hf
    simp at h; subst h
    exact ⟨_,hf,rfl⟩
   ·rename_i l hl
    simp only [Option.some.injEq] at h; subst h
    exact ⟨_,hl,by simp [hk3]⟩
  ·simp only [applyO] at h
   rw [if_pos (by omega)] at h
   refine ⟨r,h, ?_⟩
   cases r <;> simp [hk3]
 refine loop_by (σ:=Nat × List Va) (n:=3) (fun q=>[.own 2 (q.2.map encV),.p (.int .i64 q.1)]) (fun q=>[.box (boxP o),.box [.p (.int .i64 x.k),.p (.int .i64 x.i),.p (.bool x.b),.p (.str x.s),.p (.slice (x.t.map encV))],.row q.2.length 5]) (fun q=>q.1 ≤ o.es.length ∧ evL (o.es.take q.1) x = some (.ok q.2) ∧ q.2.length = q.1) (fun q=>o.es.length - q.1) [.slot 0 5] (0,[]) (fun _=>rfl) ⟨rfl,rfl⟩ ⟨by simp,by simp [evL],rfl⟩ (fun q B hq hB=>?_)
 obtain ⟨i,l⟩:=q
 obtain ⟨h1,h2,h4⟩:=hq
 simp only at h1 h2 h4
 simp [op_Apply_L1]
 refine ⟨fun hlt=>?_,fun hge=>?_⟩
 ·have hsn:=evL_snoc x o.es i l hlt h2
  obtain ⟨r',g1,g2⟩:=evL_take_some x o.es (i + 1) r0 hr0
  rw [hsn] at g1
  have n2:=hne o.es[i] (by simp)
  cases hev:evE o.es[i] x with
  | none=>simp [hev] at g1
  | some u =>
   have hfn:=Eval_spec o.es[i] x n2 hx u hev
   simp [hlt]
   cases u with
   | er f =>
    have hne0:=evE_er _ _ _ hev
    simp only [twoR] at hfn
    (first | refine aCall_fold rfl ?_ | refine aCallT_fold rfl ?_)
    (first | refine aCallU_p (hfn) ?_ | refine aCallTU_p (hfn) ?_ | refine aCallU_of (hfn) ?_ | refine aCallTU_of (hfn) rfl ?_ | refine aCallTU_of (hfn) (by simp [AV.pur]; rfl) ?_)
    try simp [R.num,R.get,hne0]
    simp only [hev] at hsn
    have:=evL_er_take x o.es (i + 1) f hsn
    rw [hr0] at this
    simp at this
    subst this
    subst hrr
    exact gives_pure (by simp [AV.pur,allR,toTs])
   | ok v =>
    simp only [twoR] at hfn
    (first | refine aCall_fold rfl ?_ | refine aCallT_fold rfl ?_)
    (first | refine aCallU_p (hfn) ?_ | refine aCallTU_p (hfn) ?_ | refine aCallU_of (hfn) ?_ | refine aCallTU_of (hfn) rfl ?_ | refine aCallTU_of (hfn) (by simp [AV.pur]; rfl) ?_)
    try simp [R.num,R.get]
    refine ⟨⟨encV_size l,by simp,by simp; omega⟩, ?_⟩
    rw [IntWalk.i64_in _ (by omega)]
    simp only [hev] at hsn
    refine cast (congrArg (fun x=>B x _) ?_) (hB (i + 1,l ++ [v]) _ ⟨by simp only; omega,hsn,by simp [h4]⟩ (by simp only; omega) ?_ ?_ ?_ (by simp [AV.under,AV.under1]))
    ·simp
    ·simp
    ·simp [Ob.below,AV.under1]
    ·simp
 ·have:i = o.es.length:=by omega
  subst this
  rw [List.take_of_length_le (Nat.le_refl _),hr0] at h2
  simp at h2
  subst h2
  simp only at hrr
  refine ⟨fun hk3=>?_,fun hk3=>?_⟩
  ·have hl1:=h3 hk3
   rw [if_pos hk3] at hrr
   match l,(by omega:l.length = 1) with
   | [v],_ =>
    subst hrr
    simp
    refine ⟨fun ht=>?_,fun ht=>?_⟩
    ·have ht:v.truth = false:=ht
     exact gives_pure (by simp [AV.pur,allR,toTs,ht])
    ·have ht:v.truth = true:=ht
     exact gives_pure (by simp [AV.pur,allR,toTs,ht])
  ·rw [if_neg hk3] at hrr
   subst hrr
   exact gives_pure (by simp [AV.pur,allR,toTs])
end Go.Proofs.YtdmgbhamigegfaaGreatDoor
