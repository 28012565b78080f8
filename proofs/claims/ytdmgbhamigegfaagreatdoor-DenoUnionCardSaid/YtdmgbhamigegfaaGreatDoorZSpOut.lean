/- The document's operators: which may be, what type goes out, over trees. -/
import Derived.Test.YtdmgbhamigegfaaGreatDoorZPuOp
import Derived.Test.YtdmgbhamigegfaaGreatDoorZSpBudTQ
import Derived.Test.YtdmgbhamigegfaaGreatDoorS2
set_option linter.unusedSimpArgs false
set_option linter.unusedVariables false
namespace Go.Proofs.YtdmgbhamigegfaaGreatDoor
open Go Go.Abs
attribute [local irreducible] Abs.Fn
theorem zy8 {c:UInt8}:nameC c=true↔((97≤c.toNat∧c.toNat≤122)∨(48≤c.toNat∧c.toNat≤57)∨c.toNat=95):=by
 simp [nameC]
theorem zrG (s:List UInt8):Abs.Fn Tryz.prog zcI [] [.p (.str s)] (.p (.bool (nameS s))) []:=by
 apply zqT
 cases s with
 | nil =>
  simp [zfx]
  refine zz true (fun h=>by simp at h) ?_
  refine zz true (fun h=>by simp at h) ?_
  simp
  exact zg rfl
 | cons c r =>
  simp [zfx,byteT]
  intro _
  refine ⟨fun h=>zg ?_,fun h1 h2 h3 h4=>?_⟩
  ·have:nameS (c::r)=false:=by
    rw [Bool.eq_false_iff]
    simp only [nameS,ne_eq,Bool.and_eq_true,decide_eq_true_eq]
    omega
   rw [this]
  ·have hn:nameS (c::r)=(c::r).all nameC:=by
    have e:(decide (r.length≤15) && (decide (97≤c.toNat) && decide (c.toNat≤122)))=true:=by
     simp only [Bool.and_eq_true,decide_eq_true_eq]
     omega
    simp only [nameS,e,Bool.true_and]
   rw [hn]
   refine zA (σ:=Nat) (n:=0) (fun i=>[.p (.int .i64 i)]) (fun _=>[]) (fun i=>i≤(c::r).length∧((c::r).drop i).all nameC=(c::r).all nameC) (fun i=>(c::r).length - i) [] 0 (fun _=>rfl) ⟨rfl,rfl⟩ (by simp) (fun i B hi hB=>?_)
   generalize hs:c::r=s at hi hB ⊢
   obtain ⟨g1,g2⟩:=hi
   simp [zjT,byteT]
   intro hml
   refine ⟨fun hlt=>?_,fun hge=>?_⟩
   ·have hd:=zkt nameC s i hlt
    rw [g2] at hd
    simp [hlt]
    refine ⟨fun q1 q2 q3=>zg ?_,fun q=>?_⟩
    ·have:nameC s[i]=false:=by
      rw [Bool.eq_false_iff,ne_eq,zy8]
      omega
     rw [hd,this]; rfl
    ·have:nameC s[i]=true:=by
      rw [zy8]
      omega
     rw [this,Bool.true_and] at hd
     rw [IntWalk.i64_in _ (by simp [maxLen] at *; omega)]
     exact hB (i + 1) _ ⟨by omega,hd.symm⟩ (by omega) (by simp) (by simp) (by simp) (by simp [AV.under,AV.under1])
   ·rw [List.drop_of_length_le hge] at g2
    exact zg (by rw [← g2]; rfl)
theorem zCy (e:Ex):Abs.Fn Tryz.prog zgO [] [.p (encE e)] (.p (.bool (bareE e))) []:=by
 apply zqX
 obtain ⟨op,⟨k,i,b,s,t⟩,n,a⟩:=e
 simp [ziB]
 refine zg ?_
 simp only [T.bool.injEq]
 rw [Bool.eq_iff_iff]
 simp only [bareE,Bool.and_eq_true,decide_eq_true_eq,zfp]
 simp [and_assoc]
theorem zuF (o:Opr):Abs.Fn Tryz.prog zdq [] [.p (encO o)] (.p (.bool (zas o.k))) []:=by
 apply zp0
 simp [zhF]
 refine zg ?_
 simp only [T.bool.injEq]
 rw [Bool.eq_iff_iff]
 simp [zas,or_assoc]
theorem zEI (k:Int) (m:Nat):Abs.Fn Tryz.prog zhI [] [.p (.int .i64 k),.p (.int .i64 m)] (.p (.bool (insO k m))) []:=by
 apply zsm
 simp [zjF]
 refine ⟨fun h=>zg ?_,fun h=>⟨fun h8=>zg ?_,fun h8=>zg ?_⟩⟩
 ·simp only [T.bool.injEq]
  rw [Bool.eq_iff_iff]
  simp [insO,h]
 ·simp only [T.bool.injEq]
  rw [Bool.eq_iff_iff]
  simp [insO,h8]
  omega
 ·simp only [T.bool.injEq]
  rw [Bool.eq_iff_iff]
  simp [insO,h,h8]
  omega
theorem zzP (o:Opr) (hl:o.es.length≤1000000):Abs.Fn Tryz.prog ze8 [] [.p (encO o)] (.p (.bool (!zeA o))) []:=by
 have hk:=zuF o
 have hb:=zCy o.key
 simp only [zgb,zhn] at hk hb
 apply zoz
 have key:∀ (x:Bool) (lo hi:Int),x=decide (o.k=1∨o.k=9)→(if o.k=2∨o.k=3∨o.k=5 then lo=1∧hi=1 else if o.k=4 then lo=1∧hi=4 else lo=0∧hi=0) →
   zbI (.bptr 0 0) (.p (.bool x)) (.p (.int .i64 lo)) (.p (.int .i64 hi)) [.box ((encO o).cells.map .p)] (fun v H'=>Gives 0 v H' (.p (.bool (!zeA o))) []):=by
  intro x lo hi hx hlo
  have hes:(if o.k=2∨o.k=3∨o.k=5 then decide (o.es.length=1) else if o.k=4 then decide (1≤o.es.length∧o.es.length≤4) else decide (o.es.length=0))=(decide (lo≤o.es.length∧(o.es.length:Int)≤hi)):=by
   split at hlo
   ·rw [if_pos (by assumption),hlo.1,hlo.2]
    congr 1
    apply propext
    omega
   ·rw [if_neg (by assumption)]
    split at hlo
    ·rw [if_pos (by assumption),hlo.1,hlo.2]
     congr 1
     apply propext
     omega
    ·rw [if_neg (by assumption),hlo.1,hlo.2]
     congr 1
     apply propext
     omega
  have hff:zeA o=((decide (o.k=1∨o.k=9) || decide (o.name=[])) && (decide (o.k=1) || decide (o.t.kind=0∧o.t.of.length=0)) && decide (lo≤o.es.length∧(o.es.length:Int)≤hi) &&
   (zas o.k || bareE o.key) && (if o.k=5 then decide (1≤o.f∧o.f≤4) else decide (o.f=0)) && (if o.k=6 then decide (1≤o.n∧o.n≤1000) else decide (o.n=0))):=by
   rw [zeA,hes]
  subst hx
  simp [zbI]
  refine ⟨fun h1 h2 h3=>zg ?_,fun h1=>⟨fun h2 h3=>zg ?_,fun h2 _=>⟨fun h3=>zg ?_,fun h3 h4=>?_⟩⟩⟩
  ·rw [hff]; simp [h1,h2,h3]
  ·rw [hff]; simp [h2]; grind
  ·rw [hff]; simp; grind
  ·refine zo rfl rfl hk ?_
   simp
   refine zz (!bareE o.key) (fun _=>?_) ?_
   ·refine zo rfl rfl hb ?_
    simp
   ·simp
    refine ⟨fun h5 h6=>zg ?_,fun h5=>⟨fun h6=>zg ?_,fun h6 h7=>zg ?_⟩⟩
    ·rw [hff]; simp [h5,h6]
    ·rw [hff]; simp; grind
    ·rw [hff]; simp; grind
 simp [zgP]
 refine ⟨fun h=>?_,fun a1 a2 a3=>⟨fun h=>?_,fun h=>?_⟩⟩
 ·have:=key (decide (o.k=1) || decide (o.k=9)) 1 1 (by simp) (by rw [if_pos h]; simp)
  simpa using this
 ·have:=key (decide (o.k=1) || decide (o.k=9)) 1 4 (by simp) (by rw [if_neg (by omega),if_pos h]; simp)
  simpa using this
 ·have:=key (decide (o.k=1) || decide (o.k=9)) 0 0 (by simp) (by rw [if_neg (by omega),if_neg h]; simp)
  simpa using this
def boxO (o:Opr):List AV:=(encO o).cells.map .p
@[simp] theorem zDP {o:Opr}:boxO o=[.p (.int .i64 o.k),.p (.str o.name),.p (.int .i64 o.t.kind),.p (.slice (o.t.of.map encT)),.p (.slice (o.es.map encE)),.p (.str o.key.op),.p (.int .i64 o.key.v.k),.p (.int .i64 o.key.v.i),.p (.bool o.key.v.b),.p (.str o.key.v.s),.p (.slice (o.key.v.t.map encV)),.p (.int .i64 o.key.n),.p (.slice (o.key.a.map encE)),.p (.int .i64 o.f),.p (.int .i64 o.n)]:=id rfl
theorem zDx (t:Ty):sameT t t=true:=(zqB t t).2 rfl
theorem zFk {l:List Ty} (h:0 < l.length):(l.drop 1).all (fun t=>sameT t (l.getD 0 (.mk 0 [])))=l.all (fun t=>sameT t (l.getD 0 (.mk 0 []))):=by
 cases l with
 | nil=>simp at h
 | cons t r=>simp [zDx]
theorem zDg (o:Opr) (ins:List Ty) (key:Ty) (ts:List Ty) (hi:o.k≠1→0 < ins.length) (ht:o.k=2∨o.k=3∨o.k=4∨o.k=5→0 < ts.length) (hk1:o.k≠1) :
  Abs.Fn Tryz.prog zdS [] [.p (encO o),.p (.slice (ins.map encT)),.p (encT key),.p (.slice (ts.map encT))] (tyR (madeO o ins key ts)) []:=by
 have hloop:∀ (l:List Ty),0 < l.length→∀ (f:AV→AV→AV→List Ob→(List AV→List Ob→Prop)→(AV→List Ob→Prop)→Prop),(f=zfY∨f=zfZ) →
   zD 1 [.p (.int .i64 1)] [.box (boxO o),.box [.p (.int .i64 key.kind),.p (.slice (key.of.map encT))],.box [.p (.int .i64 0),.full []]] fun xs H B=>f (.p (.slice (l.map encT))) (.bptr 2 0) (xs.getD 0 .top) H B
    (fun v H'=>Gives 0 v H' (tyR (if l.all (fun t=>sameT t (l.getD 0 (.mk 0 []))) then .ok (l.getD 0 (.mk 0 [])) else .er 5)) []):=by
  intro l hl f hf
  refine zA (σ:=Nat) (n:=3) (fun i=>[.p (.int .i64 i)]) (fun i=>[.box (boxO o),.box [.p (.int .i64 key.kind),.p (.slice (key.of.map encT))],.box [.p (.int .i64 0),.full []]])
   (fun i=>1≤i∧i≤l.length∧(l.drop i).all (fun t=>sameT t (l.getD 0 (.mk 0 [])))=l.all (fun t=>sameT t (l.getD 0 (.mk 0 [])))) (fun i=>l.length - i) [] 1 (fun _=>rfl) ⟨rfl,rfl⟩ ⟨by omega,by omega,zFk hl⟩ (fun i B hi hB=>?_)
  obtain ⟨g0,g1,g2⟩:=hi
  obtain ⟨u,r,rfl⟩:∃ u r,l=u::r:=by cases l with
   | nil=>simp at hl
   | cons u r=>exact ⟨u,r,rfl⟩
  have hu:(u::r).getD 0 (.mk 0 [])=u:=rfl
  rw [hu] at g2 ⊢
  have hst:∀ (t:Ty),Abs.Fn Tryz.prog zan [] [.p (encT t),.p (encT u)] (.p (.bool (sameT t u))) []:=fun t=>zaZ t u
  simp only [zc2] at hst
  have hres:(i < (u::r).length→∀ h:i < (u::r).length,sameT (u::r)[i] u=false→(u::r).all (fun t=>sameT t u)=false)∧(i < (u::r).length→∀ h:i < (u::r).length,sameT (u::r)[i] u=true→((u::r).drop (i + 1)).all (fun t=>sameT t u)=(u::r).all (fun t=>sameT t u)):=by
   refine ⟨fun _ h hf=>?_,fun _ h ht=>?_⟩
   ·rw [← g2,zkt _ _ _ h,hf]; rfl
   ·rw [← g2,zkt _ _ _ h,ht]; simp
  generalize hlr:u::r=l at *
  have hl0:∀ h:0 < l.length,l[0]=u:=by subst hlr; intro _; rfl
  simp only [hu] at hB
  generalize hA:l.all (fun t=>sameT t u)=A at *
  rcases hf with rfl | rfl
  all_goals
   simp [zfY,zfZ]
   intro hml
   refine ⟨fun hlt=>?_,fun hge=>?_⟩
   ·simp [hlt,hl,hl0 hl]
    refine zF rfl (hst _) rfl ?_
    simp
    refine ⟨fun hz=>?_,fun hz=>?_⟩
    ·have:=hres.1 hlt hlt hz
     rw [this]
     exact zj (by simp [AV.pur,tyR,R.get,R.num])
    ·rw [IntWalk.i64_in _ (by simp [maxLen] at *; omega)]
     exact hB (i + 1) _ ⟨by omega,by omega,hres.2 hlt hlt hz⟩ (by omega) (by simp) (by simp [Ob.below,AV.under1]) (by simp) (by simp [AV.under,AV.under1])
   ·rw [List.drop_of_length_le hge] at g2
    simp [hl,hl0 hl,← g2]
    exact zj (by simp [AV.pur,tyR,R.get,R.num])
 have h0:∀ l:List Ty,0 < l.length→∃ u r,l=u::r:=fun l hl=>by cases l with
  | nil=>simp at hl
  | cons u r=>exact ⟨u,r,rfl⟩
 apply zqZ
 simp [ziC]
 refine ⟨fun h2=>?_,fun n2=>⟨fun h3=>?_,fun n3=>⟨fun h4=>?_,fun n4=>⟨fun h56=>?_,fun n5 n6=>⟨fun h7=>?_,fun n7=>⟨fun h8=>?_,fun n8=>?_⟩⟩⟩⟩⟩⟩
 ·obtain ⟨u,r,rfl⟩:=h0 ts (ht (.inl h2))
  simp
  exact zj (by simp [AV.pur,madeO,h2,tyR,R.get,R.num])
 ·obtain ⟨u,r,rfl⟩:=h0 ts (ht (by simp [h3]))
  obtain ⟨u',r',rfl⟩:=h0 ins (hi hk1)
  simp
  refine ⟨fun hz=>?_,fun hz=>?_⟩
  ·exact zj (by simp [AV.pur,madeO,h3,hz,tyR,R.get,R.num])
  ·exact zj (by simp [AV.pur,madeO,h3,hz,tyR,R.get,R.num])
 ·have:=hloop ts (ht (by simp [h4])) _ (.inl rfl)
  simp only [zDP] at this
  have he:madeO o ins key ts=(if ts.all (fun t=>sameT t (ts.getD 0 (.mk 0 []))) then .ok (ts.getD 0 (.mk 0 [])) else .er 5):=by simp [madeO,h4]
  rw [he]
  exact this
 ·have hp:=zcA 1
  have hck:=zaq (.mk 4 [key,.mk 1 []])
  simp at hp hck
  have h5:o.k=5→((Option.map encT ts[0]?).getD default).cells.length=2:=fun h=>by
   obtain ⟨u,r,rfl⟩:=h0 ts (ht (by simp [h]))
   simp
  refine ⟨fun h=>ht (by simp [h]),h5,fun h=>by rw [h5 h]; omega, ?_⟩
  refine zz (decide ((ts.getD 0 (.mk 0 [])).kind≠1)) (fun h=>?_) ?_
  ·obtain ⟨u,r,rfl⟩:=h0 ts (ht (by simp at h; simp [h]))
   simp
  ·simp
   refine ⟨fun q1 q2=>?_,fun q=>?_⟩
   ·have e0:madeO o ins key ts=.er 5:=by
     simp only [madeO]
     rw [if_neg n2,if_neg n3,if_neg n4,if_pos h56,if_pos ⟨q1,by simpa using q2⟩]
    rw [e0]
    exact zj (by simp [AV.pur,tyR,R.get,R.num])
   ·have e0:madeO o ins key ts=if zI (.mk 4 [key,.mk 1 []]) 0≠0 then .er (zI (.mk 4 [key,.mk 1 []]) 0) else .ok (.mk 4 [key,.mk 1 []]):=by
     simp only [madeO]
     rw [if_neg n2,if_neg n3,if_neg n4,if_pos h56]
     exact if_neg (by rintro ⟨hh1,hh2⟩; exact hh2 (by have:=q hh1; simpa using this))
    refine zF rfl hp rfl ?_
    simp
    refine zo rfl rfl hck ?_
    simp
    refine ⟨fun q=>?_,fun q=>?_⟩
    ·rw [e0,if_pos (by simpa using q)]
     exact zj (by simp [AV.pur,tyR,R.get,R.num])
    ·rw [e0,if_neg (by simpa using q)]
     exact zj (by simp [AV.pur,tyR,R.get,R.num])
 ·exact zj (by simp [AV.pur,madeO,h7,tyR,R.get,R.num])
 ·have:=hloop ins (hi hk1) _ (.inr rfl)
  simp only [zDP] at this
  have he:madeO o ins key ts=(if ins.all (fun t=>sameT t (ins.getD 0 (.mk 0 []))) then .ok (ins.getD 0 (.mk 0 [])) else .er 5):=by simp [madeO,h8]
  rw [he]
  exact this
 ·obtain ⟨u',r',rfl⟩:=h0 ins (hi hk1)
  simp
  exact zj (by simp [AV.pur,madeO,n2,n3,n4,n5,n6,n7,n8,tyR,R.get,R.num])
theorem zv7 (t:Ty):∀ (a:List Ex) (i:Nat) (l:List Ty),(hi:i < a.length)→ckO t (a.take i)=.ok l→ckO t (a.take (i + 1))=match zaL a[i] t with
  | .er x=>.er x
  | .ok u=>.ok (l++[u])
 | [],i,l,hi,_=>by simp at hi
 | e::r,0,l,hi,h=>by
  simp only [List.take_zero,ckO] at h
  cases h
  simp only [List.take_succ_cons,List.take_zero,ckO,List.getElem_cons_zero]
  cases zaL e t <;> rfl
 | e::r,i + 1,l,hi,h=>by
  simp only [List.take_succ_cons,ckO] at h ⊢
  simp only [List.getElem_cons_succ]
  cases hc:zaL e t with
  | er x=>rw [hc] at h; simp at h
  | ok u =>
   rw [hc] at h
   simp only at h ⊢
   cases hr:ckO t (r.take i) with
   | er x=>rw [hr] at h; simp at h
   | ok m =>
    rw [hr] at h
    simp only at h
    cases h
    have hi':i < r.length:=by simpa using hi
    rw [zv7 t r i m hi' hr]
    cases zaL r[i] t <;> rfl
theorem zoQ (t:Ty):∀ (a:List Ex) (i:Nat) (f:Int),ckO t (a.take i)=.er f→ckO t a=.er f
 | [],i,f,h=>by simp [ckO] at h
 | e::r,0,f,h=>by simp [ckO] at h
 | e::r,i + 1,f,h=>by
  simp only [List.take_succ_cons,ckO] at h ⊢
  cases hc:zaL e t with
  | er x=>rw [hc] at h; exact h
  | ok u =>
   rw [hc] at h
   simp only at h ⊢
   cases hr:ckO t (r.take i) with
   | ok m=>rw [hr] at h; simp at h
   | er x=>rw [hr] at h; rw [zoQ t r i x hr]; exact h
theorem zv6 (t:Ty):∀ (a:List Ex) (l:List Ty),ckO t a=.ok l→l.length=a.length
 | [],l,h=>by simp only [ckO] at h; cases h; rfl
 | e::r,l,h=>by
  simp only [ckO] at h
  cases hc:zaL e t with
  | er x=>rw [hc] at h; simp at h
  | ok u =>
   rw [hc] at h
   simp only at h
   cases hr:ckO t r with
   | er x=>rw [hr] at h; simp at h
   | ok m=>rw [hr] at h; simp only at h; cases h; simp [zv6 t r m hr]
theorem zmj {e:Ex} {t:Ty} {f:Int} (h:zaL e t=.er f):f≠0:=by
 unfold zaL at h
 split at h
 ·cases h; decide
 ·split at h
  ·cases h; decide
  ·exact zv4 _ _ _ _ h
theorem zyM (o:Opr) (ins:List Ty) (hes:∀ e∈o.es,We 1000000000 e∧sizeE e≤1000000000) (hkey:We 1000000000 o.key∧sizeE o.key≤1000000000) (hl:o.es.length≤1000000) :
  Abs.Fn Tryz.prog zeB [] [.p (encO o),.p (.slice (ins.map encT))] (tyR (outO o ins)) []:=by
 have hg:=zrG o.name
 have hf:=zzP o hl
 have hin:=zEI o.k ins.length
 have hkd:=zuF o
 simp only [zgb] at hf hkd
 have hJ:∀ (kt:Ty) (kc:AV) (X:List Ob),((X=[]∧kt=.mk 0 []∧kc=.full [])∨(∃ u:Ty,X=[.box [.p (.int .i64 u.kind),.p (.slice (u.of.map encT))]])∧kc=.p (.slice (kt.of.map encT)))→zeA o=true→0 < ins.length→(∀ r,(match ckO (ins.getD 0 (.mk 0 [])) o.es with
   | .er x=>.er x
   | .ok ts=>madeO o ins kt ts)=r→outO o ins=r)→o.k≠1 →
   zdQ (.p (.slice (ins.map encT))) (.bptr 0 0) (.bptr 1 0) (.bptr 2 0) ([.box (boxO o),.box [.p (.int .i64 0),.full []],.box [.p (.int .i64 kt.kind),kc]]++X) (fun v H'=>Gives 0 v H' (tyR (outO o ins)) []):=by
  intro kt kc X hX hff hpos hout hk1
  have hall:∀ (l:List Ty),ckO (ins.getD 0 (.mk 0 [])) o.es=.ok l→Abs.Fn Tryz.prog zdS [] [.p (encO o),.p (.slice (ins.map encT)),.p (encT kt),.p (.slice (l.map encT))] (tyR (madeO o ins kt l)) []:=fun l hl'=>by
   refine zDg o ins kt l (fun _=>hpos) (fun h=>?_) hk1
   rw [zv6 _ _ _ hl']
   simp only [zeA,Bool.and_eq_true] at hff
   have:=hff.1.1.1.2
   by_cases h4:o.k=4
   ·rw [if_neg (by omega),if_pos h4] at this
    simp at this; omega
   ·rw [if_pos (by omega)] at this
    simp at this; omega
  obtain ⟨t0,rins,hins⟩:∃ t0 r,ins=t0::r:=by cases ins with
   | nil=>simp at hpos
   | cons u r=>exact ⟨u,r,rfl⟩
  have hin0:ins.getD 0 (.mk 0 [])=t0:=by subst hins; rfl
  have hi0:∀ h:0 < ins.length,ins[0]=t0:=by subst hins; intro _; rfl
  rw [hin0] at hout hall
  clear hins
  simp only [zgb,zc2] at hall
  unfold zdQ
  rcases hX with ⟨rfl,rfl,rfl⟩ | ⟨⟨u,rfl⟩,rfl⟩
  ·refine zA (σ:=Nat×List Ty) (n:=4) (fun q=>[.own 3 (q.2.map encT),.p (.int .i64 q.1)]) (fun q=>[.box (boxO o),.box [.p (.int .i64 0),.full []],.box [.p (.int .i64 0),.full []],.row q.2.length 2])
    (fun q=>q.1≤o.es.length∧ckO t0 (o.es.take q.1)=.ok q.2∧q.2.length=q.1) (fun q=>o.es.length - q.1) [.slot 0 2] (0,[]) (fun _=>rfl) ⟨rfl,rfl⟩ ⟨by simp,by simp [ckO],rfl⟩ (fun q B hq hB=>?_)
   obtain ⟨i,l⟩:=q
   obtain ⟨g1,g2,g3⟩:=hq
   try simp only [Ty.kind_mk,Ty.of_mk,List.map_nil] at hall
   simp only at g1 g2 g3
   simp [zgL]
   intro _
   refine ⟨fun hlt=>?_,fun hge=>?_⟩
   ·have hc:=zju o.es[i] t0 (hes _ (by simp)).1 (hes _ (by simp)).2
    have hsn:=zv7 t0 o.es i l hlt g2
    simp only [zhn,zc2] at hc
    simp [hlt,hpos,hi0]
    refine zF rfl hc (by simp [AV.pur,tyR]; rfl) ?_
    cases hr:zaL o.es[i] t0 with
    | er f =>
     rw [hr] at hsn
     have:=hout (.er f) (by rw [zoQ _ _ _ _ hsn])
     rw [this]
     have hf0:=zmj hr
     simp [tyR,R.get,R.num,hf0]
     exact zj (by simp [AV.pur,tyR,R.get,R.num])
    | ok u =>
     rw [hr] at hsn
     simp [tyR,R.get,R.num]
     refine ⟨⟨?_,by simp,by simp; omega⟩, ?_⟩
     ·intro e he
      simp at he
      obtain ⟨x,_,rfl⟩:=he
      simp
     rw [IntWalk.i64_in _ (by omega),show l.map encT++[T.agg [.int .i64 u.kind,.slice (u.of.map encT)]]=(l++[u]).map encT by simp]
     exact hB (i + 1,l++[u]) _ ⟨by simp; omega,hsn,by simp; omega⟩ (by simp; omega) (by simp) (by simp [Ob.below,AV.under1]) (by simp) (by simp [AV.under,AV.under1])
   ·have hi:i=o.es.length:=by omega
    subst hi
    rw [List.take_length] at g2
    have hm:=hall l g2
    have:=hout _ (by rw [g2])
    rw [this]
    refine zo rfl rfl hm ?_
    simp [tyR]
    exact zj (by simp [AV.pur,tyR])
  ·refine zA (σ:=Nat×List Ty) (n:=5) (fun q=>[.own 4 (q.2.map encT),.p (.int .i64 q.1)]) (fun q=>[.box (boxO o),.box [.p (.int .i64 0),.full []],.box [.p (.int .i64 kt.kind),.p (.slice (kt.of.map encT))],.box [.p (.int .i64 u.kind),.p (.slice (u.of.map encT))],.row q.2.length 2])
    (fun q=>q.1≤o.es.length∧ckO t0 (o.es.take q.1)=.ok q.2∧q.2.length=q.1) (fun q=>o.es.length - q.1) [.slot 0 2] (0,[]) (fun _=>rfl) ⟨rfl,rfl⟩ ⟨by simp,by simp [ckO],rfl⟩ (fun q B hq hB=>?_)
   obtain ⟨i,l⟩:=q
   obtain ⟨g1,g2,g3⟩:=hq
   simp only at g1 g2 g3
   simp [zgL]
   intro _
   refine ⟨fun hlt=>?_,fun hge=>?_⟩
   ·have hc:=zju o.es[i] t0 (hes _ (by simp)).1 (hes _ (by simp)).2
    have hsn:=zv7 t0 o.es i l hlt g2
    simp only [zhn,zc2] at hc
    simp [hlt,hpos,hi0]
    refine zF rfl hc (by simp [AV.pur,tyR]; rfl) ?_
    cases hr:zaL o.es[i] t0 with
    | er f =>
     rw [hr] at hsn
     have:=hout (.er f) (by rw [zoQ _ _ _ _ hsn])
     rw [this]
     have hf0:=zmj hr
     simp [tyR,R.get,R.num,hf0]
     exact zj (by simp [AV.pur,tyR,R.get,R.num])
    | ok w =>
     rw [hr] at hsn
     simp [tyR,R.get,R.num]
     refine ⟨⟨?_,by simp,by simp; omega⟩, ?_⟩
     ·intro e he
      simp at he
      obtain ⟨x,_,rfl⟩:=he
      simp
     rw [IntWalk.i64_in _ (by omega),show l.map encT++[T.agg [.int .i64 w.kind,.slice (w.of.map encT)]]=(l++[w]).map encT by simp]
     exact hB (i + 1,l++[w]) _ ⟨by simp; omega,hsn,by simp; omega⟩ (by simp; omega) (by simp) (by simp [Ob.below,AV.under1]) (by simp) (by simp [AV.under,AV.under1])
   ·have hi:i=o.es.length:=by omega
    subst hi
    rw [List.take_length] at g2
    have hm:=hall l g2
    have:=hout _ (by rw [g2])
    rw [this]
    refine zo rfl rfl hm ?_
    simp [tyR]
    exact zj (by simp [AV.pur,tyR])
 apply zsk
 simp [zjE]
 refine ⟨fun h=>?_,fun a1 a2=>?_⟩
 ·have:outO o ins=.er 6:=by simp only [outO]; rw [if_pos (by omega)]
  rw [this]
  exact zj (by simp [AV.pur,tyR,R.get,R.num])
 refine zz (!nameS o.name) (fun _=>?_) ?_
 ·refine zo rfl rfl hg ?_
  simp
 simp
 refine ⟨fun h h'=>?_,fun a3=>?_⟩
 ·have:outO o ins=.er 6:=by simp only [outO]; rw [if_neg (by omega),if_pos ⟨h,h'⟩]
  rw [this]
  exact zj (by simp [AV.pur,tyR,R.get,R.num])
 refine zo rfl rfl hf ?_
 simp
 refine zz (!insO o.k ins.length) (fun _=>?_) ?_
 ·refine zo rfl rfl hin ?_
  simp
 simp
 refine ⟨fun h=>?_,fun a4 a5=>?_⟩
 ·have:outO o ins=.er 1:=by simp only [outO]; rw [if_neg (by omega),if_neg (by rintro ⟨q1,q2⟩; simp [a3 q1] at q2),if_pos h]
  rw [this]
  exact zj (by simp [AV.pur,tyR,R.get,R.num])
 have hout:outO o ins=if ins.any (fun t=>decide (zI t 0≠0)) then .er 5
   else if o.k=1 then (if zI o.t 0≠0 then .er 5 else .ok o.t)
   else match (if zas o.k then zaL o.key (ins.getD 0 (.mk 0 [])) else .ok (.mk 0 [])) with
    | .er x=>.er x
    | .ok key=>match ckO (ins.getD 0 (.mk 0 [])) o.es with
     | .er x=>.er x
     | .ok ts=>madeO o ins key ts:=by
  simp only [outO]; rw [if_neg (by omega),if_neg (by rintro ⟨q1,q2⟩; simp [a3 q1] at q2),if_neg (by simp [a4,a5])]
  rfl
 have hff:zeA o=true:=by cases h:zeA o <;> simp_all
 have hpos:o.k≠1→0 < ins.length:=by
  intro h1
  have:=a5
  simp only [insO,if_neg h1] at this
  split at this
  ·simp at this; omega
  ·simp at this; omega
 refine zA (σ:=Nat) (n:=2) (fun i=>[.p (.int .i64 i)]) (fun i=>[.box (boxO o),.box [.p (.int .i64 0),.full []]])
  (fun i=>i≤ins.length∧(ins.drop i).any (fun t=>decide (zI t 0≠0))=ins.any (fun t=>decide (zI t 0≠0))) (fun i=>ins.length - i) [] 0 (fun _=>rfl) ⟨rfl,by simp⟩ (by simp) (fun i B hi hB=>?_)
 obtain ⟨g1,g2⟩:=hi
 generalize hA:ins.any (fun t=>decide (zI t 0≠0))=A at *
 simp [zk4]
 intro hml
 refine ⟨fun hlt=>?_,fun hge=>?_⟩
 ·have hck:=zaq ins[i]
  rw [List.drop_eq_getElem_cons hlt,List.any_cons] at g2
  simp only [zc2] at hck
  simp [hlt]
  refine zo rfl rfl hck ?_
  simp
  refine ⟨fun hz=>?_,fun hz=>?_⟩
  ·have:A=true:=by rw [← g2]; simp [hz]
   rw [hout,this,if_pos rfl]
   exact zj (by simp [AV.pur,tyR,R.get,R.num])
  ·rw [IntWalk.i64_in _ (by simp [maxLen] at *; omega)]
   exact hB (i + 1) _ ⟨by omega,by rw [← g2]; simp [hz]⟩ (by omega) (by simp) (by simp [Ob.below,AV.under1]) (by simp) (by simp [AV.under,AV.under1])
 ·rw [List.drop_of_length_le hge] at g2
  have hA0:A=false:=by rw [← g2]; rfl
  rw [hA0] at hout
  simp only [Bool.false_eq_true,if_false] at hout
  refine ⟨fun h1=>?_,fun h1=>?_⟩
  ·have hck:=zaq o.t
   simp only [zc2] at hck
   rw [if_pos h1] at hout
   refine zo rfl rfl hck ?_
   simp
   refine ⟨fun hz=>?_,fun hz=>?_⟩
   ·rw [hout,if_pos hz]
    exact zj (by simp [AV.pur,tyR,R.get,R.num])
   ·rw [hout,if_neg (by simpa using hz)]
    exact zj (by simp [AV.pur,tyR,R.get,R.num])
  ·rw [if_neg h1] at hout
   have hp:=hpos h1
   obtain ⟨t0,rins,hins⟩:∃ t0 r,ins=t0::r:=by cases ins with
    | nil=>simp at hp
    | cons u r=>exact ⟨u,r,rfl⟩
   have hin0:ins.getD 0 (.mk 0 [])=t0:=by subst hins; rfl
   have hi0:∀ h:0 < ins.length,ins[0]=t0:=by subst hins; intro _; rfl
   refine zo rfl rfl hkd ?_
   simp
   refine ⟨fun hk=>?_,fun hk=>?_⟩
   ·have hc:=zju o.key t0 hkey.1 hkey.2
    simp only [zhn,zc2] at hc
    rw [if_pos hk,hin0] at hout
    simp [hp,hi0]
    refine zF rfl hc (by simp [AV.pur,tyR]; rfl) ?_
    cases hr:zaL o.key t0 with
    | er f =>
     rw [hr] at hout
     have hf0:=zmj hr
     simp [tyR,R.get,R.num,hf0]
     rw [hout]
     exact zj (by simp [AV.pur,tyR,R.get,R.num])
    | ok u =>
     rw [hr] at hout
     simp [tyR,R.get,R.num]
     have:=hJ u _ [.box [.p (.int .i64 u.kind),.p (.slice (u.of.map encT))]] (.inr ⟨⟨u,rfl⟩,rfl⟩) hff hp (fun r h=>by rw [hout,← h,hin0]) h1
     simpa [tyR,R.get,R.num] using this
   ·rw [if_neg (by simp [hk])] at hout
    have:=hJ (.mk 0 []) _ [] (.inl ⟨rfl,rfl,rfl⟩) hff hp (fun r h=>by rw [hout,← h]) h1
    simpa [tyR,R.get,R.num] using this
end Go.Proofs.YtdmgbhamigegfaaGreatDoor
