/- What the functions of the package eval answer, over trees. -/
import Derived.Test.YtdmgbhamigegfaaGreatDoorZSpValBQ
import Derived.Test.YtdmgbhamigegfaaGreatDoorZPuEvalB
import Derived.Test.YtdmgbhamigegfaaGreatDoorS1

section
/- What the functions of the package eval answer, over trees. -/
set_option linter.unusedSimpArgs false
set_option linter.unusedVariables false
namespace Go.Proofs.YtdmgbhamigegfaaGreatDoor
open Go Go.Abs
def lookT (name:List UInt8):List (List UInt8×T)→Option T
 | []=>none
 | p::r=>if p.1=name then some p.2 else lookT name r
def encP (p:List UInt8×T):T:=.agg [.str p.1,p.2]
def findR (o:Option T):AV :=
 match o with
 | some f=>.tup [.p f,.p (.bool true)]
 | none=>.tup [.p (.raw .nilFunc),.p (.bool false)]
theorem zxn (name:List UInt8) (l:List (List UInt8×T)) (i:Nat) (h:i < l.length):lookT name (l.drop i)=if l[i].1=name then some l[i].2 else lookT name (l.drop (i + 1)):=by
 rw [List.drop_eq_getElem_cons h]
 simp [lookT]
theorem zCX (l:List (List UInt8×T)) (name:List UInt8):Abs.Fn Tryz.prog zcF [] [.p (.slice (l.map encP)),.p (.str name)] (findR (lookT name l)) []:=by
 apply zkb
 simp [zda]
 intro hl
 refine zA (σ:=Nat) (n:=0) (fun i=>[.p (.int .i64 i)]) (fun _=>[]) (fun i=>i≤l.length∧lookT name (l.drop i)=lookT name l) (fun i=>l.length - i) [] 0 (fun _=>rfl) ⟨rfl,rfl⟩ (by simp) (fun i B hi hB=>?_)
 obtain ⟨h1,h2⟩:=hi
 simp [zez]
 refine ⟨fun hlt=>?_,fun hge=>?_⟩
 ·have hd:=zxn name l i hlt
  rw [h2] at hd
  simp [hlt,encP]
  refine ⟨fun hz=>?_,fun hz=>?_⟩
  ·rw [hd,if_pos hz]
   exact zj (by simp [AV.pur,findR])
  ·rw [IntWalk.i64_in _ (by simp [maxLen] at hl; omega)]
   exact hB (i + 1) _ ⟨by omega,by simp [hd,hz]⟩ (by omega) (by simp) (by simp) (by simp) (by simp [AV.under,AV.under1])
 ·have:i=l.length:=by omega
  subst this
  rw [← h2]
  simp [lookT,findR]
  exact zj (by simp [AV.pur])
theorem zCW (l:List (List UInt8×T)) (name:List UInt8):Abs.Fn Tryz.prog zar [] [.p (.slice (l.map encP)),.p (.str name)] (findR (lookT name l)) []:=by
 apply zdh
 simp [zaB]
 intro hl
 refine zA (σ:=Nat) (n:=0) (fun i=>[.p (.int .i64 i)]) (fun _=>[]) (fun i=>i≤l.length∧lookT name (l.drop i)=lookT name l) (fun i=>l.length - i) [] 0 (fun _=>rfl) ⟨rfl,rfl⟩ (by simp) (fun i B hi hB=>?_)
 obtain ⟨h1,h2⟩:=hi
 simp [zbf]
 refine ⟨fun hlt=>?_,fun hge=>?_⟩
 ·have hd:=zxn name l i hlt
  rw [h2] at hd
  simp [hlt,encP]
  refine ⟨fun hz=>?_,fun hz=>?_⟩
  ·rw [hd,if_pos hz]
   exact zj (by simp [AV.pur,findR])
  ·rw [IntWalk.i64_in _ (by simp [maxLen] at hl; omega)]
   exact hB (i + 1) _ ⟨by omega,by simp [hd,hz]⟩ (by omega) (by simp) (by simp) (by simp) (by simp [AV.under,AV.under1])
 ·have:i=l.length:=by omega
  subst this
  rw [← h2]
  simp [lookT,findR]
  exact zj (by simp [AV.pur])
def onesT:List (List UInt8×T):=[(oNeg,.func ziK []),(oNot,.func ziL []),(oLen,.func ziM [])]
theorem zEO:Abs.Fn Tryz.prog zpg [] [] (.p (.slice (onesT.map encP))) []:=by
 apply zzF
 simp [ztU]
 exact zj (by simp [AV.pur,onesT,encP])
theorem zFc (op:List UInt8) (v:Va) (r:Va) (h:mkE op 0 [v]=some (.ok r)) (hop:op≠oAt∧op≠oTup):Abs.Fn Tryz.prog zrU [] [.p (.str op),.p (encV v)] (.tup [.p (encV r),.p (.bool true)]) []:=by
 apply zBf
 obtain ⟨k,i,b,s,t⟩:=v
 simp [zwv]
 refine zM rfl zEO ?_
 simp
 refine zo rfl rfl (zCW onesT op) ?_
 simp only [mkE,hop.1,hop.2,if_false] at h
 split at h
 ·rename_i ho
  subst ho
  simp at h
  simp [onesT,lookT,findR]
  have h1:Abs.Fn Tryz.prog ziK [] [.p (encV (.mk k i b s t))] (.p (encV r)) []:=by
   apply zwD
   simp [zpd]
   refine zM rfl (za3 _) ?_
   simp [intV]
   exact zj (by simp [AV.pur,← h,intV])
  obtain ⟨a1,a2,a3,a4,a5,hab⟩:=zW r
  rw [hab] at h1 ⊢
  refine zM rfl (by simpa using h1) ?_
  simp
  exact zj (by simp [AV.pur])
 split at h
 ·rename_i ho
  subst ho
  simp at h
  simp [onesT,lookT,findR]
  have h1:Abs.Fn Tryz.prog ziL [] [.p (encV (.mk k i b s t))] (.p (encV r)) []:=by
   apply zwF
   simp [zpe]
   refine zM rfl (ztB _) ?_
   simp [boolV]
   exact zj (by simp [AV.pur,← h,boolV])
  obtain ⟨a1,a2,a3,a4,a5,hab⟩:=zW r
  rw [hab] at h1 ⊢
  refine zM rfl (by simpa using h1) ?_
  simp
  exact zj (by simp [AV.pur])
 split at h
 ·rename_i ho
  subst ho
  simp at h
  simp [onesT,lookT,findR]
  have h1:Abs.Fn Tryz.prog ziM [] [.p (encV (.mk k i b s t))] (.p (encV r)) []:=by
   apply zwH
   simp [zpf]
   intro hl
   refine zM rfl (za3 _) ?_
   simp [intV]
   exact zj (by simp [AV.pur,← h,intV])
  obtain ⟨a1,a2,a3,a4,a5,hab⟩:=zW r
  rw [hab] at h1 ⊢
  refine zM rfl (by simpa using h1) ?_
  simp
  exact zj (by simp [AV.pur])
 ·simp at h
def numT (f:Nat):T:=.func zcf [.imm [.func f []] 0]
def divT (f:Nat):T:=.func zcz [.imm [.func f []] 0]
def twosT:List (List UInt8×T):=[(oAdd,numT ziN),(oSub,numT ziO),(oMul,numT ziP),(oDiv,divT ziQ),(oRem,divT ziR),(oEq,.func zgd []),(oLt,.func zge []),(oCat,.func zkB [])]
theorem zpI (f:Nat):Abs.Fn Tryz.prog zgc [] [.p (.func f [])] (.p (numT f)) []:=by
 apply zwB
 simp [zpc]
 exact zj (by simp [AV.pur,numT])
theorem zsH (f:Nat):Abs.Fn Tryz.prog zhq [] [.p (.func f [])] (.p (divT f)) []:=by
 apply zvo
 simp [zm9]
 exact zj (by simp [AV.pur,divT])
theorem zE0:Abs.Fn Tryz.prog zpo [] [] (.p (.slice (twosT.map encP))) []:=by
 apply zzH
 simp [ztV]
 refine zM rfl (zpI _) ?_
 simp [numT]
 refine zM rfl (zpI _) ?_
 simp [numT]
 refine zM rfl (zpI _) ?_
 simp [numT]
 refine zM rfl (zsH _) ?_
 simp [divT]
 refine zM rfl (zsH _) ?_
 simp [numT,divT]
 exact zj (by simp [AV.pur,twosT,encP,numT,divT])
def twoR (r:R Va):AV:=.tup [.p (encV (r.get zeroV)),.p (.int .i64 r.num)]
theorem za9 {r:R Va} {vs:List AV} {H:List Ob} (h:toTs vs=some [encV (r.get zeroV),.int .i64 r.num]):Gives 0 (.tup vs) H (twoR r) []:=zj (zD7 h)
theorem zub (f:Nat) (g:Int→Int→Int) (hf:∀ x y,Abs.Fn Tryz.prog f [] [.p (.int .i64 x),.p (.int .i64 y)] (.p (.int .i64 (g x y))) []) (k i:Int) (b:Bool) (s:List UInt8) (t:List Va) (k' i':Int) (b':Bool) (s':List UInt8) (t':List Va) :
  Abs.Fn Tryz.prog zcf [] [.p (encV (.mk k i b s t)),.p (encV (.mk k' i' b' s' t')),.p (.imm [.func f []] 0)] (twoR (.ok (intV (g i i')))) []:=by
 apply ztT
 simp [zlU]
 refine zM rfl (by simpa using hf i i') ?_
 simp
 refine zM rfl (za3 _) ?_
 simp [intV]
 exact za9 (by simp [R.get,R.num,intV])
theorem zyX (f:Nat) (g:Int→Int→Int) (hf:∀ x y,y≠0→Abs.Fn Tryz.prog f [] [.p (.int .i64 x),.p (.int .i64 y)] (.p (.int .i64 (g x y))) []) (k i:Int) (b:Bool) (s:List UInt8) (t:List Va) (k' i':Int) (b':Bool) (s':List UInt8) (t':List Va) :
  Abs.Fn Tryz.prog zcz [] [.p (encV (.mk k i b s t)),.p (encV (.mk k' i' b' s' t')),.p (.imm [.func f []] 0)] (twoR (if i'=0 then .er 8 else .ok (intV (g i i')))) []:=by
 apply zsO
 simp [zkC]
 refine ⟨fun hz=>?_,fun hz=>?_⟩
 ·rw [if_pos hz]
  exact za9 (by simp [R.get,R.num,zeroV])
 ·rw [if_neg hz]
  refine zM rfl (by simpa using hf i i' hz) ?_
  simp
  refine zM rfl (za3 _) ?_
  simp [intV]
  exact za9 (by simp [R.get,R.num,intV])
theorem zFw (a b:Va):Abs.Fn Tryz.prog zgd [] [.p (encV a),.p (encV b)] (twoR (.ok (boolV (decide (cmpV a b=0))))) []:=by
 apply zwT
 have:=zcU a b
 obtain ⟨a1,a2,a3,a4,a5,hab⟩:=zW a
 obtain ⟨b1,b2,b3,b4,b5,hbb⟩:=zW b
 rw [hab,hbb] at this ⊢
 simp [zpm]
 refine zM rfl this ?_
 simp
 refine zM rfl (ztB _) ?_
 simp [boolV]
 exact za9 (by simp [R.get,R.num,boolV])
theorem zFQ (a b:Va):Abs.Fn Tryz.prog zge [] [.p (encV a),.p (encV b)] (twoR (.ok (boolV (decide (cmpV a b < 0))))) []:=by
 apply zwV
 have:=zfn a b
 obtain ⟨a1,a2,a3,a4,a5,hab⟩:=zW a
 obtain ⟨b1,b2,b3,b4,b5,hbb⟩:=zW b
 rw [hab,hbb] at this ⊢
 simp [zpn]
 refine zM rfl this ?_
 simp
 refine zM rfl (ztB _) ?_
 simp [boolV]
 exact za9 (by simp [R.get,R.num,boolV])
theorem zFp (k i:Int) (b:Bool) (s:List UInt8) (t:List Va) (k' i':Int) (b':Bool) (s':List UInt8) (t':List Va) (h1:s.length≤1000000000) (h2:s'.length≤1000000000) :
  Abs.Fn Tryz.prog zkB [] [.p (encV (.mk k i b s t)),.p (encV (.mk k' i' b' s' t'))] (twoR (if 255 < s.length + s'.length then .er 4 else .ok (strV (s++s')))) []:=by
 apply zBj
 simp [zwx]
 intro _ _
 rw [IntWalk.i64_in _ (by omega)]
 refine ⟨fun hz=>?_,fun hz=>?_⟩
 ·rw [if_pos (by omega)]
  exact za9 (by simp [R.get,R.num,zeroV])
 ·rw [if_neg (by omega)]
  refine ⟨by simp [maxLen]; omega, ?_⟩
  refine zM rfl (zFd _) ?_
  simp [strV]
  exact za9 (by simp [R.get,R.num,strV])
def bothR (r:R Va):AV:=.tup [.p (encV (r.get zeroV)),.p (.int .i64 r.num),.p (.bool true)]
theorem zlh {op:List UInt8} {v v':Va} {r:R Va} {f:Nat} {caps:List T} (hl:lookT op twosT=some (.func f caps)) (hf:Abs.Fn Tryz.prog f [] (.p (encV v)::.p (encV v')::caps.map .p) (twoR r) []) :
  Abs.Fn Tryz.prog zlk [] [.p (.str op),.p (encV v),.p (encV v')] (bothR r) []:=by
 apply zzB
 obtain ⟨a1,a2,a3,a4,a5,hab⟩:=zW v
 obtain ⟨b1,b2,b3,b4,b5,hbb⟩:=zW v'
 obtain ⟨c1,c2,c3,c4,c5,hcb⟩:=zW (r.get zeroV)
 rw [hab,hbb] at hf ⊢
 simp [ztQ]
 refine zM rfl zE0 ?_
 simp
 refine zo rfl rfl (zCX twosT op) ?_
 simp [hl,findR]
 refine zo rfl rfl (by simpa using hf) ?_
 simp [twoR,hcb]
 exact zj (by simp [AV.pur,bothR,hcb])
theorem zEg (op:List UInt8) (v v':Va) (r:R Va) (h:mkE op 0 [v,v']=some r) (hop:op≠oAt∧op≠oTup) (hw:Wv 1000000000 v) (hw':Wv 1000000000 v'):Abs.Fn Tryz.prog zlk [] [.p (.str op),.p (encV v),.p (encV v')] (bothR r) []:=by
 obtain ⟨k,i,b,s,t⟩:=v
 obtain ⟨k',i',b',s',t'⟩:=v'
 simp only [mkE,hop.1,hop.2,if_false] at h
 split at h
 ·rename_i ho; subst ho; simp at h; subst h
  refine zlh (f:=zcf) (caps:=[.imm [.func ziN []] 0]) (by simp [lookT,twosT,numT]) (zub _ (fun x y=>w64 (x + y)) (fun x y=>?_) _ _ _ _ _ _ _ _ _ _)
  apply zwJ
  simp [zph]
  exact zg rfl
 split at h
 ·rename_i ho; subst ho; simp at h; subst h
  refine zlh (f:=zcf) (caps:=[.imm [.func ziO []] 0]) (by simp [lookT,twosT,numT]) (zub _ (fun x y=>w64 (x - y)) (fun x y=>?_) _ _ _ _ _ _ _ _ _ _)
  apply zwL
  simp [zpi]
  exact zg rfl
 split at h
 ·rename_i ho; subst ho; simp at h; subst h
  refine zlh (f:=zcf) (caps:=[.imm [.func ziP []] 0]) (by simp [lookT,twosT,numT]) (zub _ (fun x y=>w64 (x * y)) (fun x y=>?_) _ _ _ _ _ _ _ _ _ _)
  apply zwN
  simp [zpj]
  exact zg rfl
 split at h
 ·rename_i ho; subst ho; simp at h; subst h
  refine zlh (f:=zcz) (caps:=[.imm [.func ziQ []] 0]) (by simp [lookT,twosT,numT,divT]) (zyX _ (fun x y=>w64 (x.tdiv y)) (fun x y hy=>?_) _ _ _ _ _ _ _ _ _ _)
  apply zwP
  simp [zpk]
  exact ⟨hy,zg rfl⟩
 split at h
 ·rename_i ho; subst ho; simp at h; subst h
  refine zlh (f:=zcz) (caps:=[.imm [.func ziR []] 0]) (by simp [lookT,twosT,numT,divT]) (zyX _ (fun x y=>x.tmod y) (fun x y hy=>?_) _ _ _ _ _ _ _ _ _ _)
  apply zwR
  simp [zpl]
  exact ⟨hy,zg rfl⟩
 split at h
 ·rename_i ho; subst ho; simp at h; subst h
  exact zlh (f:=zgd) (caps:=[]) (by simp [lookT,twosT]) (zFw _ _)
 split at h
 ·rename_i ho; subst ho; simp at h; subst h
  exact zlh (f:=zge) (caps:=[]) (by simp [lookT,twosT]) (zFQ _ _)
 split at h
 ·rename_i ho; subst ho; simp at h; subst h
  cases hw; cases hw'
  exact zlh (f:=zkB) (caps:=[]) (by simp [lookT,twosT]) (zFp _ _ _ _ _ _ _ _ _ _ (by assumption) (by assumption))
 ·simp at h
end Go.Proofs.YtdmgbhamigegfaaGreatDoor
end

section
/- What eval.Eval and the document's Eval answer, over trees. -/
set_option linter.unusedSimpArgs false
set_option linter.unusedVariables false
namespace Go.Proofs.YtdmgbhamigegfaaGreatDoor
open Go Go.Abs
def zc0 (op:List UInt8) (b:Bool):Int:=if op=oIf∧b=true then 1 else if op=oIf then 2 else if decide (op=oAnd)=b then 1 else 0
theorem choose_spec (op:List UInt8) (w:Va) (n:Int) (a:List Ex) (k i:Int) (b:Bool) (s:List UInt8) (t:List Va) :
  Abs.Fn Tryz.prog zlT [] [.p (encE (.mk op w n a)),.p (encV (.mk k i b s t))] (.p (.int .i64 (zc0 op b))) []:=by
 apply zwz
 obtain ⟨k',i',b',s',t'⟩:=w
 simp [zpb]
 refine ⟨fun h1 h2=>zg (by simp [zc0,h1,h2]),fun h=>⟨fun h1=>zg (by simp [zc0,h1,h h1]),fun h1=>⟨fun h2=>zg ?_,fun h2=>zg ?_⟩⟩⟩
 ·simp only [zc0,h1,false_and,if_false]
  rw [if_pos h2]
 ·simp only [zc0,h1,false_and,if_false]
  rw [if_neg h2]
def allR (r:R (List Va)):AV :=
 match r with
 | .ok l=>.tup [.p (.slice (l.map encV)),.p (.int .i64 0)]
 | .er f=>.tup [.p (.slice []),.p (.int .i64 f)]
theorem zwu (x:Va):∀ (a:List Ex) (i:Nat) (l:List Va),(hi:i < a.length)→evL (a.take i) x=some (.ok l)→evL (a.take (i + 1)) x=match evE a[i] x with
  | none=>none
  | some (.er f)=>some (.er f)
  | some (.ok v)=>some (.ok (l++[v]))
 | [],i,l,hi,h=>by simp at hi
 | e::r,0,l,hi,h=>by
  simp [evL] at h
  subst h
  simp only [List.take_succ_cons,List.take_zero,evL,List.getElem_cons_zero]
  cases evE e x with
  | none=>rfl
  | some u=>cases u <;> rfl
 | e::r,i + 1,l,hi,h=>by
  have hi':i < r.length:=by simpa using hi
  simp only [List.take_succ_cons,evL] at h ⊢
  cases he:evE e x with
  | none=>simp [he] at h
  | some u =>
   cases u with
   | er f=>simp [he] at h
   | ok v =>
    simp only [he] at h ⊢
    cases hr:evL (r.take i) x with
    | none=>simp [hr] at h
    | some w =>
     cases w with
     | er f=>simp [hr] at h
     | ok l' =>
      simp [hr] at h
      subst h
      have:=zwu x r i l' (by simpa using hi) hr
      rw [this]
      simp only [List.getElem_cons_succ]
      cases evE r[i] x with
      | none=>rfl
      | some u =>
       cases u with
       | er f=>rfl
       | ok v=>rfl
theorem zpa (x:Va):∀ (a:List Ex) (i:Nat) (f:Int),evL (a.take i) x=some (.er f)→evL a x=some (.er f)
 | [],i,f,h=>by simp [evL] at h
 | e::r,0,f,h=>by simp [evL] at h
 | e::r,i + 1,f,h=>by
  simp only [List.take_succ_cons,evL] at h ⊢
  cases he:evE e x with
  | none=>simp [he] at h
  | some u =>
   cases u with
   | er g=>simpa [he] using h
   | ok v =>
    simp only [he] at h ⊢
    cases hr:evL (r.take i) x with
    | none=>simp [hr] at h
    | some w =>
     cases w with
     | er g =>
      simp [hr] at h
      subst h
      simp [zpa x r i g hr]
     | ok l'=>simp [hr] at h
theorem zlS (x:Va):∀ (a:List Ex) (i:Nat) (r:R (List Va)),evL a x=some r→∃ r',evL (a.take i) x=some r'∧(∀ l,r'=.ok l→l.length=min i a.length)
 | [],i,r,h=>⟨.ok [],by simp [evL],by simp⟩
 | e::a,0,r,h=>⟨.ok [],by simp [evL],by simp⟩
 | e::a,i + 1,r,h=>by
  simp only [List.take_succ_cons,evL] at h ⊢
  cases he:evE e x with
  | none=>simp [he] at h
  | some u =>
   cases u with
   | er g=>exact ⟨.er g,by simp,by simp⟩
   | ok v =>
    simp only [he] at h
    cases hr:evL a x with
    | none=>simp [hr] at h
    | some w =>
     obtain ⟨r',h1,h2⟩:=zlS x a i w hr
     simp only [h1]
     cases r' with
     | er g=>exact ⟨.er g,rfl,by simp⟩
     | ok l=>exact ⟨.ok (v::l),rfl,by intro l' hl'; simp at hl'; subst hl'; simp [h2 l rfl]⟩
def zCj (e:Ex) (x:Va):Prop:=∀ r,evE e x=some r→Abs.Fn Tryz.prog zg5 [] [.p (encE e),.p (encV x)] (twoR r) []
theorem zFl (a:List Ex) (x:Va) (r:R (List Va)) (h:evL a x=some r) (hl:a.length≤1000000000) (hf:∀ e∈a,zCj e x):Abs.Fn Tryz.prog zrV [] [.p (.slice (a.map encE)),.p (encV x)] (allR r) []:=by
 apply zBh
 obtain ⟨x1,x2,x3,x4,x5,hx⟩:=zW x
 rw [hx]
 simp [zww]
 intro _
 refine zA (σ:=Nat×List Va) (n:=2) (fun q=>[.own 1 (q.2.map encV),.p (.int .i64 q.1)]) (fun q=>[.box [.p x1,.p x2,.p x3,.p x4,.p x5],.row q.2.length 5]) (fun q=>q.1≤a.length∧evL (a.take q.1) x=some (.ok q.2)∧q.2.length=q.1) (fun q=>a.length - q.1) [.slot 0 5] (0,[]) (fun _=>rfl) ⟨rfl,rfl⟩ ⟨by simp,by simp [evL],rfl⟩ (fun q B hq hB=>?_)
 obtain ⟨i,l⟩:=q
 obtain ⟨h1,h2,h3⟩:=hq
 simp only at h1 h2 h3
 simp [zuR]
 refine ⟨fun hlt=>?_,fun hge=>?_⟩
 ·obtain ⟨a1,a2,a3,a4,a5,a6,a7,a8,hab⟩:=zwm a[i]
  have hsn:=zwu x a i l hlt h2
  obtain ⟨r',g1,g2⟩:=zlS x a (i + 1) r h
  rw [hsn] at g1
  cases hev:evE a[i] x with
  | none=>simp [hev] at g1
  | some u =>
   have hfn:=hf a[i] (by simp) u hev
   rw [hab,hx] at hfn
   simp [hlt,hab]
   refine zo rfl rfl (by simpa using hfn) ?_
   obtain ⟨c1,c2,c3,c4,c5,hcb⟩:=zW (u.get zeroV)
   simp [twoR,hcb]
   cases u with
   | er f =>
    have hne:=zm7 _ _ _ hev
    simp [R.num,hne]
    simp only [hev] at hsn
    have:=zpa x a (i + 1) f hsn
    rw [h] at this
    simp at this
    subst this
    exact zj (by simp [AV.pur,allR])
   | ok v =>
    simp only [R.get] at hcb
    simp [R.num]
    refine ⟨⟨zqs l,by simp,by simp; omega⟩, ?_⟩
    rw [IntWalk.i64_in _ (by omega)]
    simp only [hev] at hsn
    have:=hB (i + 1,l++[v]) [.box [.p x1,.p x2,.p x3,.p x4,.p x5],.row (l++[v]).length 5,.box [.p a1,.p a2,.p a3,.p a4,.p a5,.p a6,.p a7,.p a8],.box [.p c1,.p c2,.p c3,.p c4,.p c5]] ⟨by simp; omega,hsn,by simp [h3]⟩ (by simp; omega) (by simp) (by simp [Ob.below,AV.under1]) (by simp) (by simp [AV.under,AV.under1])
    simpa [hcb] using this
 ·have:i=a.length:=by omega
  subst this
  rw [List.take_of_length_le (Nat.le_refl _),h] at h2
  simp at h2
  subst h2
  exact zj (by simp [AV.pur,allR])
theorem mkE_n {op:List UInt8} (h:op≠oAt) {n:Int} {l:List Va}:mkE op n l=mkE op 0 l:=by
 unfold mkE
 simp only [h,if_false]
theorem zDj {op:List UInt8} {m:Int} {a:Va} {r:R Va} (h:mkE op m [a]=some r) (h1:op≠oAt) (h2:op≠oTup):∃ u,r=.ok u:=by
 obtain ⟨k,i,b,s,t⟩:=a
 simp only [mkE,h1,h2,if_false] at h
 split at h
 ·exact ⟨_,(Option.some.inj h).symm⟩
 split at h
 ·exact ⟨_,(Option.some.inj h).symm⟩
 split at h
 ·exact ⟨_,(Option.some.inj h).symm⟩
 ·exact absurd h (by simp)
theorem zB4 (r:R Va):(twoR r).pur=some (twoR r):=by simp [twoR,AV.pur]
theorem zv2 (op:List UInt8) (b:Bool):0≤zc0 op b:=by
 unfold zc0
 split
 ·omega
 ·split
  ·omega
  ·split <;> omega
theorem zCP {op:List UInt8} {w:Va} {n:Int} {a:List Ex} {x:Va} {r:R Va} (hop:op=oAnd∨op=oOr∨op=oIf) (h:evE (.mk op w n a) x=some r) :
  ∃ a0 rest r0,a=a0::rest∧evE a0 x=some r0∧(match r0 with
   | .er f=>r=.er f
   | .ok v=>(zc0 op v.truth=0→r=.ok v)∧(zc0 op v.truth≠0→∃ e,a[(zc0 op v.truth).toNat]? = some e∧e∈a∧evE e x=some r)):=by
 have two:∀ (w:Bool),ev2 w a x=some r→∃ a0 a1 r0,a=[a0,a1]∧evE a0 x=some r0∧(match r0 with
   | .er f=>r=.er f
   | .ok v=>(v.truth≠w→r=.ok v)∧(v.truth=w→evE a1 x=some r)):=by
  intro w h
  match a,h with
  | [a0,a1],h =>
   simp only [ev2] at h
   cases h0:evE a0 x with
   | none=>simp [h0] at h
   | some r0 =>
    refine ⟨a0,a1,r0,rfl,h0, ?_⟩
    cases r0 with
    | er f=>simp [h0] at h; exact h.symm
    | ok v =>
     simp only [h0] at h
     refine ⟨fun hw=>?_,fun hw=>?_⟩
     ·rw [if_neg hw] at h; simp at h; exact h.symm
     ·rw [if_pos hw] at h; exact h
 rcases hop with rfl | rfl | rfl
 ·simp [evE] at h
  obtain ⟨a0,a1,r0,rfl,h0,hf⟩:=two true h
  refine ⟨a0,[a1],r0,rfl,h0, ?_⟩
  cases r0 with
  | er f=>exact hf
  | ok v =>
   simp only at hf ⊢
   cases hb:v.truth with
   | true=>simp [zc0,hf.2 hb]
   | false=>simp [zc0,hf.1 (by simp [hb])]
 ·simp [evE] at h
  obtain ⟨a0,a1,r0,rfl,h0,hf⟩:=two false h
  refine ⟨a0,[a1],r0,rfl,h0, ?_⟩
  cases r0 with
  | er f=>exact hf
  | ok v =>
   simp only at hf ⊢
   cases hb:v.truth with
   | true=>simp [zc0,hf.1 (by simp [hb])]
   | false=>simp [zc0,hf.2 hb]
 ·simp [evE] at h
  match a,h with
  | [a0,a1,a2],h =>
   simp only [ev3] at h
   cases h0:evE a0 x with
   | none=>simp [h0] at h
   | some r0 =>
    refine ⟨a0,[a1,a2],r0,rfl,h0, ?_⟩
    cases r0 with
    | er f=>simp [h0] at h; exact h.symm
    | ok v =>
     simp only [h0] at h
     simp only
     cases hb:v.truth with
     | true=>simp [hb] at h; simp [zc0,h]
     | false=>simp [hb] at h; simp [zc0,h]
theorem zyL:∀ (e:Ex) (x:Va) (_:We 1000000000 e) (_:Wv 1000000000 x),zCj e x
 | .mk op w n a,x,he,hx=>by
  intro r hr
  have hsub:∀ e∈a,zCj e x:=by
   cases he with
   | mk _ _ _ _ hv hl ho=>exact fun e hm=>zyL e x (ho e hm) hx
  have hla:a.length≤1000000000:=by cases he; assumption
  have hall:=fun r' (h':evL a x=some r')=>zFl a x r' h' hla hsub
  obtain ⟨k,i,b,s,t⟩:=w
  obtain ⟨x1,x2,x3,x4,x5,hxa⟩:=zW x
  apply zzD
  rw [hxa] at hall ⊢
  simp [ztR]
  simp only [evE] at hr
  refine ⟨fun hop=>?_,fun hlit=>⟨fun hop=>?_,fun hX=>?_⟩⟩
  ·subst hop
   simp at hr
   subst hr
   exact za9 (by simp [R.get,R.num])
  ·subst hop
   simp at hr
   subst hr
   exact za9 (by simp [R.get,R.num,hxa])
  ·have hlit':op≠oLit:=hlit
   have hX':op≠oX:=hX
   simp only [hlit',hX',if_false] at hr
   refine ⟨fun hop=>?_,fun h1 h2 h3=>?_⟩
   ·-- and,or,if
    have hr0:evE (.mk op (.mk k i b s t) n a) x=some r:=by simp only [evE,hlit',hX',if_false]; exact hr
    obtain ⟨a0,rest,r0,rfl,h0,hfin⟩:=zCP hop hr0
    have f0:=hsub a0 (by simp) r0 h0
    obtain ⟨a1,a2,a3,a4,a5,a6,a7,a8,hab⟩:=zwm a0
    obtain ⟨k',i',b',s',t',hv0⟩:∃ k' i' b' s' t',r0.get zeroV=.mk k' i' b' s' t':=by
     obtain ⟨k',i',b',s',t'⟩:=r0.get zeroV
     exact ⟨k',i',b',s',t',rfl⟩
    have hch:=choose_spec op (.mk k i b s t) n (a0::rest) k' i' b' s' t'
    rw [hab,hxa] at f0
    simp only [zDU,zzz,List.map_cons] at hch
    simp [hab]
    refine zF rfl (by simpa using f0) (zB4 r0) ?_
    simp [twoR,hv0]
    refine zM rfl hch ?_
    simp
    cases r0 with
    | er f =>
     have hne:=zm7 _ _ _ h0
     simp only at hfin
     subst hfin
     simp [R.num,hne]
     refine za9 ?_
     rw [hv0]
     simp [R.num]
    | ok v =>
     simp only [R.get] at hv0
     subst hv0
     simp only [Va.truth] at hfin
     simp [R.num]
     refine ⟨fun hpos=>?_,fun hle=>?_⟩
     ·obtain ⟨e,he1,he2,he3⟩:=hfin.2 (by omega)
      obtain ⟨c1,c2,c3,c4,c5,c6,c7,c8,hce⟩:=zwm e
      have fe:=hsub e he2 r he3
      rw [hce,hxa] at fe
      obtain ⟨hj,hje⟩:=List.getElem?_eq_some_iff.1 he1
      have hget:(encE a0::rest.map encE)[(zc0 op b').toNat]? = some (encE e):=by
       have:(encE a0::rest.map encE)=(a0::rest).map encE:=rfl
       rw [this,List.getElem?_map,he1]
       rfl
      simp at hj
      obtain ⟨d1,d2,d3,d4,d5,hd⟩:=zW (r.get zeroV)
      simp [hget,hce]
      refine ⟨⟨by omega,by omega⟩, ?_⟩
      refine zF rfl (by simpa using fe) (zB4 r) ?_
      simp [twoR,hd]
      exact zj (by simp [AV.pur])
     ·have:=hfin.1 (by have:=zv2 op b'; omega)
      subst this
      exact za9 (by simp [R.get,R.num])
   ·have g1:op≠oAnd:=h1
    have g2:op≠oOr:=h2
    have g3:op≠oIf:=h3
    simp only [g1,g2,g3,if_false] at hr
    cases hl:evL a x with
    | none=>simp [hl] at hr
    | some ra =>
     refine zo rfl rfl (hall ra hl) ?_
     cases ra with
     | er f =>
      have hne:=zwt _ _ _ hl
      simp [hl] at hr
      subst hr
      simp [allR,hne]
      exact za9 (by simp [R.get,R.num,zeroV])
     | ok l =>
      simp only [hl] at hr
      have hlw:=zCQ (by omega) a x l (by cases he; assumption) hx hl
      have hln:=zm8 a x l hl
      simp [allR]
      refine ⟨fun hat=>?_,fun hat=>⟨fun htup=>?_,fun htup _=>⟨fun h1l=>?_,fun h1l=>?_⟩⟩⟩
      ·have hat:op=oAt:=hat
       subst hat
       obtain ⟨k',i',b',s',t',v,rfl,hn0,hv,rfl⟩:=zDi hr
       obtain ⟨d1,d2,d3,d4,d5,hd⟩:=zW v
       obtain ⟨hlt,hge⟩:=List.getElem?_eq_some_iff.1 hv
       simp [hv,hd]
       refine ⟨⟨hn0,by omega⟩, ?_⟩
       exact za9 (by simp [R.get,R.num,hd])
      ·have htup:op=oTup:=htup
       subst htup
       have:=zz3 hr
       subst this
       refine zM rfl (by simpa using zFe l (by omega)) ?_
       simp [tupV]
       exact za9 (by simp [R.get,R.num,tupV])
      ·match l,h1l with
       | [v],_ =>
        have hat:op≠oAt:=hat
        have htup:op≠oTup:=htup
        rw [mkE_n hat] at hr
        rcases zDj hr hat htup with ⟨u,rfl⟩
        have ho:=zFc op v u hr ⟨hat,htup⟩
        obtain ⟨c1,c2,c3,c4,c5,hc⟩:=zW v
        obtain ⟨d1,d2,d3,d4,d5,hd⟩:=zW u
        rw [hc,hd] at ho
        simp [hc]
        refine zF rfl (by simpa using ho) rfl ?_
        simp
        exact za9 (by simp [R.get,R.num,hd])
      ·have hat:op≠oAt:=hat
       have htup:op≠oTup:=htup
       rw [mkE_n hat] at hr
       have h2l:l.length=2:=by
        by_cases h:l.length=2
        ·exact h
        ·rw [zt9 hat htup ⟨by omega,h⟩] at hr; simp at hr
       match l,h2l with
       | [v,v'],_ =>
        have ho:=zEg op v v' r hr ⟨hat,htup⟩ (hlw v (by simp)) (hlw v' (by simp))
        obtain ⟨c1,c2,c3,c4,c5,hc⟩:=zW v
        obtain ⟨e1,e2,e3,e4,e5,he'⟩:=zW v'
        obtain ⟨d1,d2,d3,d4,d5,hd⟩:=zW (r.get zeroV)
        rw [hc,he'] at ho
        simp [hc,he']
        refine zF rfl (by simpa using ho) (by simp [bothR,AV.pur]; rfl) ?_
        simp [hd]
        exact za9 (r:=r) (by simp [hd])
termination_by e=>SizeOf.sizeOf e
decreasing_by
 have:=List.sizeOf_lt_of_mem hm
 simp
 omega
end Go.Proofs.YtdmgbhamigegfaaGreatDoor
end

section
/- What the document's Eval answers, over trees. -/
set_option linter.unusedSimpArgs false
set_option linter.unusedVariables false
namespace Go.Proofs.YtdmgbhamigegfaaGreatDoor
open Go Go.Abs
inductive Ne:Ex→Prop where
 | leaf (op:List UInt8) (v:Va) (n:Int) (a:List Ex) (h:op=oLit∨op=oX):Ne (.mk op v n a)
 | node (op:List UInt8) (v:Va) (n:Int) (a:List Ex) (h:a≠[]) (ho:∀ e∈a,Ne e):Ne (.mk op v n a)
end Go.Proofs.YtdmgbhamigegfaaGreatDoor
end
