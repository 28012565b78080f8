/- What typ.Same answers, over trees. -/
import Derived.Test.YtdmgbhamigegfaaGreatDoorZSpTyp

section
/- What typ.Same answers, over trees. -/
namespace Go.Proofs.YtdmgbhamigegfaaGreatDoor
open Go Go.Abs
theorem zwo {α β:Type} (l:List α) (q:List β) (ea:α→T) (eb:β→T) (f:Nat) (g:α→β→Bool) (ha:∀ e∈l,∃ a b,ea e=.agg [a,b]) (hb:∀ e∈q,∃ a b,eb e=.agg [a,b])
  (hf:∀ a∈l,∀ b∈q,Abs.Fn Tryz.prog f [] [.p (ea a),.p (eb b)] (.p (.bool (g a b))) []) :
  Abs.Fn Tryz.prog z1 [] [.p (.slice (l.map ea)),.p (.slice (q.map eb)),.p (.func f [])] (.p (.bool (allP g l q))) []:=by
 apply zb9
 simp [z7]
 intro hl hq
 refine ⟨fun h=>zg (by rw [zoL g l q (by omega)]),fun h _=>?_⟩
 have hlen:l.length=q.length:=by omega
 refine zA (σ:=Nat) (n:=0) (fun i=>[.p (.int .i64 i)]) (fun _=>[]) (fun i=>i≤l.length∧allP g (l.drop i) (q.drop i)=allP g l q) (fun i=>l.length - i) [] 0 (fun _=>rfl) ⟨rfl,rfl⟩ (by simp) (fun i B hi hB=>?_)
 obtain ⟨h1,h2⟩:=hi
 simp [zaF]
 constructor
 ·intro hlt
  have hlt':i < q.length:=by omega
  obtain ⟨a,b,hab⟩:=ha l[i] (by simp)
  obtain ⟨c,d,hcd⟩:=hb q[i] (by simp)
  have hfm:=hf l[i] (by simp) q[i] (by simp)
  have hd:=zyR g l q i hlt hlt'
  rw [h2] at hd
  rw [hab,hcd] at hfm
  simp [hlt,hab,hlt',hcd]
  refine zM rfl hfm ?_
  simp
  refine ⟨fun hz=>zg (by simp [hd,hz]),fun hz=>?_⟩
  rw [IntWalk.i64_in _ (by simp [maxLen] at hl; omega)]
  exact hB (i + 1) _ ⟨by omega,by simp [hd,hz]⟩ (by omega) (by simp) (by simp) (by simp) (by simp [AV.under,AV.under1])
 ·intro hge
  have:i=l.length:=by omega
  subst this
  exact zg (by rw [← h2,List.drop_of_length_le (Nat.le_refl _),List.drop_of_length_le (by omega)]; rfl)
mutual
def sameT:Ty→Ty→Bool
 | .mk k of,.mk k' of'=>decide (k=k') && ziG of of'
def ziG:List Ty→List Ty→Bool
 | [],[]=>true
 | a::r,b::q=>sameT a b && ziG r q
 | _,_=>false
end
theorem zmV:∀ l q:List Ty,ziG l q=allP sameT l q
 | [],[]=>by simp [ziG,allP]
 | [],_::_=>by simp [ziG,allP]
 | _::_,[]=>by simp [ziG,allP]
 | a::r,b::q=>by simp [ziG,allP,zmV r q]
theorem zcX (a b:Ty):Abs.Fn Tryz.prog zgY [] [.p (encT a),.p (encT b)] (.p (.bool (sameT a b))) []:=by
 apply zB6
 obtain ⟨k,of⟩:=a
 obtain ⟨k',of'⟩:=b
 simp [zxU]
 refine zz (ziG of of') (fun hk=>?_) (zg (by simp [sameT]))
 refine zM rfl (zwo of of' encT encT zgY sameT (fun e _=>zho e) (fun e _=>zho e) ?_) ⟨by simp,by rw [zmV]⟩
 intro a ha b hb
 exact zcX a b
termination_by SizeOf.sizeOf a
decreasing_by
 have:=List.sizeOf_lt_of_mem ha
 simp
 omega
mutual
theorem zqB:∀ a b:Ty,sameT a b=true↔a=b
 | .mk k of,.mk k' of'=>by simp [sameT,zxI of of']
theorem zxI:∀ a b:List Ty,ziG a b=true↔a=b
 | [],[]=>by simp [ziG]
 | [],_::_=>by simp [ziG]
 | _::_,[]=>by simp [ziG]
 | a::r,b::q=>by simp [ziG,zqB a b,zxI r q]
end
end Go.Proofs.YtdmgbhamigegfaaGreatDoor
end

section
/- The document's types: what Of, checkType, CheckType, SameType answer, over trees. -/
namespace Go.Proofs.YtdmgbhamigegfaaGreatDoor
open Go Go.Abs
inductive Wd (n:Nat):Ty→Prop where
 | mk (k:Int) (of:List Ty) (h:of.length≤n) (ho:∀ t∈of,Wd n t):Wd n (.mk k of)
theorem Wd.mono {n m:Nat} (hnm:n≤m) {t:Ty} (h:Wd n t):Wd m t:=by
 induction h with
 | mk k of h _ ih=>exact .mk k of (by omega) ih
theorem zFV {t:Ty} (h:Wd 1000000000 t):Abs.Fn Tryz.prog zgy [] [.p (encT t)] (.p (encT t)) []:=by
 induction h with
 | mk k of hl ho ih =>
  apply zuh
  simp [zl1]
  refine zA (σ:=Nat) (n:=4) (fun i=>[.p (.int .i64 i)]) (fun i=>[.box [.p (.int .i64 k),.p (.slice (of.map encT))],.box [.p (.int .i64 0),.full []],.box [.p (.int .i64 k),.own 3 ((of.map encT).take i)],.row i 2])
   (fun i=>i≤of.length) (fun i=>of.length - i) [.cell 2 1 2] 0 (fun _=>rfl) ⟨rfl,rfl⟩ (by simp) (fun i B hi hB=>?_)
  simp [zmG]
  intro _
  refine ⟨fun hlt=>?_,fun hge=>?_⟩
  ·obtain ⟨a,b,hab⟩:=zho of[i]
   have hi:=ih of[i] (by simp)
   rw [hab] at hi
   simp [hlt,hab]
   refine zF rfl hi rfl ?_
   simp
   refine ⟨by omega,⟨fun e he=>by have:=List.mem_of_mem_take he; simp at this; obtain ⟨x,_,rfl⟩:=this; simp,by simp,by simp; omega⟩, ?_⟩
   simp (disch:=omega) only [IntWalk.i64_in]
   have:=zag (l:=of.map encT) (i:=i) (by simpa using hlt)
   simp only [List.getElem_map,hab] at this
   rw [this]
   exact hB (i + 1) _ (by omega) (by omega) (by simp) (by simp [Ob.below,AV.under1]) (by simp) (by simp [AV.under,AV.under1])
  ·rw [List.take_of_length_le (by simpa using hge)]
   exact zj (by simp [AV.pur])
theorem zoO:∀ (t:Ty) (d:Int) (_:0≤d) (_:d≤100),Abs.Fn Tryz.prog zcp [] [.p (encT t),.p (.int .i64 d)] (.p (.int .i64 (zI t d))) []
 | .mk k of,d,h0,h1=>by
  apply zmU
  simp [zff]
  refine ⟨fun h=>zg ?_,fun hk hk2 hk3=>⟨fun h4=>zg ?_,fun h4 _=>⟨fun hz=>zg ?_,fun hz _=>⟨fun h8=>zg ?_,fun h8=>⟨fun hd=>zg ?_,fun hd=>?_⟩⟩⟩⟩⟩
  ·simp only [zI,T.int.injEq,true_and]
   grind
  ·simp only [zI,T.int.injEq,true_and]; grind
  ·simp only [zI,T.int.injEq,true_and,rowE]; grind
  ·have:(of.length:Int)≠0:=by simpa using hz
   simp only [zI,T.int.injEq,true_and,rowE]; grind
  ·have:(of.length:Int)≠0:=by simpa using hz
   simp only [zI,T.int.injEq,true_and,rowE]; grind
  ·subst h4
   have hnz:(of.length:Int)≠0:=by simpa using hz
   have he:zI (.mk 4 of) d=zbW (fun t=>zI t (d + 1)) of:=by
    simp only [zI,zkw,rowE]
    grind
   refine zA (σ:=Nat) (n:=1) (fun i=>[.p (.int .i64 i)]) (fun i=>[.box [.p (.int .i64 4),.p (.slice (of.map encT))]]) (fun i=>i≤of.length∧zbW (fun t=>zI t (d + 1)) (of.drop i)=zbW (fun t=>zI t (d + 1)) of) (fun i=>of.length - i) [] 0 (fun _=>rfl) ⟨rfl,rfl⟩ (by simp) (fun i B hi hB=>?_)
   obtain ⟨hi1,hi2⟩:=hi
   simp [zhc]
   intro _
   refine ⟨fun hlt=>?_,fun hge=>?_⟩
   ·obtain ⟨a,b,hab⟩:=zho of[i]
    have hm:of[i]∈of:=by simp
    have ih:=zoO of[i] (d + 1) (by omega) (by omega)
    have hd:=zln (fun t=>zI t (d + 1)) of i hlt
    rw [hi2] at hd
    rw [hab] at ih
    simp [hlt,hab]
    rw [IntWalk.i64_in _ (by omega)]
    refine zM rfl ih ?_
    simp
    refine ⟨fun hz=>zg (by simp [he,hd,hz]),fun hz=>?_⟩
    rw [IntWalk.i64_in _ (by omega)]
    exact hB (i + 1) _ ⟨by omega,by simp [hd,hz]⟩ (by omega) (by simp) (by simp [Ob.below,AV.under1]) (by simp) (by simp [AV.under,AV.under1])
   ·have:i=of.length:=by omega
    subst this
    exact zg (by rw [he,← hi2]; simp [zbW])
termination_by t=>SizeOf.sizeOf t
decreasing_by
 have:=List.sizeOf_lt_of_mem hm
 simp
 omega
theorem zaq (t:Ty):Abs.Fn Tryz.prog zaC [] [.p (encT t)] (.p (.int .i64 (zI t 0))) []:=by
 apply zmS
 have:=zoO t 0 (by omega) (by omega)
 obtain ⟨k,of⟩:=t
 simp [zfe]
 exact zM rfl (by simpa using this) (zg rfl)
theorem zaZ:∀ a b:Ty,Abs.Fn Tryz.prog zan [] [.p (encT a),.p (encT b)] (.p (.bool (sameT a b))) []
 | .mk k of,.mk k' of'=>by
  apply znF
  simp [zf2]
  refine ⟨fun h=>zg ?_,fun hk hl=>?_⟩
  ·simp only [sameT,T.bool.injEq,zmV]
   rcases h with h | h
   ·simp [h]
   ·rw [zoL _ _ _ (by omega)]; simp
  ·subst hk
   have hl:of.length=of'.length:=by omega
   refine zA (σ:=Nat) (n:=2) (fun i=>[.p (.int .i64 i)]) (fun i=>[.box [.p (.int .i64 k),.p (.slice (of.map encT))],.box [.p (.int .i64 k),.p (.slice (of'.map encT))]]) (fun i=>i≤of.length∧allP sameT (of.drop i) (of'.drop i)=allP sameT of of') (fun i=>of.length - i) [] 0 (fun _=>rfl) ⟨rfl,rfl⟩ (by simp) (fun i B hi hB=>?_)
   obtain ⟨hi1,hi2⟩:=hi
   simp [zhN]
   intro hmx
   refine ⟨fun hlt=>?_,fun hge=>?_⟩
   ·have hlt':i < of'.length:=by omega
    obtain ⟨a,b,hab⟩:=zho of[i]
    obtain ⟨c,d,hcd⟩:=zho of'[i]
    have hm:of[i]∈of:=by simp
    have ih:=zaZ of[i] of'[i]
    have hd:=zyR sameT of of' i hlt hlt'
    rw [hi2] at hd
    rw [hab,hcd] at ih
    simp [hlt,hab,hlt',hcd]
    refine zF rfl ih rfl ?_
    simp
    refine ⟨fun hz=>zg (by simp [sameT,zmV,hd,hz]),fun hz=>?_⟩
    rw [IntWalk.i64_in _ (by simp [maxLen] at hmx; omega)]
    exact hB (i + 1) _ ⟨by omega,by simp [hd,hz]⟩ (by omega) (by simp) (by simp [Ob.below,AV.under1]) (by simp) (by simp [AV.under,AV.under1])
   ·have:i=of.length:=by omega
    subst this
    exact zg (by simp only [sameT,zmV]; rw [← hi2,List.drop_of_length_le (Nat.le_refl _),List.drop_of_length_le (by omega)]; simp [allP])
termination_by a=>SizeOf.sizeOf a
decreasing_by
 have:=List.sizeOf_lt_of_mem hm
 simp
 omega
end Go.Proofs.YtdmgbhamigegfaaGreatDoor
end
