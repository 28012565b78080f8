/- What strings.Compare answers, over trees. -/
import Derived.Test.YtdmgbhamigegfaaGreatDoorS1
import Derived.Test.YtdmgbhamigegfaaGreatDoorZPuVal
import Derived.Lib.Strings
import Derived.Lib.Slices
import Derived.Lib.Walk
import Derived.Lib.Bytealg
import Derived.Test.YtdmgbhamigegfaaGreatDoorZSpRefTQ

section
/- What strings.Compare answers, over trees. -/
set_option linter.unusedSimpArgs false
set_option linter.unusedVariables false
namespace Go.Proofs.YtdmgbhamigegfaaGreatDoor
open Go Go.RowKit Go.Abs
set_option maxHeartbeats 1000000 in
set_option maxRecDepth 100000 in
theorem zoi (a b:ByteArray) (w:World) :
  Calls Tryz.prog 143 #[.string a,.string b] w fun e w'=>e=.returned (.int .i64 (Lib.compareBytes a.data.toList b.data.toList))∧w'=w:=by
 go_enter Tryz.func143,Tryz.ntmps143
 go_wp2
 rw [run_callFunc_extern Tryz.func173 (by kernel_rfl) (by kernel_rfl) (by kernel_rfl) (e:=Extern.BytealgCompare.compare) (by kernel_rfl),Lib.run_compareString]
 simp only [Result.andThen]
 rw [Oper.upon_value]
 go_wp2
 go_ret
 exact ⟨rfl,rfl⟩
theorem zDT:∀ a b:List UInt8,Lib.compareBytes a b=cmpS a b
 | [],[]=>by simp [Lib.compareBytes,cmpS,Op.bytesLess]
 | [],_::_=>by simp [Lib.compareBytes,cmpS,Op.bytesLess]
 | _::_,[]=>by simp [Lib.compareBytes,cmpS,Op.bytesLess]
 | a::r,b::q=>by
  have ih:=zDT r q
  simp only [Lib.compareBytes,ih,cmpS,Op.bytesLess,List.cons.injEq]
  by_cases h1:a < b
  ·simp [h1]
  ·by_cases h2:b < a
   ·have:a≠b:=by rintro rfl; exact h1 h2
    simp [h1,h2,this]
   ·have:a=b:=by
     have:=UInt8.le_antisymm (UInt8.not_lt.1 h2) (UInt8.not_lt.1 h1)
     exact this
    subst this
    simp [h1]
theorem zA6 (a b:List UInt8):Abs.Fn Tryz.prog zhU [] [.p (.str a),.p (.str b)] (.p (.int .i64 (cmpS a b))) []:=by
 have h0:Abs.Fn Tryz.prog zc5 [] [.p (.str a),.p (.str b)] (.p (.int .i64 (cmpS a b))) []:=by
  refine zFA (by kernel_rfl) (fun w G vs hi hv=>?_)
  obtain ⟨hsz,hv⟩:=hv
  have h0:=zbp.1 (hv 0 _ rfl)
  have h1:=zbp.1 (hv 1 _ rfl)
  obtain ⟨v0,v1,rfl⟩:∃ v0 v1,vs = #[v0,v1]:=by
   obtain ⟨l⟩:=vs
   match l,hsz with
   | [a,b],_=>exact ⟨a,b,rfl⟩
  replace h0:RepT G.rd _ v0:=h0
  replace h1:RepT G.rd _ v1:=h1
  obtain ⟨rfl,_⟩:=zxD.1 h0
  obtain ⟨rfl,_⟩:=zxD.1 h1
  refine (zoi _ _ w).mono ?_
  rintro e w' ⟨rfl,rfl⟩
  exact ⟨_,rfl,by rw [zDT]; exact .p _ _ (.int _ _),Below.refl _ _,Nat.le_refl _⟩
 apply zsv
 simp [zjK]
 exact zM rfl h0 (zg rfl)
end Go.Proofs.YtdmgbhamigegfaaGreatDoor
end

section
/- What the functions of the package val, and the document's, answer of values, over trees. -/
set_option linter.unusedSimpArgs false
set_option linter.unusedVariables false
namespace Go.Proofs.YtdmgbhamigegfaaGreatDoor
open Go Go.Abs
theorem za3 (n:Int):Abs.Fn Tryz.prog zcY [] [.p (.int .i64 n)] (.p (encV (intV n))) []:=by
 apply zDF
 simp [zAs]
 exact zj (by simp [AV.pur,intV])
theorem ztB (b:Bool):Abs.Fn Tryz.prog zlb [] [.p (.bool b)] (.p (encV (boolV b))) []:=by
 apply zCa
 simp [zxY]
 exact zj (by simp [AV.pur,boolV])
theorem zFd (s:List UInt8):Abs.Fn Tryz.prog zuy [] [.p (.str s)] (.p (encV (strV s))) []:=by
 apply zDI
 simp [zAt]
 exact zj (by simp [AV.pur,strV])
theorem zA5 (l:List Va) (h:l.length≤1000000000):Abs.Fn Tryz.prog zbh [] [.p (.slice (l.map encV))] (.p (.slice (l.map encV))) []:=by
 refine zsR (fun he=>?_) ?_
 ·apply zcw
  simp [zaM]
  exact zj (by simp [AV.pur,he])
 ·apply zcw
  simp [zaM]
  exact ⟨⟨by simp,zqs l,by simp; omega⟩,zj (by simp [AV.pur])⟩
theorem zv8 (l:List Va):Abs.Fn Tryz.prog zaJ [] [.p (.slice (l.map encV))] (.p (.slice (l.map encV))) []:=by
 apply zgV
 simp [zbE]
 intro _
 simp [zbU,zih]
 exact zj (by simp [AV.pur,List.take_of_length_le])
theorem zFe (l:List Va) (h:l.length≤1000000000):Abs.Fn Tryz.prog zuz [] [.p (.slice (l.map encV))] (.p (encV (tupV l))) []:=by
 apply zDK
 simp [zAu]
 refine zM rfl (zA5 l h) ?_
 simp
 refine zM rfl (zv8 l) ?_
 simp
 exact zj (by simp [AV.pur,tupV])
theorem zDB (v:Va):Abs.Fn Tryz.prog zqi [] [.p (encV v)] (.p (.bool (zst v))) []:=by
 apply zAy
 obtain ⟨k,i,b,s,t⟩:=v
 simp [zuB]
 exact zg (by simp [zst])
theorem zuN:∀ (v:Va) (d:Int) (_:0≤d) (_:d≤100),Abs.Fn Tryz.prog zlE [] [.p (encV v),.p (.int .i64 d)] (.p (.int .i64 (z2 v d))) []
 | .mk k i b s t,d,h0,h1=>by
  apply zAw
  have hsp:=zDB (.mk k i b s t)
  simp only [zzz] at hsp
  simp [zuA]
  refine ⟨fun h=>zg (by simp only [z2]; grind),fun hk1 hk2=>zM rfl hsp ?_⟩
  simp
  refine ⟨fun h=>zg (by simp only [z2]; grind),fun hs _=>⟨fun h=>zg (by simp only [z2]; grind),fun hl=>⟨fun h=>zg (by simp only [z2]; grind),fun h4 _=>?_⟩⟩⟩
  subst h4
  refine zM rfl (zBU _ _) ?_
  simp
  have he:z2 (.mk 4 i b s t) d=if rowE t.length d≠0 then rowE t.length d else zbW (fun v=>z2 v (d + 1)) t:=by
   simp only [z2,zrJ]
   grind
  refine zA (σ:=Nat×Int) (n:=1) (fun q=>[.p (.int .i64 q.2),.p (.int .i64 q.1)]) (fun q=>[.box [.p (.int .i64 4),.p (.int .i64 i),.p (.bool b),.p (.str s),.p (.slice (t.map encV))]])
   (fun q=>q.1≤t.length∧(q.2≠0→z2 (.mk 4 i b s t) d=q.2)∧(q.2=0→rowE t.length d=0∧zbW (fun v=>z2 v (d + 1)) (t.drop q.1)=z2 (.mk 4 i b s t) d)) (fun q=>t.length - q.1) [] (0,rowE t.length d) (fun _=>rfl) ⟨rfl,rfl⟩
   ⟨by simp,fun h=>by rw [he]; simp [h],fun h=>⟨h,by have h:rowE t.length d=0:=h; rw [he]; simp [h]⟩⟩ (fun q B hq hB=>?_)
  obtain ⟨j,e⟩:=q
  obtain ⟨g1,g2,g3⟩:=hq
  simp only at g1 g2 g3
  simp [zty]
  intro _
  refine ⟨fun hlt hez=>?_,fun hx=>zg ?_⟩
  ·subst hez
   obtain ⟨g4,g5⟩:=g3 rfl
   obtain ⟨a,b',c,d',f,hab⟩:=zW t[j]
   have hm:t[j]∈t:=by simp
   have hd4:d≤4:=by unfold rowE at g4; grind
   have ih:=zuN t[j] (d + 1) (by omega) (by omega)
   have hdr:=zln (fun v=>z2 v (d + 1)) t j hlt
   rw [g5] at hdr
   rw [hab] at ih
   simp [hlt,hab]
   rw [IntWalk.i64_in _ (by omega)]
   refine zM rfl ih ?_
   simp
   rw [IntWalk.i64_in _ (by unfold rowE at g4; grind)]
   exact hB (j + 1,z2 t[j] (d + 1)) _ ⟨by simp; omega,fun hz=>by rw [hdr]; simp at hz; simp [hz],fun hz=>by simp at hz; exact ⟨g4,by rw [hdr]; simp [hz]⟩⟩ (by simp; omega) (by simp) (by simp [Ob.below,AV.under1]) (by simp) (by simp [AV.under,AV.under1])
  ·by_cases hez:e=0
   ·subst hez
    obtain ⟨g4,g5⟩:=g3 rfl
    have:j=t.length:=by
     rcases Nat.lt_or_ge j t.length with h | h
     ·exact absurd rfl (hx h)
     ·omega
    subst this
    rw [← g5]
    simp [zbW]
   ·rw [g2 hez]
termination_by v=>SizeOf.sizeOf v
decreasing_by
 have:=List.sizeOf_lt_of_mem hm
 simp
 omega
theorem zbT (v:Va):Abs.Fn Tryz.prog zjs [] [.p (encV v)] (.p (.int .i64 (z2 v 0))) []:=by
 apply zAr
 have:=zuN v 0 (by omega) (by omega)
 obtain ⟨k,i,b,s,t⟩:=v
 simp [zux]
 exact zM rfl (by simpa using this) (zg rfl)
theorem zkn {v:Va} (h:Wv 1000000000 v):Abs.Fn Tryz.prog zlc [] [.p (encV v)] (.p (encT (kindV v))) []:=by
 induction h with
 | mk k i b s t hs hl ho ih =>
  apply zCe
  simp [zx4]
  intro _
  refine zA (σ:=Nat) (n:=4) (fun j=>[.p (.int .i64 j)]) (fun j=>[.box [.p (.int .i64 k),.p (.int .i64 i),.p (.bool b),.p (.str s),.p (.slice (t.map encV))],.box [.p (.int .i64 0),.full []],.box [.p (.int .i64 k),.own 3 ((t.map fun v=>encT (kindV v)).take j)],.row j 2])
   (fun j=>j≤t.length) (fun j=>t.length - j) [.cell 2 1 2] 0 (fun _=>rfl) ⟨rfl,rfl⟩ (by simp) (fun j B hj hB=>?_)
  simp [zve]
  refine ⟨fun hlt=>?_,fun hge=>?_⟩
  ·obtain ⟨a,b',c,d',f,hab⟩:=zW t[j]
   obtain ⟨a2,b2,hab2⟩:=zho (kindV t[j])
   have hi:=ih t[j] (by simp)
   rw [hab,hab2] at hi
   simp [hlt,hab]
   refine zF rfl hi rfl ?_
   simp
   refine ⟨by omega,⟨fun e he=>by have:=List.mem_of_mem_take he; simp at this; obtain ⟨x,_,rfl⟩:=this; simp,by simp,by simp; omega⟩, ?_⟩
   simp (disch:=omega) only [IntWalk.i64_in]
   have:(t.map fun v=>encT (kindV v)).take j++[encT (kindV t[j])]=(t.map fun v=>encT (kindV v)).take (j + 1):=zrx hlt
   rw [hab2] at this
   rw [this]
   exact hB (j + 1) _ (by omega) (by omega) (by simp) (by simp [Ob.below,AV.under1]) (by simp) (by simp [AV.under,AV.under1])
  ·rw [List.take_of_length_le (by simpa using hge)]
   exact zj (by simp [AV.pur,Function.comp_def])
theorem zhW {v:Va} (h:Wv 1000000000 v):Abs.Fn Tryz.prog zdr [] [.p (encV v)] (.p (encT (kindV v))) []:=by
 induction h with
 | mk k i b s t hs hl ho ih =>
  apply zp6
  simp [zhO]
  refine zA (σ:=Nat) (n:=4) (fun j=>[.p (.int .i64 j)]) (fun j=>[.box [.p (.int .i64 k),.p (.int .i64 i),.p (.bool b),.p (.str s),.p (.slice (t.map encV))],.box [.p (.int .i64 0),.full []],.box [.p (.int .i64 k),.own 3 ((t.map fun v=>encT (kindV v)).take j)],.row j 2])
   (fun j=>j≤t.length) (fun j=>t.length - j) [.cell 2 1 2] 0 (fun _=>rfl) ⟨rfl,rfl⟩ (by simp) (fun j B hj hB=>?_)
  simp [zjk]
  intro _
  refine ⟨fun hlt=>?_,fun hge=>?_⟩
  ·obtain ⟨a,b',c,d',f,hab⟩:=zW t[j]
   obtain ⟨a2,b2,hab2⟩:=zho (kindV t[j])
   have hi:=ih t[j] (by simp)
   rw [hab,hab2] at hi
   simp [hlt,hab]
   refine zF rfl hi rfl ?_
   simp
   refine ⟨by omega,⟨fun e he=>by have:=List.mem_of_mem_take he; simp at this; obtain ⟨x,_,rfl⟩:=this; simp,by simp,by simp; omega⟩, ?_⟩
   simp (disch:=omega) only [IntWalk.i64_in]
   have:(t.map fun v=>encT (kindV v)).take j++[encT (kindV t[j])]=(t.map fun v=>encT (kindV v)).take (j + 1):=zrx hlt
   rw [hab2] at this
   rw [this]
   exact hB (j + 1) _ (by omega) (by omega) (by simp) (by simp [Ob.below,AV.under1]) (by simp) (by simp [AV.under,AV.under1])
  ·rw [List.take_of_length_le (by simpa using hge)]
   exact zj (by simp [AV.pur,Function.comp_def])
theorem zkJ {v:Va} (h:Wv 1000000000 v):Abs.Fn Tryz.prog zcW [] [.p (encV v)] (.p (encV v)) []:=by
 induction h with
 | mk k i b s t hs hl ho ih =>
  apply zuj
  simp [zl2]
  refine zA (σ:=Nat) (n:=4) (fun j=>[.p (.int .i64 j)]) (fun j=>[.box [.p (.int .i64 k),.p (.int .i64 i),.p (.bool b),.p (.str s),.p (.slice (t.map encV))],.box [.p (.int .i64 0),.p (.int .i64 0),.p (.bool false),.p (.str []),.full []],
   .box [.p (.int .i64 k),.p (.int .i64 i),.p (.bool b),.p (.str s),.own 3 ((t.map encV).take j)],.row j 5])
   (fun j=>j≤t.length) (fun j=>t.length - j) [.cell 2 4 5] 0 (fun _=>rfl) ⟨rfl,rfl⟩ (by simp) (fun j B hj hB=>?_)
  simp [zmH]
  intro _
  refine ⟨fun hlt=>?_,fun hge=>?_⟩
  ·obtain ⟨a,b',c,d',f,hab⟩:=zW t[j]
   have hi:=ih t[j] (by simp)
   rw [hab] at hi
   simp [hlt,hab]
   refine zF rfl hi rfl ?_
   simp
   refine ⟨by omega,⟨zCO t j,by simp,by simp; omega⟩, ?_⟩
   simp (disch:=omega) only [IntWalk.i64_in]
   have:=zag (l:=t.map encV) (i:=j) (by simpa using hlt)
   simp only [List.getElem_map,hab] at this
   rw [this]
   exact hB (j + 1) _ (by omega) (by omega) (by simp) (by simp [Ob.below,AV.under1]) (by simp) (by simp [AV.under,AV.under1])
  ·rw [List.take_of_length_le (by simpa using hge)]
   exact zj (by simp [AV.pur,Function.comp_def])
theorem znT:∀ (v:Va) (d:Int) (_:0≤d) (_:d≤100),Abs.Fn Tryz.prog zcb [] [.p (encV v),.p (.int .i64 d)] (.p (.int .i64 (z2 v d))) []
 | .mk k i b s t,d,h0,h1=>by
  apply zma
  simp [zeo]
  refine ⟨fun h=>zg (by simp only [z2]; grind),fun hk1 hk2=>⟨fun h=>zg (by simp only [z2,zst]; simp; grind),fun hs1 hs2 hs3 hs4 _=>?_⟩⟩
  have hsp:zst (.mk k i b s t)=false:=by
   simp only [zst]
   simp
   exact ⟨⟨⟨hs1,hs2⟩,hs3⟩,hs4⟩
  refine ⟨fun h=>zg ?_,fun hl=>⟨fun h=>zg ?_,fun h4 _=>⟨fun hz=>zg ?_,fun hz _=>⟨fun h8=>zg ?_,fun h8=>⟨fun hd=>zg ?_,fun hd=>?_⟩⟩⟩⟩⟩
  ·simp only [z2,hsp]; grind
  ·simp only [z2,hsp]; grind
  ·simp only [z2,hsp,rowE]; simp [hz]; grind
  ·have:(t.length:Int)≠0:=by simpa using hz
   simp only [z2,hsp,rowE]; grind
  ·have:(t.length:Int)≠0:=by simpa using hz
   simp only [z2,hsp,rowE]; grind
  ·subst h4
   have hnz:(t.length:Int)≠0:=by simpa using hz
   have he:z2 (.mk 4 i b s t) d=zbW (fun v=>z2 v (d + 1)) t:=by
    simp only [z2,zrJ,hsp,rowE]
    grind
   refine zA (σ:=Nat) (n:=1) (fun j=>[.p (.int .i64 j)]) (fun j=>[.box [.p (.int .i64 4),.p (.int .i64 i),.p (.bool b),.p (.str s),.p (.slice (t.map encV))]]) (fun j=>j≤t.length∧zbW (fun v=>z2 v (d + 1)) (t.drop j)=zbW (fun v=>z2 v (d + 1)) t) (fun j=>t.length - j) [] 0 (fun _=>rfl) ⟨rfl,rfl⟩ (by simp) (fun j B hj hB=>?_)
   obtain ⟨hj1,hj2⟩:=hj
   simp [zgp]
   intro _
   refine ⟨fun hlt=>?_,fun hge=>?_⟩
   ·obtain ⟨a,b',c,d',f,hab⟩:=zW t[j]
    have hm:t[j]∈t:=by simp
    have ih:=znT t[j] (d + 1) (by omega) (by omega)
    have hdr:=zln (fun v=>z2 v (d + 1)) t j hlt
    rw [hj2] at hdr
    rw [hab] at ih
    simp [hlt,hab]
    rw [IntWalk.i64_in _ (by omega)]
    refine zM rfl ih ?_
    simp
    refine ⟨fun hz=>zg (by simp [he,hdr,hz]),fun hz=>?_⟩
    rw [IntWalk.i64_in _ (by omega)]
    exact hB (j + 1) _ ⟨by omega,by simp [hdr,hz]⟩ (by omega) (by simp) (by simp [Ob.below,AV.under1]) (by simp) (by simp [AV.under,AV.under1])
   ·have:j=t.length:=by omega
    subst this
    exact zg (by rw [he,← hj2]; simp [zbW])
termination_by v=>SizeOf.sizeOf v
decreasing_by
 have:=List.sizeOf_lt_of_mem hm
 simp
 omega
theorem zd6 (v:Va):Abs.Fn Tryz.prog zdB [] [.p (encV v)] (.p (.int .i64 (z2 v 0))) []:=by
 apply zl8
 have:=znT v 0 (by omega) (by omega)
 obtain ⟨k,i,b,s,t⟩:=v
 simp [zen]
 exact zM rfl (by simpa using this) (zg rfl)
mutual
def budV:Va→Int→Int→Int
 | .mk _ _ _ s t,d,l=>if l≤0∨d≤0∨20 < t.length∨300 < s.length then 0 else budVs t (d - 1) (l - 1)
def budVs:List Va→Int→Int→Int
 | [],_,l=>l
 | v::r,d,l=>if l≤0 then l else budVs r d (budV v d l)
end
mutual
theorem zDS:∀ (v:Va) (d l:Int),0≤l→0≤budV v d l∧budV v d l≤l
 | .mk k i b s t,d,l,h=>by
  simp only [budV]
  split
  ·omega
  ·have:=zAU t (d - 1) (l - 1) (by omega)
   omega
theorem zAU:∀ (r:List Va) (d l:Int),0≤l→0≤budVs r d l∧budVs r d l≤l
 | [],d,l,h=>by simp [budVs]; omega
 | v::r,d,l,h=>by
  simp only [budVs]
  split
  ·omega
  ·have h1:=zDS v d l h
   have h2:=zAU r d (budV v d l) h1.1
   omega
end
theorem zEs:∀ (r:List Va) (d l:Int),0 < budVs r d l→0 < l
 | [],d,l,h=>by simpa [budVs] using h
 | v::r,d,l,h=>by
  simp only [budVs] at h
  split at h
  ·omega
  ·omega
mutual
theorem zvV:∀ (v:Va) (d l:Int),0 < budV v d l→Wv 300 v
 | .mk k i b s t,d,l,h=>by
  simp only [budV] at h
  split at h
  ·omega
  ·refine .mk k i b s t (by omega) (by omega) (zuK t (d - 1) (l - 1) h)
theorem zuK:∀ (r:List Va) (d l:Int),0 < budVs r d l→∀ v∈r,Wv 300 v
 | [],d,l,h=>by simp
 | v::r,d,l,h=>by
  simp only [budVs] at h
  split at h
  ·omega
  ·intro x hx
   simp only [List.mem_cons] at hx
   rcases hx with rfl | hx
   ·exact zvV x d l (zEs r d _ h)
   ·exact zuK r d _ h x hx
end
theorem zCC:∀ (r:List Va) (d l:Int),l≤0→budVs r d l=l
 | [],d,l,h=>by simp [budVs]
 | v::r,d,l,h=>by simp [budVs,h]
theorem zyT:∀ (v:Va) (d l:Int) (_:0≤d) (_:d≤100) (_:0≤l) (_:l≤1000),Abs.Fn Tryz.prog zdo [] [.p (encV v),.p (.int .i64 d),.p (.int .i64 l)] (.p (.int .i64 (budV v d l))) []
 | .mk k i b s t,d,l,hd0,hd1,hl0,hl1=>by
  apply zpU
  simp [zhA]
  refine ⟨fun h=>zg (by simp only [budV]; grind),fun h1 h2 h3 h4=>?_⟩
  rw [IntWalk.i64_in _ (by omega)]
  have he:budV (.mk k i b s t) d l=budVs t (d - 1) (l - 1):=by
   simp only [budV]
   rw [if_neg (by omega)]
  rw [he]
  refine zA (σ:=Nat×Int) (n:=1) (fun q=>[.p (.int .i64 q.2),.p (.int .i64 q.1)]) (fun q=>[.box [.p (.int .i64 k),.p (.int .i64 i),.p (.bool b),.p (.str s),.p (.slice (t.map encV))]])
   (fun q=>q.1≤t.length∧0≤q.2∧q.2≤1000∧budVs (t.drop q.1) (d - 1) q.2=budVs t (d - 1) (l - 1)) (fun q=>t.length - q.1) [] (0,l - 1) (fun _=>rfl) ⟨rfl,rfl⟩ ⟨by simp,by simp; omega,by simp; omega,by simp⟩ (fun q B hq hB=>?_)
  obtain ⟨j,m⟩:=q
  obtain ⟨g1,g2,g3,g4⟩:=hq
  simp only at g1 g2 g3 g4
  simp [zi6]
  intro _
  refine ⟨fun hlt hm0=>?_,fun hx=>zg ?_⟩
  ·obtain ⟨a,b',c,d',f,hab⟩:=zW t[j]
   have hm:t[j]∈t:=by simp
   have ih:=zyT t[j] (d - 1) m (by omega) (by omega) g2 g3
   have hle:=zDS t[j] (d - 1) m g2
   rw [List.drop_eq_getElem_cons hlt,budVs,if_neg (by omega)] at g4
   rw [hab] at ih
   simp [hlt,hab]
   rw [IntWalk.i64_in _ (by omega)]
   refine zM rfl ih ?_
   simp
   rw [IntWalk.i64_in _ (by omega)]
   exact hB (j + 1,budV t[j] (d - 1) m) _ ⟨by simp; omega,by simp; omega,by simp; omega,g4⟩ (by simp; omega) (by simp) (by simp [Ob.below,AV.under1]) (by simp) (by simp [AV.under,AV.under1])
  ·rcases Nat.lt_or_ge j t.length with hlt | hge
   ·have:=hx hlt
    rw [← g4,zCC _ _ _ (by omega)]
   ·rw [← g4,List.drop_of_length_le hge]
    simp [budVs]
termination_by v=>SizeOf.sizeOf v
decreasing_by
 have:=List.sizeOf_lt_of_mem hm
 simp
 omega
def fewV (v:Va):Bool:=decide (0 < budV v 12 300)
theorem zCV {v:Va} (h:fewV v=true):Wv 300 v:=zvV v 12 300 (by simpa [fewV] using h)
theorem zmp (v:Va):Abs.Fn Tryz.prog ziu [] [.p (encV v)] (.p (.bool (fewV v))) []:=by
 apply ztl
 have:=zyT v 12 300 (by omega) (by omega) (by omega) (by omega)
 obtain ⟨k,i,b,s,t⟩:=v
 simp [zkU]
 refine zM rfl (by simpa using this) ?_
 simp
 exact zg (by simp [fewV])
end Go.Proofs.YtdmgbhamigegfaaGreatDoor
end

section
/- What val.Compare, val.Same and the document's answer, over trees. -/
set_option linter.unusedSimpArgs false
set_option linter.unusedVariables false
namespace Go.Proofs.YtdmgbhamigegfaaGreatDoor
open Go Go.Abs
theorem zxd (a:Int):Abs.Fn Tryz.prog zgw [] [.p (.int .i64 a)] (.p (.bool false)) []:=by
 apply ztL
 simp [zlL]
 exact zg rfl
theorem zs2 (a:Int):Abs.Fn Tryz.prog zey [] [.p (.int .i64 a)] (.p (.bool false)) []:=by
 apply zrP
 simp [zjw]
 exact zg rfl
theorem zoR (a b:Int):Abs.Fn Tryz.prog zc1 [] [.p (.int .i64 a),.p (.int .i64 b)] (.p (.int .i64 (cmpI a b))) []:=by
 apply zrM
 simp [zjv]
 refine zM rfl (zxd a) ?_
 simp
 refine zM rfl (zxd b) ?_
 simp
 exact ⟨fun h=>zg (by simp [cmpI,h]),fun h=>⟨fun h'=>zg (by simp [cmpI,h']; omega),fun h'=>zg (by simp only [cmpI]; rw [if_neg (by omega),if_neg (by omega)])⟩⟩
theorem zyf (a b:Int):Abs.Fn Tryz.prog zfG [] [.p (.int .i64 a),.p (.int .i64 b)] (.p (.int .i64 (cmpI a b))) []:=by
 apply zoU
 simp [zhk]
 refine zM rfl (zs2 a) ?_
 simp
 refine zM rfl (zs2 b) ?_
 simp
 exact ⟨fun h=>zg (by simp [cmpI,h]),fun h=>⟨fun h'=>zg (by simp [cmpI,h']; omega),fun h'=>zg (by simp only [cmpI]; rw [if_neg (by omega),if_neg (by omega)])⟩⟩
theorem zxT (b:Bool):Abs.Fn Tryz.prog zlF [] [.p (.bool b)] (.p (.int .i64 (zd4 b))) []:=by
 apply zAA
 simp [zuC]
 exact ⟨fun h=>zg (by simp [h,zd4]),fun h=>zg (by simp [h,zd4])⟩
theorem zF1 (l:List Int) (i:Nat) (h:i < l.length):orI (l.drop i)=if l[i]≠0 then l[i] else orI (l.drop (i + 1)):=by
 rw [List.drop_eq_getElem_cons h]
 simp [orI]
theorem zD5 (l:List Int):Abs.Fn Tryz.prog zj8 [] [.p (.slice (l.map (.int .i64)))] (.p (.int .i64 (orI l))) []:=by
 apply zyh
 simp [zrN]
 intro hl
 refine zA (σ:=Nat) (n:=0) (fun i=>[.p (.int .i64 i)]) (fun _=>[]) (fun i=>i≤l.length∧orI (l.drop i)=orI l) (fun i=>l.length - i) [] 0 (fun _=>rfl) ⟨rfl,rfl⟩ (by simp) (fun i B hi hB=>?_)
 obtain ⟨h1,h2⟩:=hi
 simp [zq8]
 refine ⟨fun hlt=>?_,fun hge=>?_⟩
 ·have hd:=zF1 l i hlt
  rw [h2] at hd
  simp [hlt]
  refine ⟨fun hz=>zg (by simp [hd,hz]),fun hz=>?_⟩
  rw [IntWalk.i64_in _ (by simp [maxLen] at hl; omega)]
  exact hB (i + 1) _ ⟨by omega,by simp [hd,hz]⟩ (by omega) (by simp) (by simp) (by simp) (by simp [AV.under,AV.under1])
 ·have:i=l.length:=by omega
  subst this
  exact zg (by simp [← h2,orI])
theorem zwb (l q:List Va) (i:Nat) (h:i < l.length) (h':i < q.length):cmpVs (l.drop i) (q.drop i)=if cmpV l[i] q[i]≠0 then cmpV l[i] q[i] else cmpVs (l.drop (i + 1)) (q.drop (i + 1)):=by
 rw [List.drop_eq_getElem_cons h,List.drop_eq_getElem_cons h']
 simp [cmpVs]
theorem ztM (l q:List Va) (hf:∀ a∈l,∀ b∈q,Abs.Fn Tryz.prog zbe [] [.p (encV a),.p (encV b)] (.p (.int .i64 (cmpV a b))) []) :
  Abs.Fn Tryz.prog zP [] [.p (.slice (l.map encV)),.p (.slice (q.map encV)),.p (.func zbe [])] (.p (.int .i64 (cmpVs l q))) []:=by
 apply zbB
 simp [zR]
 intro hl
 refine zA (σ:=Nat) (n:=0) (fun i=>[.p (.int .i64 i)]) (fun _=>[]) (fun i=>i≤l.length∧i≤q.length∧cmpVs (l.drop i) (q.drop i)=cmpVs l q) (fun i=>l.length - i) [] 0 (fun _=>rfl) ⟨rfl,rfl⟩ (by simp) (fun i B hi hB=>?_)
 obtain ⟨h1,h3,h2⟩:=hi
 simp [zai]
 refine ⟨fun hlt=>?_,fun hge hll hql=>?_⟩
 ·obtain ⟨a,b,c,d,e,hab⟩:=zW l[i]
  simp [hlt,hab]
  intro hql
  refine ⟨fun hq=>?_,fun hq=>?_⟩
  ·have:i=q.length:=by omega
   refine zg ?_
   rw [← h2,this,List.drop_of_length_le (Nat.le_refl _),List.drop_eq_getElem_cons (by omega)]
   simp [cmpVs]
  ·obtain ⟨a',b',c',d',e',hab'⟩:=zW q[i]
   have hfm:=hf l[i] (by simp) q[i] (by simp)
   have hd:=zwb l q i hlt hq
   rw [h2] at hd
   rw [hab,hab'] at hfm
   simp [hq,hab']
   refine zM rfl hfm ?_
   simp
   refine ⟨fun hz=>zg (by simp [hd,hz]),fun hz=>?_⟩
   rw [IntWalk.i64_in _ (by simp [maxLen] at hl; omega)]
   exact hB (i + 1) _ ⟨by omega,by omega,by simp [hd,hz]⟩ (by omega) (by simp) (by simp) (by simp) (by simp [AV.under,AV.under1])
 ·have hi:i=l.length:=by omega
  subst hi
  rw [List.drop_of_length_le (Nat.le_refl _)] at h2
  refine ⟨fun h=>zg ?_,fun h=>zg ?_⟩
  ·rw [← h2,List.drop_eq_getElem_cons (by omega)]
   simp [cmpVs]
  ·rw [← h2,List.drop_of_length_le (by omega)]
   simp [cmpVs]
theorem zfn:∀ a b:Va,Abs.Fn Tryz.prog zbe [] [.p (encV a),.p (encV b)] (.p (.int .i64 (cmpV a b))) []
 | .mk k i b s t,.mk k' i' b' s' t'=>by
  apply zx0
  simp [zqg]
  refine zF rfl (zoR k k') rfl ?_
  simp
  refine zF rfl (zyf i i') rfl ?_
  simp
  refine zF rfl (zxT b) rfl ?_
  simp
  refine zF rfl (zxT b') rfl ?_
  simp
  refine zF rfl (zoR _ _) rfl ?_
  simp
  refine zF rfl (zA6 s s') rfl ?_
  simp
  refine zF rfl (by simpa using zD5 [cmpI k k',cmpI i i',cmpI (zd4 b) (zd4 b'),cmpS s s']) rfl ?_
  simp
  refine ⟨fun h=>zg (by simp only [cmpV]; rw [if_pos (by simpa using h)]),fun h=>?_⟩
  have hr:Abs.Fn Tryz.prog zfm [] [.p (.slice (t.map encV)),.p (.slice (t'.map encV)),.p (.func zbe [])] (.p (.int .i64 (cmpVs t t'))) []:=by
   apply zoH
   simp [zg0]
   refine zM rfl (ztM t t' ?_) (zg rfl)
   intro x hx y hy
   exact zfn x y
  refine zM rfl hr (zg (by simp only [cmpV]; rw [if_neg (by simpa using h)]))
termination_by a=>SizeOf.sizeOf a
decreasing_by
 have:=List.sizeOf_lt_of_mem hx
 simp
 omega
theorem zcU (a b:Va):Abs.Fn Tryz.prog zgZ [] [.p (encV a),.p (encV b)] (.p (.bool (decide (cmpV a b=0)))) []:=by
 apply zCc
 have:=zfn a b
 obtain ⟨a1,a2,a3,a4,a5,hab⟩:=zW a
 obtain ⟨b1,b2,b3,b4,b5,hbb⟩:=zW b
 rw [hab,hbb] at this ⊢
 simp [zx3]
 refine zM rfl this ?_
 simp
 exact zg rfl
theorem zmx (b:Bool):Abs.Fn Tryz.prog zbw [] [.p (.bool b)] (.p (.int .i64 (if b then -1 else 1))) []:=by
 apply zss
 simp [zjI]
 exact ⟨fun h=>zg (by simp [h]),fun h=>zg (by simp [h])⟩
theorem zlH:∀ a b:Va,Abs.Fn Tryz.prog zbZ [] [.p (encV a),.p (encV b)] (.p (.int .i64 (cmpV a b))) []
 | .mk k i b s t,.mk k' i' b' s' t'=>by
  apply zoF
  simp [zgT]
  refine ⟨fun h=>zM rfl (zmx _) (zg ?_),fun hk=>⟨fun h=>zM rfl (zmx _) (zg ?_),fun hi=>⟨fun h=>zM rfl (zmx _) (zg ?_),fun hb=>⟨fun h=>zM rfl (zmx _) (zg ?_),fun hs=>?_⟩⟩⟩⟩
  ·simp only [cmpV,orI,cmpI]; grind
  ·subst hk; simp only [cmpV,orI,cmpI]; grind
  ·subst hk hi; cases b <;> cases b' <;> simp [cmpV,orI,cmpI,zd4] at h ⊢
  ·subst hk hi hb; simp only [cmpV,orI,cmpI,cmpS]; grind
  ·subst hk hi hb hs
   have he:cmpV (.mk k i b s t) (.mk k i b s t')=cmpVs t t':=by
    simp only [cmpV]
    rw [if_neg (by simp [zxz,zkm,zqr])]
   rw [he]
   refine zA (σ:=Nat) (n:=2) (fun j=>[.p (.int .i64 j)]) (fun j=>[.box [.p (.int .i64 k),.p (.int .i64 i),.p (.bool b),.p (.str s),.p (.slice (t.map encV))],.box [.p (.int .i64 k),.p (.int .i64 i),.p (.bool b),.p (.str s),.p (.slice (t'.map encV))]])
    (fun j=>j≤t.length∧j≤t'.length∧cmpVs (t.drop j) (t'.drop j)=cmpVs t t') (fun j=>t.length - j) [] 0 (fun _=>rfl) ⟨rfl,rfl⟩ (by simp) (fun j B hj hB=>?_)
   obtain ⟨h1,h3,h2⟩:=hj
   simp [zh9]
   intro hmx
   refine ⟨fun hlt hlt'=>?_,fun hx hll hll'=>?_⟩
   ·obtain ⟨a,b1,c,d,e,hab⟩:=zW t[j]
    obtain ⟨a',b1',c',d',e',hab'⟩:=zW t'[j]
    have hm:t[j]∈t:=by simp
    have ih:=zlH t[j] t'[j]
    have hd:=zwb t t' j hlt hlt'
    rw [h2] at hd
    rw [hab,hab'] at ih
    simp [hlt,hab,hlt',hab']
    refine zF rfl ih rfl ?_
    simp
    refine ⟨fun hz=>zg (by simp [hd,hz]),fun hz=>?_⟩
    rw [IntWalk.i64_in _ (by simp [maxLen] at hmx; omega)]
    exact hB (j + 1) _ ⟨by omega,by omega,by simp [hd,hz]⟩ (by omega) (by simp) (by simp [Ob.below,AV.under1]) (by simp) (by simp [AV.under,AV.under1])
   ·have hj:j=t.length∨j=t'.length:=by
     rcases Nat.lt_or_ge j t.length with h | h
     ·have:=hx h; omega
     ·omega
    refine ⟨fun hne _ _=>zM rfl (zmx _) (zg ?_),fun he=>zg ?_⟩
    ·rw [← h2]
     rcases Nat.lt_or_ge t.length t'.length with hlt | hge
     ·have:j=t.length:=by omega
      subst this
      rw [List.drop_of_length_le (Nat.le_refl _),List.drop_eq_getElem_cons hlt]
      simp [cmpVs,hlt]
     ·have:j=t'.length:=by omega
      subst this
      rw [List.drop_of_length_le (Nat.le_refl _),List.drop_eq_getElem_cons (by omega)]
      have:¬ (t.length < t'.length):=by omega
      simp [cmpVs,this]
    ·rw [← h2,List.drop_of_length_le (by omega),List.drop_of_length_le (by omega)]
     simp [cmpVs]
termination_by a=>SizeOf.sizeOf a
decreasing_by
 have:=List.sizeOf_lt_of_mem hm
 simp
 omega
theorem zvF (a b:Va):Abs.Fn Tryz.prog zeC [] [.p (encV a),.p (encV b)] (.p (.bool (decide (cmpV a b=0)))) []:=by
 apply zso
 have:=zlH a b
 obtain ⟨a1,a2,a3,a4,a5,hab⟩:=zW a
 obtain ⟨b1,b2,b3,b4,b5,hbb⟩:=zW b
 rw [hab,hbb] at this ⊢
 simp [zjG]
 refine zM rfl this ?_
 simp
 exact zg rfl
end Go.Proofs.YtdmgbhamigegfaaGreatDoor
end
