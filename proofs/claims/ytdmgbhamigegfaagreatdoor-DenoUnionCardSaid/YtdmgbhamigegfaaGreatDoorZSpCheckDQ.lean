/- More of what a job means: where a front's sources stand. No program in sight. -/
import Derived.Test.YtdmgbhamigegfaaGreatDoorZPuDeno
import Derived.Test.YtdmgbhamigegfaaGreatDoorZSpGraph
import Derived.Test.YtdmgbhamigegfaaGreatDoorZSpGrowsQ
import Derived.Test.YtdmgbhamigegfaaGreatDoorZSpOfAllQ
import Derived.Test.YtdmgbhamigegfaaGreatDoorZSpRepQ
import Derived.Test.YtdmgbhamigegfaaGreatDoorS1

section
/- More of what a job means: where a front's sources stand. No program in sight. -/
set_option linter.unusedSimpArgs false
set_option linter.unusedVariables false
namespace Go.Proofs.YtdmgbhamigegfaaGreatDoor
open Go Go.Abs
def srcN (l:List Nd):Nat:=l.countP fun n=>decide (n.op.k=1)
theorem zlq:∀ (l:List Nd) (k:Nat),∀ x∈zbH 1 k l,(k:Int)≤x
 | [],k,x,h=>by simp [zbH] at h
 | n::r,k,x,h=>by
  simp only [zbH] at h
  split at h
  ·rcases List.mem_cons.1 h with rfl | h
   ·omega
   ·have:=zlq r (k + 1) x h; omega
  ·have:=zlq r (k + 1) x h; omega
theorem zBr (x:Int):∀ (l:List Int) (i:Nat),(∀ y∈l,y≠x)→idxF (fun y=>decide (y=x)) i l = -1
 | [],i,_=>rfl
 | y::r,i,h=>by
  simp only [idxF]
  rw [if_neg (by simpa using h y (by simp)),zBr x r (i + 1) (fun z hz=>h z (by simp [hz]))]
theorem zzU:∀ (l:List Nd) (k0 j:Nat) (i:Nat) (hj:j < l.length),idxF (fun y=>decide (y=((k0 + j:Nat):Int))) i (zbH 1 k0 l)=if l[j].op.k=1 then ((i + srcN (l.take j):Nat):Int) else -1
 | [],k0,j,i,h=>by simp at h
 | n::r,k0,0,i,h=>by
  simp only [zbH,List.getElem_cons_zero,Nat.add_zero,List.take_zero]
  by_cases h1:n.op.k=1
  ·simp [h1,idxF,srcN]
  ·rw [if_neg h1,if_neg h1]
   exact zBr _ _ _ (fun y hy e=>by have:=zlq r (k0 + 1) y hy; omega)
 | n::r,k0,j + 1,i,h=>by
  have hr:j < r.length:=by simpa using h
  have e:k0 + (j + 1)=(k0 + 1) + j:=by omega
  simp only [zbH,List.getElem_cons_succ,List.take_succ_cons]
  by_cases h1:n.op.k=1
  ·rw [if_pos h1]
   simp only [idxF]
   rw [if_neg (by simp; omega),e,zzU r (k0 + 1) j (i + 1) hr]
   by_cases h2:r[j].op.k=1
   ·rw [if_pos h2,if_pos h2]
    simp only [srcN,List.countP_cons,h1]
    simp; omega
   ·rw [if_neg h2,if_neg h2]
  ·rw [if_neg h1,e,zzU r (k0 + 1) j i hr]
   by_cases h2:r[j].op.k=1
   ·rw [if_pos h2,if_pos h2]
    simp [srcN,List.countP_cons,h1]
   ·rw [if_neg h2,if_neg h2]
theorem zqa (last:Bool) (ins:List InD) (ends:List (List Int)):∀ (l:List Nd) (s s':FrD),zav last ins ends s l=some s'→s'.srcs=s.srcs + srcN l∧s'.outs.length=s.outs.length + l.length∧s'.sinks.length≤s.sinks.length + l.length
 | [],s,s',h=>by
  simp only [zav,Option.some.injEq] at h
  subst h
  simp [srcN]
 | n::r,s,s',h=>by
  simp only [zav] at h
  cases h1:stepD last ins ends s n with
  | none=>rw [h1] at h; simp at h
  | some s1 =>
   rw [h1] at h
   obtain ⟨a1,a2,a3⟩:=zqa last ins ends r s1 s' h
   unfold stepD at h1
   cases h2:nodeD last ins ends s.srcs s.outs n with
   | none=>rw [h2] at h1; simp at h1
   | some p =>
    rw [h2] at h1
    obtain ⟨out,bad⟩:=p
    simp only [Option.some.injEq] at h1
    subst h1
    dsimp only at a1 a2 a3
    refine ⟨?_, ?_, ?_⟩
    ·rw [a1]
     simp only [srcN,List.countP_cons]
     by_cases h:n.op.k=1 <;> simp [h] <;> omega
    ·rw [a2]; simp; omega
    ·simp only [List.length_cons]
     split at a3 <;> simp_all <;> omega
theorem zB0 (last:Bool) (ins:List InD) (ends:List (List Int)) {g:List Nd} {s0 s:FrD} (h:zav last ins ends s0 g=some s) (k:Nat):∃ s1,zav last ins ends s0 (g.take k)=some s1:=by
 have e:=zfk last ins ends (g.take k) (g.drop k) s0
 rw [List.take_append_drop,h] at e
 cases h1:zav last ins ends s0 (g.take k) with
 | none=>rw [h1] at e; simp at e
 | some s1=>exact ⟨s1,rfl⟩
theorem zBZ (last:Bool) (ins:List InD) (ends:List (List Int)) {g:List Nd} {s0 s s1:FrD} (h:zav last ins ends s0 g=some s) {k:Nat} (hk:k < g.length) (h1:zav last ins ends s0 (g.take k)=some s1) :
  ∃ s2,stepD last ins ends s1 g[k]=some s2∧zav last ins ends s0 (g.take (k + 1))=some s2:=by
 obtain ⟨s2,h2⟩:=zB0 last ins ends h (k + 1)
 refine ⟨s2, ?_,h2⟩
 rw [List.take_succ_eq_append_getElem hk,zfk,h1] at h2
 simp only [zav] at h2
 cases h3:stepD last ins ends s1 g[k] with
 | none=>rw [h3] at h2; simp at h2
 | some s3=>rw [h3] at h2; exact h2
end Go.Proofs.YtdmgbhamigegfaaGreatDoor
end

section
/- deno's Check over trees. -/
set_option linter.unusedSimpArgs false
set_option linter.unusedVariables false
namespace Go.Proofs.YtdmgbhamigegfaaGreatDoor
open Go Go.Abs
attribute [local irreducible] Abs.Fn
theorem zAH (g:List Nd) (i:Nat) (hi:i < g.length) (v:Va) (hv:Wv 1000000000 v):Abs.Fn Tryz.prog zhl [] [.p (encV v),.p (.imm [.slice (g.map encN)] 0),.p (.imm [.int .i64 i] 0)] (.p (.bool (!isV v g[i].op.t))) []:=by
 have h:=zFI v g[i].op.t hv
 simp only [zd7,zc2] at h
 apply zvk
 simp [zm5,hi]
 refine zF rfl h rfl ?_
 simp
 exact zg rfl
def ClV (f:Nat) (cs:List T) (l:List Va) (p:Va→Bool):Prop:=∀ v∈l,Abs.Fn Tryz.prog f [] (([encV v]++cs).map .p) (.p (.bool (p v))) []
theorem zBt {f:Nat} {cs:List T} {p:Va→Bool} (l:List Va) (h:ClV f cs l p):Abs.Fn Tryz.prog zaV [] [.p (.slice (l.map encV)),.p (.func f cs)] (.p (.int .i64 (idxF p 0 l))) []:=by
 apply zeI
 simp [za5]
 intro hl
 refine zA (σ:=Nat) (n:=0) (fun i=>[.p (.int .i64 i)]) (fun _=>[]) (fun i=>i≤l.length∧idxF p i (l.drop i)=idxF p 0 l) (fun i=>l.length - i) [] 0 (fun _=>rfl) ⟨rfl,rfl⟩ (by simp) (fun i B hi hB=>?_)
 obtain ⟨h1,h2⟩:=hi
 generalize hA:idxF p 0 l=A at *
 simp [zbQ]
 refine ⟨fun hlt=>?_,fun hge=>?_⟩
 ·rw [List.drop_eq_getElem_cons hlt,idxF] at h2
  have hv:=h l[i] (List.getElem_mem hlt)
  simp only [List.cons_append,List.nil_append,List.map_cons,zd7] at hv
  simp [hlt]
  refine zo rfl rfl hv ?_
  simp
  refine ⟨fun hz=>zg ?_,fun hz=>?_⟩
  ·rw [← h2]; simp [hz]
  ·rw [IntWalk.i64_in _ (by simp [maxLen] at hl; omega)]
   refine hB (i + 1) _ ⟨by omega, ?_⟩ (by omega) (by simp) (by simp) (by simp) (by simp [AV.under,AV.under1])
   rw [← h2]
   simp [hz]
 ·rw [List.drop_of_length_le hge] at h2
  exact zg (by rw [← h2]; rfl)
theorem zwd {f:Nat} {cs:List T} {p:Va→Bool} (l:List Va) (h:ClV f cs l p):Abs.Fn Tryz.prog zaG [] [.p (.slice (l.map encV)),.p (.func f cs)] (.p (.bool (l.any p))) []:=by
 apply zd1
 simp [zaQ]
 refine zo rfl rfl (zBt l h) ?_
 simp
 exact zg (by rw [zxc])
theorem zpF:∀ (l:List Nd) (k:Nat),∀ x∈zbH 1 k l,x < ((k + l.length:Nat):Int)
 | [],k,x,h=>by simp [zbH] at h
 | n::r,k,x,h=>by
  simp only [zbH] at h
  simp only [List.length_cons]
  split at h
  ·rcases List.mem_cons.1 h with rfl | h
   ·omega
   ·have:=zpF r (k + 1) x h; omega
  ·have:=zpF r (k + 1) x h; omega
theorem zDv (l:List InD) (k:Nat) (h:k < l.length):rowsD (l.take (k + 1))=rowsD (l.take k) + l[k].rows.length:=by
 unfold rowsD
 rw [List.take_succ_eq_append_getElem h]
 simp only [List.map_append,List.map_cons,List.map_nil,List.sum_append,List.sum_cons,List.sum_nil,Nat.add_zero]
theorem zBV (B:Nat):∀ (l:List InD),(∀ x∈l,x.rows.length≤B)→rowsD l≤l.length * B
 | [],_=>by simp [rowsD]
 | x::r,h=>by
  have h1:=zBV B r (fun y hy=>h y (by simp [hy]))
  have h2:=h x (by simp)
  unfold rowsD at *
  simp only [List.map_cons,List.sum_cons,List.length_cons,Nat.add_mul,Nat.one_mul]
  omega
set_option maxRecDepth 100000 in
theorem zuD (g:List Nd) (hok:∀ n∈g,OkN n) (hg:g.length≤1000) (ins:List InD) (hin:ins.length≤1000) (hrow:∀ x∈ins,x.rows.length≤1000000) (hwv:∀ x∈ins,∀ v∈x.rows,Wv 1000000000 v) :
  Abs.Fn Tryz.prog zj9 [] [.p (.slice (g.map encN)),.p (.slice (ins.map encI))] (.p (.int .i64 (zv0 g ins))) []:=by
 generalize hE:zv0 g ins=E
 unfold zv0 at hE
 apply zyj
 simp [zrQ]
 refine zo rfl rfl (zAI g hok) ?_
 simp
 refine ⟨fun h0=>zg (by rw [← hE]; simp [h0]),fun h0=>?_⟩
 rw [if_neg (by simpa using h0)] at hE
 refine zo rfl rfl (zvD g 1 (by omega)) ?_
 simp
 obtain ⟨src,hsrc⟩:∃ src,src=zbH 1 0 g:=⟨_,rfl⟩
 have hlt:∀ x∈src,0≤x∧x < (g.length:Int):=fun x hx=>by
  rw [hsrc] at hx
  have a:=zlq g 0 x hx
  have b:=zpF g 0 x hx
  exact ⟨by omega,by simpa using b⟩
 rw [← hsrc] at hE ⊢
 intro hm1 hm2
 refine ⟨fun hne=>zg ?_,fun heq=>?_⟩
 ·rw [← hE,if_pos (by omega)]
 rw [if_neg (by omega)] at hE
 intro hm3
 have hnl:∀ k,rowsD (ins.take k)≤1000000000:=fun k=>by
  have h1:=zBV 1000000 (ins.take k) (fun x hx=>hrow x (List.mem_of_mem_take hx))
  have h2:(ins.take k).length≤1000:=by simp; omega
  exact Nat.le_trans h1 (Nat.le_trans (Nat.mul_le_mul_right _ h2) (by decide))
 refine zA (σ:=Nat) (n:=1) (fun k=>[.p (.int .i64 (rowsD (ins.take k):Nat)),.p (.int .i64 k)]) (fun _=>[.box [.p (.slice (g.map encN))]]) (fun k=>k≤ins.length∧zua g (src.drop k) (ins.drop k)=zua g src ins) (fun k=>ins.length - k) [] 0 (fun _=>rfl) ?_ (by simp) (fun k B hk hB=>?_)
 ·simp [zbo,rowsD]
 obtain ⟨h1,h2⟩:=hk
 simp [zq9]
 refine ⟨fun hlt2=>?_,fun hge=>?_⟩
 ·have hki:k < ins.length:=by omega
  obtain ⟨m,hm⟩:∃ m:Nat,src[k]=m:=⟨src[k].toNat,by have:=hlt _ (List.getElem_mem hlt2); omega⟩
  have hmg:m < g.length:=by have:=hlt _ (List.getElem_mem hlt2); omega
  have hgm:g.getD m noN=g[m]:=by simp [List.getD,hmg]
  have hrt:=zDv ins k hki
  have hrb:=hnl (k + 1)
  rw [List.drop_eq_getElem_cons hlt2,List.drop_eq_getElem_cons hki] at h2
  simp only [zua,hm,Int.toNat_natCast,hgm] at h2
  simp [hlt2,hki,hm,hmg,encI]
  refine ⟨fun hne=>zg ?_,fun heq2=>?_⟩
  ·rw [← hE,if_pos (by rw [← h2]; simp [hne])]
  ·intro hml4
   rw [hrt] at hrb
   rw [IntWalk.i64_in _ (by omega),IntWalk.i64_in _ (by omega)]
   have e1:((rowsD (ins.take k):Nat):Int) + (ins[k].rows.length:Nat)=((rowsD (ins.take (k + 1)):Nat):Int):=by rw [hrt]; omega
   rw [e1]
   refine hB (k + 1) _ ⟨by omega, ?_⟩ (by omega) (by simp) (by simp [Ob.below,AV.under1]) (by simp) (by simp [AV.under,AV.under1])
   rw [← h2]
   simp [heq2]
 ·have hnm:zua g src ins=true:=by rw [← h2,List.drop_of_length_le (by omega)]; rfl
  have hk2:rowsD (ins.take k)=rowsD ins:=by rw [List.take_of_length_le (by omega)]
  rw [if_neg (by simp [hnm])] at hE
  rw [hk2]
  have hrb:=hnl ins.length
  rw [List.take_length] at hrb
  intro hml4
  refine zA (σ:=Nat×Bool) (n:=1) (fun s=>[.p (.int .i64 s.1)]) (fun s=>[if s.2 then .fz [.slice (g.map encN)] else .box [.p (.slice (g.map encN))]]) (fun s=>s.1≤ins.length∧zuv g (src.drop s.1) (ins.drop s.1)=zuv g src ins) (fun s=>ins.length - s.1) [] (0,false) (fun _=>rfl) ?_ (by simp) (fun s B hk hB=>?_)
  ·simp [zbo]
  obtain ⟨j,fz⟩:=s
  obtain ⟨h1,h2⟩:=hk
  simp only at h1 h2 hB
  simp [zra]
  refine ⟨fun hlt2=>?_,fun hge2=>?_⟩
  ·have hki:j < ins.length:=by omega
   obtain ⟨m,hm⟩:∃ m:Nat,src[j]=m:=⟨src[j].toNat,by have:=hlt _ (List.getElem_mem hlt2); omega⟩
   have hmg:m < g.length:=by have:=hlt _ (List.getElem_mem hlt2); omega
   have hgm:g.getD m noN=g[m]:=by simp [List.getD,hmg]
   have hc:=zwd (f:=zhl) (cs:=[.imm [.slice (g.map encN)] 0,.imm [.int .i64 m] 0]) ins[j].rows (p:=fun v=>!isV v g[m].op.t) (fun v hv=>zAH g m hmg v (hwv _ (List.getElem_mem hki) v hv))
   rw [List.drop_eq_getElem_cons hlt2,List.drop_eq_getElem_cons hki] at h2
   simp only [zuv,hm,Int.toNat_natCast,hgm] at h2
   have hany:(ins[j].rows.any fun v=>!isV v g[m].op.t) = !(ins[j].rows.all fun v=>isV v g[m].op.t):=by simp [List.any_eq_not_all_not]
   rw [hany] at hc
   generalize (ins[j].rows.all fun v=>isV v g[m].op.t)=bb at hc h2
   cases fz
   ·simp [hlt2,hki,hm,hmg,encI]
    refine zo rfl rfl hc ?_
    cases bb with
    | false =>
     simp
     refine zg ?_
     rw [← hE,if_pos (by rw [← h2]; rfl)]
    | true =>
     simp
     rw [IntWalk.i64_in _ (by omega)]
     refine hB (j + 1,true) _ ⟨by simp only; omega,by rw [← h2]; simp⟩ (by simp only; omega) (by simp) (by simp [Ob.below,AV.under1]) (by simp) (by simp [AV.under,AV.under1])
   ·simp [hlt2,hki,hm,hmg,encI]
    refine zo rfl rfl hc ?_
    cases bb with
    | false =>
     simp
     refine zg ?_
     rw [← hE,if_pos (by rw [← h2]; rfl)]
    | true =>
     simp
     rw [IntWalk.i64_in _ (by omega)]
     refine hB (j + 1,true) _ ⟨by simp only; omega,by rw [← h2]; simp⟩ (by simp only; omega) (by simp) (by simp [Ob.below,AV.under1]) (by simp) (by simp [AV.under,AV.under1])
  ·have htm:zuv g src ins=true:=by rw [← h2,List.drop_of_length_le (by omega)]; rfl
   rw [if_neg (by simp [htm])] at hE
   refine ⟨fun hgt=>zg ?_,fun hle=>zg ?_⟩
   ·rw [← hE,if_pos (by omega)]
   ·rw [← hE,if_neg (by omega)]
end Go.Proofs.YtdmgbhamigegfaaGreatDoor
end
