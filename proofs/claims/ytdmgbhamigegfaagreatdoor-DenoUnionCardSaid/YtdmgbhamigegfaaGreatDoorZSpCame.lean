/- Maps from numbers to numbers; the rows of a source that have come; over trees. -/
import Derived.Test.YtdmgbhamigegfaaGreatDoorZSpPlace
import Derived.Test.YtdmgbhamigegfaaGreatDoorZSpRepQ
set_option linter.unusedSimpArgs false
set_option linter.unusedVariables false
namespace Go.Proofs.YtdmgbhamigegfaaGreatDoor
open Go Go.Abs
abbrev encMI (m:List (Int×Int)):List (T×T):=m.map fun p=>(.int .i64 p.1,.int .i64 p.2)
def getMI:List (Int×Int)→Int→Int
 | [],_=>0
 | p::r,s=>if s=p.1 then p.2 else getMI r s
def putMI:List (Int×Int)→Int→Int→List (Int×Int)
 | [],s,v=>[(s,v)]
 | p::r,s,v=>if s=p.1 then (s,v)::r else p::putMI r s v
theorem zy1 (s t v:Int):∀ m,getMI (putMI m s v) t=if t=s then v else getMI m t
 | []=>by simp [putMI,getMI]
 | p::r=>by
  unfold putMI
  by_cases h:s=p.1
  ·rw [if_pos h]
   simp only [getMI]
   by_cases h2:t=s
   ·simp [h2]
   ·rw [if_neg h2,if_neg h2,if_neg (by rw [← h]; exact h2)]
  ·rw [if_neg h]
   simp only [getMI]
   by_cases h2:t=p.1
   ·rw [if_pos h2,if_pos h2,if_neg (by rw [h2]; exact fun e=>h e.symm)]
   ·rw [if_neg h2,if_neg h2,zy1 s t v r]
theorem zzQ (s:Int):∀ (m:List (Int×Int)) (i:Nat),
  (zfs (.int .i64) (.int .i64 s) (encMI m) i=some none∧getMI m s=0 ∧ ∀ v,putMI m s v=m++[(s,v)]) ∨
  ∃ j,zfs (.int .i64) (.int .i64 s) (encMI m) i=some (some (i + j,.int .i64 (getMI m s))) ∧ ∀ v,putMI m s v=m.set j (s,v)
 | [],i=>.inl ⟨rfl,rfl,fun v=>rfl⟩
 | p::r,i=>by
  have e:zfs (.int .i64) (.int .i64 s) (encMI (p::r)) i=if s=p.1 then some (some (i,.int .i64 p.2)) else zfs (.int .i64) (.int .i64 s) (encMI r) (i + 1):=by
   simp only [encMI,List.map_cons,zfs,zfV,keyEq,decide_true]
   by_cases h:s=p.1
   ·simp [h]
   ·rw [if_neg h,show (s == p.1)=false by simpa using h]
  rw [e]
  by_cases h:s=p.1
  ·refine .inr ⟨0,by rw [if_pos h]; simp [getMI,h],fun v=>by simp [putMI,h]⟩
  ·rw [if_neg h]
   rcases zzQ s r (i + 1) with ⟨h1,h2,h4⟩ | ⟨j,h1,h4⟩
   ·exact .inl ⟨h1,by simp [getMI,h,h2],fun v=>by simp [putMI,h,h4]⟩
   ·exact .inr ⟨j + 1,by rw [h1]; simp [getMI,h]; omega,fun v=>by simp [putMI,h,h4]⟩
theorem zqx {m:List (Int×Int)} {s:Int} {id:Nat} {H:List Ob} {K:AV→List Ob→Prop} (ho:H[id]? = some (.mapo (encMI m))) (hk:K (.p (.int .i64 (getMI m s))) H) :
  zex (.int .i64) false (.p (.int .i64 0)) (.mapr id) (.p (.int .i64 s)) H K:=by
 simp only [zex,aKey,ho,zfV,decide_true]
 rcases zzQ s m 0 with ⟨h1,h2,_⟩ | ⟨j,h1,_⟩
 ·rw [h1]
  simpa [h2] using hk
 ·rw [h1]
  exact hk
theorem zuw {m:List (Int×Int)} {s v:Int} {id:Nat} {H:List Ob} {K:AV→List Ob→Prop} (ho:H[id]? = some (.mapo (encMI m))) (hk:K .top (H.set id (.mapo (encMI (putMI m s v))))) :
  zcB (.int .i64) (.mapr id) (.p (.int .i64 s)) (.p (.int .i64 v)) H K:=by
 have hc:(AV.p (.int .i64 v)).cellT=some (.int .i64 v):=rfl
 simp only [zcB,hc,aKey,ho,zfV,decide_true]
 rcases zzQ s m 0 with ⟨h1,_,h4⟩ | ⟨j,h1,h4⟩
 ·rw [h1]
  rw [h4] at hk
  simpa [encMI] using hk
 ·rw [h1]
  rw [h4] at hk
  simp only [Nat.zero_add]
  simpa [encMI,List.map_set] using hk
def cntS (mx n s:Nat):Nat:=(n + (mx - 1 - s)) / mx
theorem cntS_at (mx n:Nat) (h:0 < mx):cntS mx n (n % mx)=n / mx:=by
 have hm:=Nat.mod_lt n h
 have e:=Nat.div_add_mod n mx
 unfold cntS
 rw [show n + (mx - 1 - n % mx)=(mx - 1) + mx * (n / mx) by omega,Nat.add_mul_div_left _ _ h,Nat.div_eq_of_lt (by omega)]
 omega
theorem zEw (mx n s:Nat) (h:0 < mx) (hs:s < mx):cntS mx (n + 1) s=if s=n % mx then n / mx + 1 else cntS mx n s:=by
 have hm:=Nat.mod_lt n h
 have e:=Nat.div_add_mod n mx
 split
 ·rename_i he
  subst he
  unfold cntS
  rw [show n + 1 + (mx - 1 - n % mx)=mx + mx * (n / mx) by omega,Nat.add_mul_div_left _ _ h,Nat.div_self h]
  omega
 ·rename_i he
  unfold cntS
  by_cases hlt:s < n % mx
  ·rw [show n + 1 + (mx - 1 - s)=(n % mx - s) + mx * (n / mx + 1) by rw [Nat.mul_add]; omega,show n + (mx - 1 - s)=(n % mx - s - 1) + mx * (n / mx + 1) by rw [Nat.mul_add]; omega,Nat.add_mul_div_left _ _ h,Nat.add_mul_div_left _ _ h,Nat.div_eq_of_lt (show n % mx - s < mx by omega),Nat.div_eq_of_lt (show n % mx - s - 1 < mx by omega)]
  ·rw [show n + 1 + (mx - 1 - s)=(n % mx + mx - s) + mx * (n / mx) by omega,show n + (mx - 1 - s)=(n % mx + mx - 1 - s) + mx * (n / mx) by omega,Nat.add_mul_div_left _ _ h,Nat.add_mul_div_left _ _ h,Nat.div_eq_of_lt (show n % mx + mx - s < mx by omega),Nat.div_eq_of_lt (show n % mx + mx - 1 - s < mx by omega)]
attribute [local irreducible] Abs.Fn
theorem zEt (g:List Nd) (i:Nat) (hi:i < g.length) (rows:List Va) (ends:List Int) (hm:0 < g[i].mx) (hr:rows.length≤10000) (he:ends.length≤1000) :
  Abs.Fn Tryz.prog zo8 [] [.p (.slice (g.map encN)),.p (.int .i64 i),.p (.slice (rows.map encV)),.p (.slice (ends.map (.int .i64)))] (.p (.slice ((cameD g[i].mx.toNat ends 0 rows).map encV))) []:=by
 obtain ⟨mx,hmx⟩:∃ mx:Nat,g[i].mx=mx:=⟨g[i].mx.toNat,by omega⟩
 have hm0:0 < mx:=by omega
 have htn:g[i].mx.toNat=mx:=by omega
 rw [htn]
 have hsp:∀ n:Nat,Abs.Fn Tryz.prog zhm [] [.p (.slice (g.map encN)),.p (.int .i64 i),.p (.int .i64 n)] (.p (.int .i64 ((n % mx:Nat):Int))) []:=fun n=>by
  have:=zvG g i hi n (by omega)
  rwa [hmx,show (n:Int).tmod (mx:Int)=((n % mx:Nat):Int) from rfl] at this
 apply zzy
 simp [ztO]
 unfold zsA
 intro hml
 refine zA (σ:=Nat×List (Int×Int)) (n:=2) (fun s=>[.own 1 ((cameD mx ends 0 (rows.take s.1)).map encV),.p (.int .i64 s.1)]) (fun s=>[.mapo (encMI s.2),.row (cameD mx ends 0 (rows.take s.1)).length 5])
  (fun s=>s.1≤rows.length ∧ ∀ q,q < mx→getMI s.2 (q:Int)=cntS mx s.1 q) (fun s=>rows.length - s.1) [.slot 0 5] (0,[]) (fun _=>rfl) ?_ ?_ (fun s B hs hB=>?_)
 ·simp [zbo,ghost,cameD]
 ·refine ⟨by simp,fun q hq=>?_⟩
  simp only [getMI,cntS]
  rw [Nat.div_eq_of_lt (by omega)]; rfl
 obtain ⟨n,m⟩:=s
 obtain ⟨h1,h2⟩:=hs
 simp only at h1 h2 hB
 simp [zsG]
 refine ⟨fun hlt=>?_,fun hge=>?_⟩
 ·simp [hlt]
  have hlook:getMI m ((n % mx:Nat):Int)=((n / mx:Nat):Int):=by rw [h2 _ (Nat.mod_lt n hm0),cntS_at mx n hm0]
  have hnx:n / mx≤n:=Nat.div_le_self n mx
  have hrn:rows[n]? = some rows[n]:=List.getElem?_eq_getElem hlt
  have hnext:cameD mx ends 0 (rows.take (n + 1))=cameD mx ends 0 (rows.take n)++if zkz mx ends n then [rows[n]] else []:=zCE mx ends rows n hlt
  have hlen:(cameD mx ends 0 (rows.take n)).length≤n:=Nat.le_trans (ztH mx ends _ 0) (by simp; omega)
  have hm':∀ q,q < mx→getMI (putMI m ((n % mx:Nat):Int) ((n / mx:Nat) + 1:Int)) (q:Int)=cntS mx (n + 1) q:=fun q hq=>by
   rw [zy1,zEw mx n q hm0 hq,h2 q hq]
   by_cases e:q=n % mx
   ·subst e; simp
   ·rw [if_neg (by omega),if_neg e]
  have fin:∀ (es:List T) (H2:List Ob),es=(cameD mx ends 0 (rows.take (n + 1))).map encV→H2.take 2=[.mapo (encMI (putMI m ((n % mx:Nat):Int) ((n / mx:Nat) + 1:Int))),.row (cameD mx ends 0 (rows.take (n + 1))).length 5]→2≤H2.length→B [.own 1 es,.p (.int .i64 ((n:Int) + 1))] H2:=by
   intro es H2 he2 ht h9
   subst he2
   refine hB (n + 1,putMI m ((n % mx:Nat):Int) ((n / mx:Nat) + 1:Int)) _ ⟨by simp only; omega,hm'⟩ (by simp only; omega) ht ?_ h9 (by simp [AV.under,AV.under1])
   rw [ht]
   simp [Ob.below,AV.under1]
  generalize rows[n]=x at *
  have hspn:=hsp n
  clear hsp
  generalize hs:n % mx=s at *
  generalize hq:n / mx=q at *
  refine zo rfl rfl hspn ?_
  simp [hrn]
  refine ⟨by unfold maxLen; omega,fun hlt2=>?_,fun hge2=>?_⟩
  ·refine zqx (m:=m) (by simp) ?_
   rw [hlook]
   simp [hlt2]
   have hgd:ends.getD s 0=ends[s]:=by simp [List.getD,hlt2]
   refine ⟨fun hc=>?_,fun hc=>?_⟩
   ·refine ⟨⟨fun e he=>?_,by simp,by simp; omega⟩, ?_⟩
    ·obtain ⟨y,_,rfl⟩:=List.mem_map.1 he; simp
    refine zqx (m:=m) (by simp) ?_
    rw [hlook]
    simp
    rw [IntWalk.i64_in _ (by omega)]
    refine zuw (m:=m) (by simp) ?_
    simp
    rw [IntWalk.i64_in _ (by omega)]
    have hcc:zkz mx ends n=true:=by simp only [zkz,hs,hq,hgd]; simp [hlt2]; omega
    rw [hcc] at hnext
    refine fin _ _ (by rw [hnext]; simp) (by rw [hnext]; simp) (by simp)
   ·refine zqx (m:=m) (by simp) ?_
    rw [hlook]
    simp
    rw [IntWalk.i64_in _ (by omega)]
    refine zuw (m:=m) (by simp) ?_
    simp
    rw [IntWalk.i64_in _ (by omega)]
    have hcc:zkz mx ends n=false:=by simp only [zkz,hs,hq,hgd]; simp [hlt2]; omega
    rw [hcc] at hnext
    refine fin _ _ (by rw [hnext]; simp) (by rw [hnext]; simp) (by simp)
  ·refine zqx (m:=m) (by simp) ?_
   rw [hlook]
   simp
   rw [IntWalk.i64_in _ (by omega)]
   refine zuw (m:=m) (by simp) ?_
   simp
   rw [IntWalk.i64_in _ (by omega)]
   have hc:zkz mx ends n=false:=by simp [zkz,hs]; omega
   rw [hc] at hnext
   refine fin _ _ (by rw [hnext]; simp) (by rw [hnext]; simp) (by simp)
 ·rw [List.take_of_length_le (by omega)]
  refine zFC (zqw [] ?_ rfl (by simp) (by simp [zcG,renF]) (by simp [AV.under,AV.under1]) (by simp [Ob.below,AV.under1]))
  simp [treeQ]
end Go.Proofs.YtdmgbhamigegfaaGreatDoor
