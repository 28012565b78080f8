/- Maps from numbers to numbers; the rows of a source that have come; over trees. -/
import Derived.Test.YtdmgbhamigegfaaGreatDoorZSpPlace
import Derived.Test.YtdmgbhamigegfaaGreatDoorZSpRepQ
import Derived.Test.YtdmgbhamigegfaaGreatDoorZSpOpP
import Derived.Test.YtdmgbhamigegfaaGreatDoorZSpEvalCQ
import Derived.Test.YtdmgbhamigegfaaGreatDoorZSpWholeQ
import Derived.Test.YtdmgbhamigegfaaGreatDoorS2
import Derived.Test.YtdmgbhamigegfaaGreatDoorZSpCheckDQ
import Derived.Test.YtdmgbhamigegfaaGreatDoorZSpBudTQ

section
/- Maps from numbers to numbers; the rows of a source that have come; over trees. -/
set_option linter.unusedSimpArgs false
set_option linter.unusedVariables false
namespace Go.Proofs.YtdmgbhamigegfaaGreatDoor
open Go Go.Abs
abbrev encMI (m:List (Int × Int)):List (T × T):=m.map fun p=>(.int .i64 p.1,.int .i64 p.2)
def getMI:List (Int × Int)→Int→Int
 | [],_=>0
 | p :: r,s=>if s = p.1 then p.2 else getMI r s
def putMI:List (Int × Int)→Int→Int→List (Int × Int)
 | [],s,v=>[(s,v)]
 | p :: r,s,v=>if s = p.1 then (s,v) :: r else p :: putMI r s v
theorem getMI_put (s t v:Int):∀ m,getMI (putMI m s v) t = if t = s then v else getMI m t
 | []=>by simp [putMI,getMI]
 | p :: r=>by
  unfold putMI
  by_cases h:s = p.1
  ·rw [if_pos h]
   simp only [getMI]
   by_cases h2:t = s
   ·simp [h2]
   ·rw [if_neg h2,if_neg h2,if_neg (by rw [← h]; exact h2)]
  ·rw [if_neg h]
   simp only [getMI]
   by_cases h2:t = p.1
   ·rw [if_pos h2,if_pos h2,if_neg (by rw [h2]; exact fun e=>h e.symm)]
   ·rw [if_neg h2,if_neg h2,getMI_put s t v r]
theorem find_MI (s:Int):∀ (m:List (Int × Int)) (i:Nat),
  (mapFind (.int .i64) (.int .i64 s) (encMI m) i = some none ∧ getMI m s = 0 ∧ ∀ v,putMI m s v = m ++ [(s,v)]) ∨
  ∃ j,mapFind (.int .i64) (.int .i64 s) (encMI m) i = some (some (i + j,.int .i64 (getMI m s))) ∧ ∀ v,putMI m s v = m.set j (s,v)
 | [],i=>.inl ⟨rfl,rfl,fun v=>rfl⟩
 | p :: r,i=>by
  have e:mapFind (.int .i64) (.int .i64 s) (encMI (p :: r)) i = if s = p.1 then some (some (i,.int .i64 p.2)) else mapFind (.int .i64) (.int .i64 s) (encMI r) (i + 1):=by
   simp only [encMI,List.map_cons,mapFind,isKeyT,keyEq,decide_true]
   by_cases h:s = p.1
   ·simp [h]
   ·rw [if_neg h,show (s == p.1) = false by simpa using h]
  rw [e]
  by_cases h:s = p.1
  ·refine .inr ⟨0,by rw [if_pos h]; simp [getMI,h],fun v=>by simp [putMI,h]⟩
  ·rw [if_neg h]
   rcases find_MI s r (i + 1) with ⟨h1,h2,h4⟩ | ⟨j,h1,h4⟩
   ·exact .inl ⟨h1,by simp [getMI,h,h2],fun v=>by simp [putMI,h,h4]⟩
   ·exact .inr ⟨j + 1,by rw [h1]; simp [getMI,h]; omega,fun v=>by simp [putMI,h,h4]⟩
theorem lookup_MI {m:List (Int × Int)} {s:Int} {id:Nat} {H:List Ob} {K:AV→List Ob→Prop} (ho:H[id]? = some (.mapo (encMI m))) (hk:K (.p (.int .i64 (getMI m s))) H) :
  aLookup (.int .i64) false (.p (.int .i64 0)) (.mapr id) (.p (.int .i64 s)) H K:=by
 simp only [aLookup,aKey,ho,isKeyT,decide_true]
 rcases find_MI s m 0 with ⟨h1,h2,_⟩ | ⟨j,h1,_⟩
 ·rw [h1]
  simpa [h2] using hk
 ·rw [h1]
  exact hk
theorem update_MI {m:List (Int × Int)} {s v:Int} {id:Nat} {H:List Ob} {K:AV→List Ob→Prop} (ho:H[id]? = some (.mapo (encMI m))) (hk:K .top (H.set id (.mapo (encMI (putMI m s v))))) :
  aMapUpdate (.int .i64) (.mapr id) (.p (.int .i64 s)) (.p (.int .i64 v)) H K:=by
 have hc:(AV.p (.int .i64 v)).cellT = some (.int .i64 v):=rfl
 simp only [aMapUpdate,hc,aKey,ho,isKeyT,decide_true]
 rcases find_MI s m 0 with ⟨h1,_,h4⟩ | ⟨j,h1,h4⟩
 ·rw [h1]
  rw [h4] at hk
  simpa [encMI] using hk
 ·rw [h1]
  rw [h4] at hk
  simp only [Nat.zero_add]
  simpa [encMI,List.map_set] using hk
def cntS (mx n s:Nat):Nat:=(n + (mx - 1 - s)) / mx
theorem cntS_at (mx n:Nat) (h:0 < mx):cntS mx n (n % mx) = n / mx:=by
 have hm:=Nat.mod_lt n h
 have e:=Nat.div_add_mod n mx
 unfold cntS
 rw [show n + (mx - 1 - n % mx) = (mx - 1) + mx * (n / mx) by omega,Nat.add_mul_div_left _ _ h,Nat.div_eq_of_lt (by omega)]
 omega
theorem cntS_succ (mx n s:Nat) (h:0 < mx) (hs:s < mx):cntS mx (n + 1) s = if s = n % mx then n / mx + 1 else cntS mx n s:=by
 have hm:=Nat.mod_lt n h
 have e:=Nat.div_add_mod n mx
 split
 ·rename_i he
  subst he
  unfold cntS
  rw [show n + 1 + (mx - 1 - n % mx) = mx + mx * (n / mx) by omega,Nat.add_mul_div_left _ _ h,Nat.div_self h]
  omega
 ·rename_i he
  unfold cntS
  by_cases hlt:s < n % mx
  ·rw [show n + 1 + (mx - 1 - s) = (n % mx - s) + mx * (n / mx + 1) by rw [Nat.mul_add]; omega,show n + (mx - 1 - s) = (n % mx - s - 1) + mx * (n / mx + 1) by rw [Nat.mul_add]; omega,Nat.add_mul_div_left _ _ h,Nat.add_mul_div_left _ _ h,Nat.div_eq_of_lt (show n % mx - s < mx by omega),Nat.div_eq_of_lt (show n % mx - s - 1 < mx by omega)]
  ·rw [show n + 1 + (mx - 1 - s) = (n % mx + mx - s) + mx * (n / mx) by omega,show n + (mx - 1 - s) = (n % mx + mx - 1 - s) + mx * (n / mx) by omega,Nat.add_mul_div_left _ _ h,Nat.add_mul_div_left _ _ h,Nat.div_eq_of_lt (show n % mx + mx - s < mx by omega),Nat.div_eq_of_lt (show n % mx + mx - 1 - s < mx by omega)]
attribute [local irreducible] Abs.Fn
theorem came_spec (g:List Nd) (i:Nat) (hi:i < g.length) (rows:List Va) (ends:List Int) (hm:0 < g[i].mx) (hr:rows.length ≤ 10000) (he:ends.length ≤ 1000) :
  Abs.Fn Tryz.prog deno_came_i [] [.p (.slice (g.map encN)),.p (.int .i64 i),.p (.slice (rows.map encV)),.p (.slice (ends.map (.int .i64)))] (.p (.slice ((cameD g[i].mx.toNat ends 0 rows).map encV))) []:=by
 obtain ⟨mx,hmx⟩:∃ mx:Nat,g[i].mx = mx:=⟨g[i].mx.toNat,by omega⟩
 have hm0:0 < mx:=by omega
 have htn:g[i].mx.toNat = mx:=by omega
 rw [htn]
 have hsp:∀ n:Nat,Abs.Fn Tryz.prog deno_Split_i [] [.p (.slice (g.map encN)),.p (.int .i64 i),.p (.int .i64 n)] (.p (.int .i64 ((n % mx:Nat):Int))) []:=fun n=>by
  have:=Split_spec g i hi n (by omega)
  rwa [hmx,show (n:Int).tmod (mx:Int) = ((n % mx:Nat):Int) from rfl] at this
 apply deno_came_fn
 simp [deno_came]
 unfold aMakeMap
 intro hml
 refine loop_by (σ:=Nat × List (Int × Int)) (n:=2) (fun s=>[.own 1 ((cameD mx ends 0 (rows.take s.1)).map encV),.p (.int .i64 s.1)]) (fun s=>[.mapo (encMI s.2),.row (cameD mx ends 0 (rows.take s.1)).length 5])
  (fun s=>s.1 ≤ rows.length ∧ ∀ q,q < mx→getMI s.2 (q:Int) = cntS mx s.1 q) (fun s=>rows.length - s.1) [.slot 0 5] (0,[]) (fun _=>rfl) ?_ ?_ (fun s B hs hB=>?_)
 ·simp [ghosts,ghost,cameD]
 ·refine ⟨by simp,fun q hq=>?_⟩
  simp only [getMI,cntS]
  rw [Nat.div_eq_of_lt (by omega)]; rfl
 obtain ⟨n,m⟩:=s
 obtain ⟨h1,h2⟩:=hs
 simp only at h1 h2 hB
 simp [deno_came_L1]
 refine ⟨fun hlt=>?_,fun hge=>?_⟩
 ·simp [hlt]
  have hlook:getMI m ((n % mx:Nat):Int) = ((n / mx:Nat):Int):=by rw [h2 _ (Nat.mod_lt n hm0),cntS_at mx n hm0]
  have hnx:n / mx ≤ n:=Nat.div_le_self n mx
  have hrn:rows[n]? = some rows[n]:=List.getElem?_eq_getElem hlt
  have hnext:cameD mx ends 0 (rows.take (n + 1)) = cameD mx ends 0 (rows.take n) ++ if comesD mx ends n then [rows[n]] else []:=cameD_take mx ends rows n hlt
  have hlen:(cameD mx ends 0 (rows.take n)).length ≤ n:=Nat.le_trans (cameD_len mx ends _ 0) (by simp; omega)
  have hm':∀ q,q < mx→getMI (putMI m ((n % mx:Nat):Int) ((n / mx:Nat) + 1:Int)) (q:Int) = cntS mx (n + 1) q:=fun q hq=>by
   rw [getMI_put,cntS_succ mx n q hm0 hq,h2 q hq]
   by_cases e:q = n % mx
   ·subst e; simp
   ·rw [if_neg (by omega),if_neg e]
  have fin:∀ (es:List T) (H2:List Ob),es = (cameD mx ends 0 (rows.take (n + 1))).map encV→H2.take 2 = [.mapo (encMI (putMI m ((n % mx:Nat):Int) ((n / mx:Nat) + 1:Int))),.row (cameD mx ends 0 (rows.take (n + 1))).length 5]→2 ≤ H2.length→B [.own 1 es,.p (.int .i64 ((n:Int) + 1))] H2:=by
   intro es H2 he2 ht h9
   subst he2
   refine hB (n + 1,putMI m ((n % mx:Nat):Int) ((n / mx:Nat) + 1:Int)) _ ⟨by simp only; omega,hm'⟩ (by simp only; omega) ht ?_ h9 (by simp [AV.under,AV.under1])
   rw [ht]
   simp [Ob.below,AV.under1]
  generalize rows[n] = x at *
  have hspn:=hsp n
  clear hsp
  generalize hs:n % mx = s at *
  generalize hq:n / mx = q at *
  refine aCallW_of rfl rfl hspn ?_
  simp [hrn]
  refine ⟨by unfold maxLen; omega,fun hlt2=>?_,fun hge2=>?_⟩
  ·refine lookup_MI (m:=m) (by simp) ?_
   rw [hlook]
   simp [hlt2]
   have hgd:ends.getD s 0 = ends[s]:=by simp [List.getD,hlt2]
   refine ⟨fun hc=>?_,fun hc=>?_⟩
   ·refine ⟨⟨fun e he=>?_,by simp,by simp; omega⟩, ?_⟩
    ·obtain ⟨y,_,rfl⟩:=List.mem_map.1 he; simp
    refine lookup_MI (m:=m) (by simp) ?_
    rw [hlook]
    simp
    rw [IntWalk.i64_in _ (by omega)]
    refine update_MI (m:=m) (by simp) ?_
    simp
    rw [IntWalk.i64_in _ (by omega)]
    have hcc:comesD mx ends n = true:=by simp only [comesD,hs,hq,hgd]; simp [hlt2]; omega
    rw [hcc] at hnext
    refine fin _ _ (by rw [hnext]; simp) (by rw [hnext]; simp) (by simp)
   ·refine lookup_MI (m:=m) (by simp) ?_
    rw [hlook]
    simp
    rw [IntWalk.i64_in _ (by omega)]
    refine update_MI (m:=m) (by simp) ?_
    simp
    rw [IntWalk.i64_in _ (by omega)]
    have hcc:comesD mx ends n = false:=by simp only [comesD,hs,hq,hgd]; simp [hlt2]; omega
    rw [hcc] at hnext
    refine fin _ _ (by rw [hnext]; simp) (by rw [hnext]; simp) (by simp)
  ·refine lookup_MI (m:=m) (by simp) ?_
   rw [hlook]
   simp
   rw [IntWalk.i64_in _ (by omega)]
   refine update_MI (m:=m) (by simp) ?_
   simp
   rw [IntWalk.i64_in _ (by omega)]
   have hc:comesD mx ends n = false:=by simp [comesD,hs]; omega
   rw [hc] at hnext
   refine fin _ _ (by rw [hnext]; simp) (by rw [hnext]; simp) (by simp)
 ·rw [List.take_of_length_le (by omega)]
  refine givesQ (gives_ids [] ?_ rfl (by simp) (by simp [framed,renF]) (by simp [AV.under,AV.under1]) (by simp [Ob.below,AV.under1]))
  simp [treeQ]
end Go.Proofs.YtdmgbhamigegfaaGreatDoor
end

section
/- deno's keyed over trees. -/
set_option linter.unusedSimpArgs false
set_option linter.unusedVariables false
namespace Go.Proofs.YtdmgbhamigegfaaGreatDoor
open Go Go.Abs
attribute [local irreducible] Abs.Fn
theorem keyed_fnH {x0 x1 x2:AV} {Hin:List Ob} {r:AV} {Ho:List Ob} (h:deno_front_keyed_P0 x0 x1 x2 Hin (awp Tryz.prog deno_front_keyed_ann) (kEnd Tryz.prog [.tmp 6] fun v H'=>Gives Hin.length v H' r Ho)):Abs.Fn Tryz.prog deno_front_keyed_i Hin [x0,x1,x2] r Ho :=
 fn_intro mixed deno_front_keyed_ann (fn:=Tryz.f71) (by kernel_rfl) (by kernel_rfl) (by rw [deno_front_keyed_eq]; exact h)
abbrev keyH (g:List Nd) (outs:List T) (no:Nat) (bads:List (Int × Va)) (last:Bool) (o:Opr) (st:List (Int × (Int × Int))) (ver:Nat) (out:List Va):List Ob :=
 frH g outs no bads last ++ [.box ((AV.p (encO o)).cells),.mapo (encM (mapK 0 st)),.box [.own 6 (keysT st),.msl 7 ver 2 0 st.length,.mapr 4],.row st.length 5,.mrow ver 2 (ofT st),.row out.length 5]
theorem set_keys {st:List (Int × (Int × Int))} {p:Nat} {k:Int} {c0:Int × Int} (h:st[p]? = some (k,c0)) (c:Int × Int):keysT (st.set p (k,c)) = keysT st:=by
 simp only [keysT,List.map_set]
 refine List.ext_getElem? fun i=>?_
 by_cases e:p = i
 ·subst e
  obtain ⟨h1,h2⟩:=List.getElem?_eq_some_iff.1 h
  simp [h1,h2]
 ·rw [List.getElem?_set_ne e]
theorem set_map {k:Int} {c0:Int × Int} (c:Int × Int):∀ (st:List (Int × (Int × Int))) (p:Nat) (i:Int),st[p]? = some (k,c0)→mapK i (st.set p (k,c)) = mapK i st
 | [],p,i,h=>by simp at h
 | x :: r,0,i,h=>by simp at h; subst h; rfl
 | x :: r,p + 1,i,h=>by simp only [List.set_cons_succ,mapK]; rw [set_map c r p (i + 1) (by simpa using h)]
theorem set_of {st:List (Int × (Int × Int))} {p:Nat} {k:Int} (c:Int × Int):ofT (st.set p (k,c)) = (ofT st).set p (encC c):=by simp [ofT,List.map_set]
theorem place_all (st:List (Int × (Int × Int))) (k:Int) (hk:I64 k) (ver:Nat) (hl:st.length ≤ 1000000):∃ st1 ver1 p,p < st1.length ∧ st1[p]? = some (k,getK k st) ∧ (∀ c,putK k c st = st1.set p (k,c)) ∧ st1.length ≤ st.length + 1 ∧
  Abs.Fn Tryz.prog deno_counter_deno_Cell_place_i (cntH st ver) [.bptr 1 0,.p (encV (intV k))] (.mptr 3 ver1 2 p 0) (cntH st1 ver1):=by
 by_cases h:posK k st < st.length
 ·refine ⟨st,ver,posK k st,h, ?_,fun c=>(putK_pos k c st).1 h,by omega,place_old st k hk ver h⟩
  rw [List.getElem?_eq_getElem h,(getK_at k st).1 h]
 ·refine ⟨st ++ [(k,(0,0))],ver + 1,st.length,by simp,by simp [(getK_at k st).2 h],fun c=>?_,by simp,place_new st k hk ver h hl⟩
  rw [(putK_pos k c st).2 h]
  simp
theorem key_end {n:Nat} {l:List AV} {x r:AV} {H Ho:List Ob} (hx:l.getD 6 .top = x) (h:Gives n x H r Ho):aRes Tryz.prog [.tmp 6] l H (fun vs=>Gives n (tupOf vs) H r Ho):=by subst hx; exact h
abbrev keyKp (B:List AV→List Ob→Prop) (KE:Ko):Ko :=
 kBlock 1 (kSeq (awp Tryz.prog deno_front_keyed_ann) deno_front_keyed_c19 [0,1,7,8,9,27,28,29,9999] (kLoop [9,29] B (kBlock 0 (kSeq (awp Tryz.prog deno_front_keyed_ann) deno_front_keyed_c20 [0,7,8,9,9999] KE))))
set_option maxRecDepth 100000 in
theorem keyed_spec (g:List Nd) (i:Nat) (hi:i < g.length) (outs:List T) (no:Nat) (bads:List (Int × Va)) (last:Bool) (rows:List Va) (hok:KeyOk g[i].op rows) (hb:bads.length ≤ 100000) {out bad:List Va} (h:keyedD g[i].op last rows = some (out,bad)) :
  Abs.Fn Tryz.prog deno_front_keyed_i (frH g outs no bads last) [.bptr 0 0,.p (.int .i64 i),.p (.slice (rows.map encV))] (.p (.slice (out.map encV))) (frH g outs no (bads ++ bad.map fun x=>((i:Int),x)) last):=by
 refine keyed_fnH ?_
 unfold deno_front_keyed_P0
 simp [hi]
 refine aCallF_of [] fresh_spec rfl (by simp) (by simp) (by simp [framed]) (by simp) (by simp) ?_
 simp [renF,frameH,setAll]
 intro hml
 have hgi:(Option.map encN g[i]?).getD default = encN g[i]:=by simp [hi]
 rw [hgi]
 generalize g[i].op = o at *
 unfold keyedD at h
 cases hS:stepsK o ⟨[],[],[]⟩ rows with
 | none=>rw [hS] at h; simp at h
 | some SF =>
 rw [hS] at h
 simp only [Option.some.injEq,Prod.mk.injEq] at h
 obtain ⟨hout,hbad⟩:=h
 have hlen:=hok.len
 refine loop_by (σ:=Nat × KeyD × Nat) (n:=9) (fun s=>[.own 8 (s.2.1.out.map encV),.p (.int .i64 s.1)]) (fun s=>keyH g outs no (bads ++ s.2.1.bad.map fun x=>((i:Int),x)) last o s.2.1.st s.2.2 s.2.1.out)
  (fun s=>s.1 ≤ rows.length ∧ stepsK o ⟨[],[],[]⟩ (rows.take s.1) = some s.2.1 ∧ s.2.1.st.length ≤ s.1 ∧ s.2.1.out.length ≤ s.1 ∧ s.2.1.bad.length ≤ s.1) (fun s=>rows.length - s.1) [.cell 5 0 5,.mcell 5 1 2,.slot 0 5] (0,⟨[],[],[]⟩,0) (fun _=>rfl) ?_ (by simp [stepsK]) (fun s B hs hB=>?_)
 ·simp [ghosts,ghost,keysT,ofT,mapK]
 obtain ⟨n,S,ver⟩:=s
 obtain ⟨h1,h2,h3,h4,h5⟩:=hs
 simp only at h1 h2 h3 h4 h5 hB
 simp [deno_front_keyed_L1]
 refine ⟨fun hlt=>?_,fun hge=>?_⟩
 ·-- one row more
  have hx:=hok.row _ (List.getElem_mem hlt)
  have hint:=hok.int _ (List.getElem_mem hlt)
  have hstep:∃ S',stepK o S rows[n] = some S' ∧ stepsK o ⟨[],[],[]⟩ (rows.take (n + 1)) = some S':=by
   have e1:=stepsK_app o (rows.take n) (rows.drop n) ⟨[],[],[]⟩
   rw [List.take_append_drop,h2,hS,List.drop_eq_getElem_cons hlt] at e1
   simp only [stepsK] at e1
   have e2:=stepsK_app o (rows.take n) [rows[n]] ⟨[],[],[]⟩
   rw [h2,List.take_append_getElem hlt] at e2
   simp only [stepsK] at e2
   cases hst:stepK o S rows[n] with
   | none=>rw [hst] at e1; simp at e1
   | some S'=>rw [hst] at e2; exact ⟨S',rfl,e2⟩
  obtain ⟨S',hst,hS'⟩:=hstep
  simp [hlt]
  generalize rows[n] = x at *
  have hkr:∃ r,evE o.key x = some r:=by
   unfold stepK at hst
   cases hk:evE o.key x with
   | none=>rw [hk] at hst; simp at hst
   | some r=>exact ⟨r,rfl⟩
  obtain ⟨r,hr⟩:=hkr
  have hkey:=Key7_spec o x r hr hok.key hx
  simp only [encO_eta,encV_eta] at hkey
  -- from the error on
  have c11:∀ (e:Int) (kv:Va) (vi:Int) (a0 a2 a3 a4:AV),(e ≠ 0→S' = { S with bad:=S.bad ++ [x] }) →
    (e = 0→kv = intV kv.i ∧ I64 kv.i ∧ S' = { st:=putK kv.i (foldD o.f (getK kv.i S.st) vi) S.st,bad:=S.bad,out:=S.out ++ if o.k = 6 ∧ (foldD o.f (getK kv.i S.st) vi).1.tmod o.n = 0 then [tupV [kv,intV (foldD o.f (getK kv.i S.st) vi).1]] else if o.k = 7 ∧ (foldD o.f (getK kv.i S.st) vi).1 = 1 then [kv] else [] }) →
    deno_front_keyed_P11 (.bptr 0 0) (.p (.int .i64 i)) (.bptr 3 0) (.bptr 5 0) (.own 8 (S.out.map encV)) (.bptr 9 0) (.bptr 10 0) (.p (.int .i64 e)) (.bptr 11 0) (.p (.slice (rows.map encV))) (.p (.int .i64 rows.length)) (.p (.int .i64 n))
     (keyH g outs no (bads ++ S.bad.map fun x=>((i:Int),x)) last o S.st ver S.out ++ [.box ((AV.p (encV x)).cells),.box ((AV.p (encV kv)).cells),.box [a0,.p (.int .i64 vi),a2,a3,a4]]) (awp Tryz.prog deno_front_keyed_ann)
     (keyKp B (kEnd Tryz.prog [.tmp 6] fun v H'=>Gives 3 v H' (.p (.slice (out.map encV))) (frH g outs no (bads ++ bad.map fun x=>((i:Int),x)) last))):=by
   intro e kv vi a0 a2 a3 a4 he hz
   unfold deno_front_keyed_P11
   simp -implicitDefEqProofs
   refine ⟨fun hne=>?_,fun h0=>?_⟩
   ·obtain rfl:=he hne
    refine ⟨⟨fun q hq=>?_,by simp [T.cells],by simp; omega⟩, ?_⟩
    ·rcases List.mem_append.1 hq with hq | hq
     ·obtain ⟨y,_,rfl⟩:=List.mem_map.1 hq; simp [encW]
     ·obtain ⟨y,_,rfl⟩:=List.mem_map.1 hq; simp [encW]
    rw [deno_front_keyed_c19_eq]
    unfold deno_front_keyed_P19
    simp -implicitDefEqProofs
    rw [IntWalk.i64_in _ (by omega)]
    refine hB (n + 1,⟨S.st,S.out,S.bad ++ [x]⟩,ver) _ ⟨by simp only; omega,hS',by simp only; omega,by simp only; omega,by simp; omega⟩ (by simp only; omega) ?_ ?_ (by simp) (by simp [AV.under,AV.under1])
    ·simp [encW,Nat.add_assoc]
    ·simp [Ob.below,AV.under1]
   ·obtain ⟨hkv,hk64,hS1⟩:=hz h0
    obtain ⟨st1,ver1,p,hp,hget,hput,hlen1,hpl⟩:=place_all S.st kv.i hk64 ver (by omega)
    rw [← hkv] at hpl
    refine aCallQ_of [4,5,6,7] hpl rfl (by simp [renF,treeQ]) (by simp) (by simp [framed,renF]) (by simp [AV.under,AV.under1]) (by simp [Ob.below,AV.under1]) ?_
    have hofp:(ofT st1)[p]? = some (encC (getK kv.i S.st)):=by simp [ofT,hget]
    have hofl:(ofT st1).length = st1.length:=by simp [ofT]
    have hofq:∀ hh:p < (ofT st1).length,(ofT st1)[p] = encC (getK kv.i S.st):=fun hh=>by rw [List.getElem?_eq_getElem hh] at hofp; exact Option.some.inj hofp
    simp -implicitDefEqProofs [renF,frameH,setAll,hofq,hofl,hp,encC]
    have hfold:=Fold_spec o.f (getK kv.i S.st) vi
    simp only [hput] at hS1
    have hk1:=set_keys hget (foldD o.f (getK kv.i S.st) vi)
    have hm1:=set_map (foldD o.f (getK kv.i S.st) vi) st1 p 0 hget
    have ho1:=set_of (st:=st1) (p:=p) (k:=kv.i) (foldD o.f (getK kv.i S.st) vi)
    generalize foldD o.f (getK kv.i S.st) vi = c at *
    simp only [encC] at hfold
    refine aCallT_of rfl hfold rfl ?_
    simp -implicitDefEqProofs [renF,frameH,setAll,hofp,hofl,hp,encC]
    have hput1:((ofT st1)[p]'(by rw [hofl]; exact hp)).putT 0 [T.int .i64 c.1,T.int .i64 c.2] = encC c:=by rw [hofq]; rfl
    rw [hput1,← ho1,deno_front_keyed_c15_eq]
    have hget2:(st1.set p (kv.i,c))[p]? = some (kv.i,c):=by simp [hp]
    have hlen2:(st1.set p (kv.i,c)).length = st1.length:=by simp
    rw [← hk1,← hm1,← hlen2]
    rw [← hlen2] at hlen1
    clear hput hget hofp hofl hofq hput1 hfold hpl hk1 hm1 ho1
    generalize st1.set p (kv.i,c) = st2 at *
    have hofp:(ofT st2)[p]? = some (encC c):=by simp [ofT,hget2]
    have hofl:(ofT st2).length = st2.length:=by simp [ofT]
    have hofq:∀ hh:p < (ofT st2).length,(ofT st2)[p] = encC c:=fun hh=>by rw [List.getElem?_eq_getElem hh] at hofp; exact Option.some.inj hofp
    have hp2:p < st2.length:=by omega
    -- back to the loop
    have fin:∀ (out':List Va) (es:List T) (H2:List Ob),es = out'.map encV→S' = ⟨st2,out',S.bad⟩→out'.length ≤ n + 1→H2.take 9 = keyH g outs no (bads ++ S.bad.map fun x=>((i:Int),x)) last o st2 ver1 out'→9 ≤ H2.length→B [.own 8 es,.p (.int .i64 ((n:Int) + 1))] H2:=by
     intro out' es H2 he2 hS2 ho2 ht h9
     subst hS2 he2
     refine hB (n + 1,⟨st2,out',S.bad⟩,ver1) _ ⟨by simp only; omega,hS',by simp only; omega,ho2,by simp only; omega⟩ (by simp only; omega) ht ?_ h9 (by simp [AV.under,AV.under1])
     rw [ht]
     simp [Ob.below,AV.under1]
    unfold deno_front_keyed_P15
    simp -implicitDefEqProofs [hofq,hofl,hp2,encC]
    have happ:∀ t:T,t.cells.length = 5→appendable 5 64 (S.out.map encV) [t]:=fun t ht=>⟨fun q hq=>by obtain ⟨y,_,rfl⟩:=List.mem_map.1 hq; simp,by simpa using ht,by simp; omega⟩
    refine ⟨fun h6=>⟨hok.tal h6,fun hd=>?_,fun hd=>⟨fun h7 _=>by omega,fun _=>?_⟩⟩,fun h6=>⟨fun h7 hc1=>?_,fun hno=>?_⟩⟩
    ·refine aCallT_of rfl (Int_spec c.1) rfl ?_
     simp -implicitDefEqProofs
     have htup:=Tup_spec [kv,intV c.1] (by simp)
     simp [intV] at htup
     refine aCallT_of rfl htup rfl ?_
     simp -implicitDefEqProofs
     refine ⟨happ _ (by simp [T.cells]), ?_⟩
     rw [deno_front_keyed_c19_eq]
     unfold deno_front_keyed_P19
     simp -implicitDefEqProofs
     rw [IntWalk.i64_in _ (by omega)]
     refine fin (S.out ++ [tupV [kv,intV c.1]]) _ _ (by simp) ?_ (by simp; omega) (by simp) (by simp)
     rw [hS1]
     simp [h6,hd]
    ·rw [deno_front_keyed_c19_eq]
     unfold deno_front_keyed_P19
     simp -implicitDefEqProofs
     rw [IntWalk.i64_in _ (by omega)]
     refine fin S.out _ _ rfl ?_ (by omega) (by simp) (by simp)
     rw [hS1]
     simp [h6,hd]
    ·refine ⟨happ _ (by simp [T.cells]), ?_⟩
     rw [deno_front_keyed_c19_eq]
     unfold deno_front_keyed_P19
     simp -implicitDefEqProofs
     rw [IntWalk.i64_in _ (by omega)]
     refine fin (S.out ++ [kv]) _ _ (by simp) ?_ (by simp; omega) (by simp) (by simp)
     rw [hS1]
     simp [h7,hc1]
    ·rw [deno_front_keyed_c19_eq]
     unfold deno_front_keyed_P19
     simp -implicitDefEqProofs
     rw [IntWalk.i64_in _ (by omega)]
     refine fin S.out _ _ rfl ?_ (by omega) (by simp) (by simp)
     rw [hS1]
     simp [h6]
     exact hno
  refine aCallW_of rfl rfl hkey ?_
  simp [twoR]
  rw [deno_front_keyed_c8_eq]
  unfold deno_front_keyed_P8
  simp -implicitDefEqProofs
  refine ⟨fun hn0 hk5=>?_,fun hno=>?_⟩
  ·cases r with
   | er f=>exact absurd hn0 (evE_er _ _ _ hr)
   | ok k =>
   obtain ⟨e0,hes,hw0⟩:=hok.red hk5
   have hvr:∃ r2,evE e0 x = some r2:=by
    unfold stepK at hst
    rw [hr] at hst
    simp only [hk5,if_true,hes,List.getD_cons_zero] at hst
    cases hk:evE e0 x with
    | none=>rw [hk] at hst; simp at hst
    | some r=>exact ⟨r,rfl⟩
   obtain ⟨r2,hr2⟩:=hvr
   have hev:=Eval_spec e0 x hw0 hx r2 hr2
   simp only [twoR,encE_eta,encV_eta] at hev
   obtain ⟨z,hzv⟩:∃ z,z = r2.get zeroV:=⟨_,rfl⟩
   rw [← hzv] at hev
   simp only [hes]
   simp -implicitDefEqProofs
   refine aCallT_of rfl hev rfl ?_
   simp -implicitDefEqProofs
   rw [deno_front_keyed_c11_eq]
   have:=c11 r2.num k z.i (.p (.int .i64 z.k)) (.p (.bool z.b)) (.p (.str z.s)) (.p (.slice (z.t.map encV))) ?_ ?_
   ·simp only [keyKp] at this
    simpa [R.get] using this
   ·intro hne
    cases r2 with
    | ok k=>exact absurd rfl hne
    | er f =>
     unfold stepK at hst
     rw [hr] at hst
     simp only [hk5,if_true,hes,List.getD_cons_zero,hr2] at hst
     exact (Option.some.inj hst).symm
   ·intro h0
    cases r2 with
    | er f=>exact absurd h0 (evE_er _ _ _ hr2)
    | ok v =>
     obtain rfl:z = v:=hzv
     unfold stepK at hst
     rw [hr] at hst
     simp only [hk5,if_true,hes,List.getD_cons_zero,hr2] at hst
     by_cases hk:k = intV k.i
     ·rw [if_pos hk] at hst
      refine ⟨hk,hint k hr, ?_⟩
      rw [← Option.some.inj hst]
      simp [hk5]
     ·rw [if_neg hk] at hst; simp at hst
  ·rw [deno_front_keyed_c11_eq]
   have:=c11 r.num (r.get zeroV) 0 (.p (.int .i64 0)) (.p (.bool false)) (.p (.str [])) (.full []) ?_ ?_
   ·simp only [keyKp] at this
    simpa using this
   ·intro hne
    cases r with
    | ok k=>exact absurd rfl hne
    | er f =>
     unfold stepK at hst
     rw [hr] at hst
     simpa using hst.symm
   ·intro h0
    cases r with
    | er f=>exact absurd h0 (evE_er _ _ _ hr)
    | ok k =>
     have hk5:¬ o.k = 5:=hno rfl
     unfold stepK at hst
     rw [hr] at hst
     simp only [hk5,if_false] at hst
     by_cases hk:k = intV k.i
     ·rw [if_pos hk] at hst
      exact ⟨hk,hint k hr,(Option.some.inj hst).symm⟩
     ·rw [if_neg hk] at hst; simp at hst
 ·have hSS:S = SF:=by
   rw [List.take_of_length_le (by omega),hS] at h2
   exact (Option.some.inj h2).symm
  subst hSS
  rw [deno_front_keyed_c20_eq]
  unfold deno_front_keyed_P20
  simp -implicitDefEqProofs
  have hfin:∀ (l:List AV) (es:List T) (ex:List Ob),l.getD 6 .top = .own 8 es→es = out.map encV→aRes Tryz.prog [.tmp 6] l ([Ob.box [.p (.slice (g.map encN)),.own 1 outs,.own 2 (bads.map encW ++ S.bad.map (encW ∘ fun x=>((i:Int),x))),.p (.bool last)],.row no 1,.row (bads.length + S.bad.length) 6] ++ ex) (fun vs=>Gives 3 (tupOf vs) ([Ob.box [.p (.slice (g.map encN)),.own 1 outs,.own 2 (bads.map encW ++ S.bad.map (encW ∘ fun x=>((i:Int),x))),.p (.bool last)],.row no 1,.row (bads.length + S.bad.length) 6] ++ ex) (.p (.slice (out.map encV))) (frH g outs no (bads ++ bad.map fun x=>((i:Int),x)) last)):=by
   intro l es ex hl he
   subst he hbad
   refine key_end hl (givesQ (gives_ids [0,1,2] ?_ rfl (by simp) (by simp [framed,renF]) (by simp [AV.under,AV.under1]) (by simp [Ob.below,AV.under1])))
   simp [treeQ]
  refine ⟨fun hk5 hla=>?_,fun hno=>?_⟩
  ·intro hml2
   obtain ⟨f,hf⟩:∃ f:Int × (Int × Int)→Va,f = fun x=>tupV [intV x.1,intV x.2.2]:=⟨_,rfl⟩
   rw [← hf] at hout
   refine loop_by (σ:=Nat) (n:=9) (fun j=>[.own 8 ((S.out ++ (S.st.take j).map f).map encV),.p (.int .i64 j)]) (fun j=>keyH g outs no (bads ++ S.bad.map fun x=>((i:Int),x)) last o S.st ver (S.out ++ (S.st.take j).map f)) (fun j=>j ≤ S.st.length) (fun j=>S.st.length - j) [] 0 (fun _=>rfl) ?_ (by simp) (fun j B2 hj hB2=>?_)
   ·simp [ghosts]
   have hkl:(keysT S.st).length = S.st.length:=keysT_len _
   have hol:(ofT S.st).length = S.st.length:=ofT_len _
   have hB3:j < S.st.length→∀ (es:List T) (H2:List Ob),es = (S.out ++ (S.st.take (j + 1)).map f).map encV→H2.take 9 = keyH g outs no (bads ++ S.bad.map fun x=>((i:Int),x)) last o S.st ver (S.out ++ (S.st.take (j + 1)).map f)→9 ≤ H2.length→B2 [.own 8 es,.p (.int .i64 ((j:Int) + 1))] H2:=by
    intro hlt es H2 he2 ht h9
    subst he2
    refine hB2 (j + 1) _ (by omega) (by omega) ht ?_ h9 (by simp [AV.under,AV.under1])
    rw [ht]
    simp [Ob.below,AV.under1]
   have happ:∀ t:T,t.cells.length = 5→appendable 5 64 ((S.out ++ (S.st.take j).map f).map encV) [t]:=fun t ht=>⟨fun q hq=>by obtain ⟨y,_,rfl⟩:=List.mem_map.1 hq; simp,by simpa using ht,by simp; omega⟩
   simp -implicitDefEqProofs [deno_front_keyed_L2,hkl]
   refine ⟨fun hlt=>?_,fun hge2=>?_⟩
   ·have hk0:(keysT S.st)[j]? = some (encV (intV S.st[j].1)):=by simp [keysT,hlt]
    have ho0:(ofT S.st)[j]? = some (encC S.st[j].2):=by simp [ofT,hlt]
    simp -implicitDefEqProofs only [hk0,ho0,hol,Option.getD_some]
    simp -implicitDefEqProofs [encC,hlt,intV]
    refine aCallT_of rfl (Int_spec _) rfl ?_
    simp -implicitDefEqProofs [hk0,intV]
    have htup:=Tup_spec [intV S.st[j].1,intV S.st[j].2.2] (by simp)
    simp [intV] at htup
    refine aCallT_of rfl htup rfl ?_
    simp -implicitDefEqProofs [hk0]
    rw [IntWalk.i64_in _ (by omega)]
    refine ⟨?_,hB3 hlt _ _ ?_ ?_ (by simp)⟩
    ·have:=happ (encV (tupV [intV S.st[j].1,intV S.st[j].2.2])) (by simp)
     simpa [intV] using this
    ·rw [List.take_succ_eq_append_getElem hlt]
     have hfj:encV (f S.st[j]) = encV (tupV [intV S.st[j].1,intV S.st[j].2.2]):=by rw [hf]
     simp only [List.map_append,List.map_cons,List.map_nil,hfj,List.map_take,List.map_map]
     simp [intV]
    ·simp [Nat.min_eq_left (Nat.le_of_lt hlt),Nat.min_eq_left (Nat.succ_le_of_lt hlt),Nat.add_assoc]
   ·refine hfin _ _ _ rfl ?_
    rw [← hout]
    simp [hk5,hla,List.map_take]
    exact List.take_of_length_le (by simpa using hge2)
  ·refine hfin _ _ _ rfl ?_
   rw [← hout]
   by_cases h5:o.k = 5
   ·simp [hno h5]
   ·simp [h5]
end Go.Proofs.YtdmgbhamigegfaaGreatDoor
end

section
/- What a fold by key comes to. No program in sight. -/
set_option linter.unusedSimpArgs false
set_option linter.unusedVariables false
namespace Go.Proofs.YtdmgbhamigegfaaGreatDoor
open Go Go.Abs
theorem cmpI_self (a:Int):cmpI a a = 0:=cmpI_zero.2 rfl
theorem cmpS_nil:cmpS [] [] = 0:=rfl
theorem cmpV_int (a b:Int):cmpV (intV a) (intV b) = cmpI a b:=by
 rw [intV,intV,cmpV_lex]
 simp only [lexI,cmpI_self,cmpS_nil,cmpVs]
 simp
 exact fun h=>h.symm
theorem cmpV_pair (a b c d:Int) (h:a < c):cmpV (tupV [intV a,intV b]) (tupV [intV c,intV d]) ≤ 0:=by
 rw [tupV,tupV,cmpV_lex,cmpVs_cons,cmpV_int]
 have:cmpI a c = -1:=by unfold cmpI; grind
 simp only [lexI,cmpI_self,cmpS_nil,this]
 simp
theorem getK_put (k j:Int) (c:Int × Int):∀ st,getK j (putK k c st) = if j = k then c else getK j st
 | []=>by
  simp only [putK,getK]
  by_cases h:k = j
  ·simp [h]
  ·rw [if_neg h,if_neg (fun e=>h e.symm)]
 | x :: r=>by
  simp only [putK]
  by_cases e:x.1 = k
  ·rw [if_pos e]
   simp only [getK]
   by_cases h:k = j
   ·simp [h]
   ·rw [if_neg h,if_neg (fun e=>h e.symm),if_neg (by rw [e]; exact h)]
  ·rw [if_neg e]
   simp only [getK]
   by_cases h:x.1 = j
   ·rw [if_pos h,if_pos h,if_neg (by rw [← h]; exact e)]
   ·rw [if_neg h,if_neg h,getK_put k j c r]
end Go.Proofs.YtdmgbhamigegfaaGreatDoor
end

section
/- What tallies come to, and keys that are told once. No program in sight. -/
set_option linter.unusedSimpArgs false
set_option linter.unusedVariables false
namespace Go.Proofs.YtdmgbhamigegfaaGreatDoor
open Go Go.Abs
theorem cmpV_pair2 (a b d:Int) (h:b < d):cmpV (tupV [intV a,intV b]) (tupV [intV a,intV d]) ≤ 0:=by
 rw [tupV,tupV,cmpV_lex,cmpVs_cons,cmpV_int,cmpVs_cons,cmpV_int]
 have:cmpI b d = -1:=by unfold cmpI; grind
 simp only [lexI,cmpI_self,cmpS_nil,this]
 simp
theorem intV_inj {a b:Int}:intV a = intV b ↔ a = b:=by simp [intV]
theorem pair_inj {a b c d:Int}:tupV [intV a,intV b] = tupV [intV c,intV d] ↔ a = c ∧ b = d:=by simp [tupV,intV]
def opTal (k n:Int):Opr:=⟨k,[],.mk 0 [],[],eX,0,n⟩
def InT (k n:Int) (l:List Int) (y:Va):Prop:=(k = 6 ∧ ∃ x m:Int,y = tupV [intV x,intV m] ∧ 0 < m ∧ m ≤ l.count x ∧ m.tmod n = 0) ∨ (k = 7 ∧ ∃ x ∈ l,y = intV x)
structure TalSt (k n:Int) (l:List Int) (s:KeyD):Prop where
 bad:s.bad = []
 get:∀ r,(getK r s.st).1 = (l.count r:Nat)
 nodup:s.out.Nodup
 len:s.out.length ≤ l.length
 mem:∀ y,y ∈ s.out ↔ InT k n l y
theorem tal_step {k n:Int} (hk:k = 6 ∨ k = 7) {l:List Int} (hl:l.length < 1000) {s:KeyD} (h:TalSt k n l s) (x:Int):∃ s',stepK (opTal k n) s (intV x) = some s' ∧ TalSt k n (l ++ [x]) s':=by
 have hkey:evE (opTal k n).key (intV x) = some (.ok (intV x)):=rfl
 have h5:(opTal k n).k ≠ 5:=by simp only [opTal]; omega
 have hc1:(foldD 0 (getK x s.st) 0).1 = (l.count x:Int) + 1:=by
  have:=h.get x
  have h2:l.count x ≤ l.length:=List.count_le_length
  have e:(foldD 0 (getK x s.st) 0).1 = IntKind.i64.wrap ((getK x s.st).1 + 1):=by
   simp only [foldD]
   split <;> (try split) <;> (try split) <;> rfl
  rw [e,this,IntWalk.i64_in _ (by omega)]
 obtain ⟨c,hc⟩:∃ c,c = foldD 0 (getK x s.st) 0:=⟨_,rfl⟩
 rw [← hc] at hc1
 obtain ⟨add,hadd⟩:∃ add:List Va,add = if k = 6 ∧ c.1.tmod n = 0 then [tupV [intV x,intV c.1]] else if k = 7 ∧ c.1 = 1 then [intV x] else []:=⟨_,rfl⟩
 have hcnt:∀ r,(l ++ [x]).count r = l.count r + if r = x then 1 else 0:=fun r=>by
  rw [List.count_append,List.count_singleton]
  by_cases e:r = x
  ·simp [e]
  ·simp [e]
   exact fun h=>e h.symm
 have hal:add.length ≤ 1:=by rw [hadd]; split <;> (try split) <;> simp
 refine ⟨⟨putK x c s.st,s.out ++ add,s.bad⟩, ?_,⟨h.bad,fun r=>?_, ?_, ?_,fun y=>?_⟩⟩
 ·unfold stepK
  rw [hkey]
  have hi:(intV x).i = x:=rfl
  simp only [if_neg h5,hi,if_true]
  rw [hadd,hc]
  rfl
 ·simp only [getK_put,hcnt]
  by_cases e:r = x
  ·subst e; simp [hc1]
  ·simp [e,h.get]
 ·refine List.nodup_append.2 ⟨h.nodup, ?_,fun a ha b hb=>?_⟩
  ·rw [hadd]; split <;> (try split) <;> simp
  ·rintro rfl
   have ha:=(h.mem a).1 ha
   rw [hadd] at hb
   split at hb
   ·rename_i hq
    simp only [List.mem_singleton] at hb
    rcases ha with ⟨_,x2,m,e,h1,h2,h3⟩ | ⟨e,_⟩
    ·rw [hb,pair_inj] at e
     obtain ⟨rfl,rfl⟩:=e
     omega
    ·omega
   ·split at hb
    ·rename_i hq
     simp only [List.mem_singleton] at hb
     rcases ha with ⟨e,_⟩ | ⟨_,x2,hx,e⟩
     ·omega
     ·rw [hb,intV_inj] at e
      subst e
      have:=List.count_pos_iff.2 hx
      omega
    ·simp at hb
 ·simp only [List.length_append,List.length_singleton]
  have:=h.len
  omega
 ·rw [List.mem_append,h.mem]
  unfold InT
  rcases hk with rfl | rfl
  ·simp only [true_and,show ¬ ((6:Int) = 7) by decide,false_and,or_false] at hadd ⊢
   rw [hadd]
   constructor
   ·rintro (⟨x2,m,e,h1,h2,h3⟩ | hy)
    ·refine ⟨x2,m,e,h1, ?_,h3⟩
     rw [hcnt]; omega
    ·split at hy
     ·rename_i hq
      simp only [List.mem_singleton] at hy
      refine ⟨x,c.1,hy,by omega, ?_,hq⟩
      rw [hcnt,if_pos rfl]; omega
     ·simp at hy
   ·rintro ⟨x2,m,e,h1,h2,h3⟩
    rw [hcnt] at h2
    by_cases hm:m ≤ l.count x2
    ·exact .inl ⟨x2,m,e,h1,hm,h3⟩
    ·by_cases ex:x2 = x
     ·subst ex
      rw [if_pos rfl] at h2
      have:m = c.1:=by omega
      subst this
      right
      rw [if_pos h3,e]
      simp
     ·rw [if_neg ex] at h2; omega
  ·simp only [true_and,show ¬ ((7:Int) = 6) by decide,false_and,false_or,if_false] at hadd ⊢
   rw [hadd]
   constructor
   ·rintro (⟨x2,hx,e⟩ | hy)
    ·exact ⟨x2,by simp [hx],e⟩
    ·split at hy
     ·simp only [List.mem_singleton] at hy
      exact ⟨x,by simp,hy⟩
     ·simp at hy
   ·rintro ⟨x2,hx,e⟩
    by_cases hx2:x2 ∈ l
    ·exact .inl ⟨x2,hx2,e⟩
    ·have ex:x2 = x:=by
      rcases List.mem_append.1 hx with h | h
      ·exact absurd h hx2
      ·simpa using h
     subst ex
     right
     rw [if_pos (by rw [hc1,List.count_eq_zero_of_not_mem hx2]; rfl),e]
     simp
theorem tal_steps {k n:Int} (hk:k = 6 ∨ k = 7):∀ (r l:List Int) (s:KeyD),l.length + r.length ≤ 1000→TalSt k n l s→∃ s',stepsK (opTal k n) s (r.map intV) = some s' ∧ TalSt k n (l ++ r) s'
 | [],l,s,_,h=>⟨s,rfl,by simpa using h⟩
 | x :: r,l,s,hl,h=>by
  simp only [List.length_cons] at hl
  obtain ⟨s1,h1,h2⟩:=tal_step hk (by omega) h x
  obtain ⟨s2,h3,h4⟩:=tal_steps hk r (l ++ [x]) s1 (by simp; omega) h2
  refine ⟨s2, ?_,by simpa using h4⟩
  simp only [List.map_cons,stepsK,h1,h3]
theorem tal_all {k n:Int} (hk:k = 6 ∨ k = 7) (l:List Int) (hl:l.length ≤ 1000):∃ s,stepsK (opTal k n) ⟨[],[],[]⟩ (l.map intV) = some s ∧ TalSt k n l s:=by
 have:=tal_steps (n:=n) hk l [] ⟨[],[],[]⟩ (by simpa using hl) ⟨rfl,fun r=>rfl,by simp,by simp,fun y=>?_⟩
 ·simpa using this
 ·simp only [InT,List.not_mem_nil,false_iff]
  rintro (⟨_,x,m,_,h1,h2,_⟩ | ⟨_,x,h,_⟩)
  ·simp at h2; omega
  ·simp at h
def xsT:List Int:=(List.range 256).map fun i:Nat=>-128 + (i:Int)
theorem mem_xsT {x:Int}:x ∈ xsT ↔ -128 ≤ x ∧ x ≤ 127:=by
 unfold xsT
 simp only [List.mem_map,List.mem_range]
 constructor
 ·rintro ⟨i,hi,rfl⟩; omega
 ·intro h; exact ⟨(x + 128).toNat,by omega,by omega⟩
theorem xsT_sorted:xsT.Pairwise (· < ·):=by
 unfold xsT
 rw [List.pairwise_map]
 exact List.Pairwise.imp (fun h=>by omega) List.pairwise_lt_range
def pairT (n:Nat) (x:Int) (r:Nat):Va:=tupV [intV x,intV (((r:Int) + 1) * n)]
def rowT (n:Nat) (l:List Int) (x:Int):List Va:=(List.range (l.count x / n)).map (pairT n x)
def tallyC (n:Nat) (l:List Int):List Va:=xsT.flatMap (rowT n l)
def hasT (l:List Int) (x:Int):Bool:=decide (0 < l.count x)
def kindsC (l:List Int):List Va:=(xsT.filter (hasT l)).map intV
def LtT (y z:Va):Prop:=∃ a b c d:Int,y = tupV [intV a,intV b] ∧ z = tupV [intV c,intV d] ∧ (a < c ∨ (a = c ∧ b < d))
theorem tallyC_lt {n:Nat} (hn:0 < n) (l:List Int):(tallyC n l).Pairwise LtT:=by
 unfold tallyC
 rw [List.pairwise_flatMap]
 refine ⟨fun x _=>?_,xsT_sorted.imp fun {a b} h y hy z hz=>?_⟩
 ·unfold rowT
  rw [List.pairwise_map]
  refine List.Pairwise.imp (fun {a b} h=>⟨_,_,_,_,rfl,rfl,.inr ⟨rfl, ?_⟩⟩) List.pairwise_lt_range
  exact Int.mul_lt_mul_of_pos_right (by omega) (by omega)
 ·obtain ⟨r,_,rfl⟩:=List.mem_map.1 hy
  obtain ⟨q,_,rfl⟩:=List.mem_map.1 hz
  exact ⟨_,_,_,_,rfl,rfl,.inl h⟩
theorem mem_tallyC {n:Nat} (hn:0 < n) {l:List Int} (h8:∀ x ∈ l,-128 ≤ x ∧ x ≤ 127) (y:Va):y ∈ tallyC n l ↔ InT 6 n l y:=by
 unfold tallyC InT rowT pairT
 simp only [List.mem_flatMap,List.mem_map,List.mem_range,true_and,show ¬ ((6:Int) = 7) by decide,false_and,or_false,mem_xsT]
 constructor
 ·rintro ⟨x,hx,r,hr,rfl⟩
  refine ⟨x,_,rfl,Int.mul_pos (by omega) (by omega), ?_,Int.mul_tmod_left _ _⟩
  have:=(Nat.le_div_iff_mul_le hn).1 (show r + 1 ≤ l.count x / n by omega)
  rw [show ((r:Int) + 1) * n = (((r + 1) * n:Nat):Int) by simp]
  omega
 ·rintro ⟨x,m,rfl,h1,h2,h3⟩
  have hx:x ∈ l:=List.count_pos_iff.1 (by omega)
  obtain ⟨q,rfl⟩:∃ q:Nat,m = ((q * n:Nat):Int):=by
   obtain ⟨m',rfl⟩:∃ m':Nat,m = m':=⟨m.toNat,by omega⟩
   have:(m' % n:Nat) = 0:=by
    have e:((m':Int)).tmod n = ((m' % n:Nat):Int):=rfl
    rw [e] at h3
    omega
   exact ⟨m' / n,by rw [Nat.div_mul_cancel (Nat.dvd_of_mod_eq_zero this)]⟩
  have hq:0 < q:=by
   rcases Nat.eq_zero_or_pos q with rfl | h
   ·simp at h1
   ·exact h
  refine ⟨x,h8 x hx,q - 1, ?_, ?_⟩
  ·have:=(Nat.le_div_iff_mul_le hn).2 (show q * n ≤ l.count x by omega)
   omega
  ·rw [show ((q - 1:Nat):Int) + 1 = q by omega]
   simp
theorem tally_perm {n:Nat} (hn:0 < n) {l:List Int} (h8:∀ x ∈ l,-128 ≤ x ∧ x ≤ 127) {s:KeyD} (h:TalSt 6 n l s):(tallyC n l).Perm s.out:=by
 refine (List.perm_ext_iff_of_nodup ((tallyC_lt hn l).imp ?_) h.nodup).2 fun y=>by rw [mem_tallyC hn h8,h.mem]
 rintro y z ⟨a,b,c,d,rfl,rfl,h⟩ e
 rw [pair_inj] at e
 omega
theorem tally_sorted {n:Nat} (hn:0 < n) {l:List Int} (h8:∀ x ∈ l,-128 ≤ x ∧ x ≤ 127) {s:KeyD} (h:TalSt 6 n l s):sortO cmpV s.out = tallyC n l:=by
 symm
 refine sortO_of ordV ((tallyC_lt hn l).imp ?_) (tally_perm hn h8 h)
 rintro y z ⟨a,b,c,d,rfl,rfl,h | ⟨rfl,h⟩⟩
 ·exact cmpV_pair _ _ _ _ h
 ·exact cmpV_pair2 _ _ _ h
theorem kinds_perm {n:Int} {l:List Int} (h8:∀ x ∈ l,-128 ≤ x ∧ x ≤ 127) {s:KeyD} (h:TalSt 7 n l s):(kindsC l).Perm s.out:=by
 refine (List.perm_ext_iff_of_nodup ?_ h.nodup).2 fun y=>?_
 ·unfold kindsC
  unfold List.Nodup
  rw [List.pairwise_map]
  exact (xsT_sorted.filter _).imp fun h e=>by rw [intV_inj] at e; omega
 ·rw [h.mem]
  unfold kindsC InT
  simp only [List.mem_map,List.mem_filter,true_and,show ¬ ((7:Int) = 6) by decide,false_and,false_or,mem_xsT,hasT,decide_eq_true_eq,List.count_pos_iff]
  constructor
  ·rintro ⟨x,⟨_,hx⟩,rfl⟩; exact ⟨x,hx,rfl⟩
  ·rintro ⟨x,hx,rfl⟩; exact ⟨x,⟨h8 x hx,hx⟩,rfl⟩
theorem kinds_sorted {n:Int} {l:List Int} (h8:∀ x ∈ l,-128 ≤ x ∧ x ≤ 127) {s:KeyD} (h:TalSt 7 n l s):sortO cmpV s.out = kindsC l:=by
 symm
 refine sortO_of ordV ?_ (kinds_perm h8 h)
 unfold SortedO kindsC
 rw [List.pairwise_map]
 refine (xsT_sorted.filter _).imp fun {a b} h=>?_
 rw [cmpV_int]
 unfold cmpI; grind
theorem count_snoc (l:List Int) (x y:Int):(l ++ [y]).count x = l.count x + if y = x then 1 else 0:=by
 rw [List.count_append,List.count_singleton]
 by_cases e:y = x
 ·simp [e]
 ·simp [e]
end Go.Proofs.YtdmgbhamigegfaaGreatDoor
end
