/- deno's counters over trees. -/
import Derived.Test.YtdmgbhamigegfaaGreatDoorZSpShelf
import Derived.Test.YtdmgbhamigegfaaGreatDoorZSpRepQ
import Derived.Test.YtdmgbhamigegfaaGreatDoorZPuDeno
import Derived.Test.YtdmgbhamigegfaaGreatDoorZSpValBQ
import Derived.Test.YtdmgbhamigegfaaGreatDoorZSpGraph
import Derived.Test.YtdmgbhamigegfaaGreatDoorZPuIds
import Derived.Test.YtdmgbhamigegfaaGreatDoorS1
set_option linter.unusedSimpArgs false
set_option linter.unusedVariables false
namespace Go.Proofs.YtdmgbhamigegfaaGreatDoor
open Go Go.Abs
attribute [local irreducible] Abs.Fn
theorem Split_spec (g:List Nd) (i:Nat) (hi:i < g.length) (r:Int) (hm:g[i].mx ≠ 0):Abs.Fn Tryz.prog deno_Split_i [] [.p (.slice (g.map encN)),.p (.int .i64 i),.p (.int .i64 r)] (.p (.int .i64 (r.tmod g[i].mx))) []:=by
 apply deno_Split_fn
 simp [deno_Split,hi,hm]
 exact gives_p rfl
def encC (c:Int × Int):T:=.agg [.int .i64 c.1,.int .i64 c.2]
@[simp] theorem encC_cells (c:Int × Int):(encC c).cells.length = 2:=id rfl
theorem Fold_spec (f:Int) (c:Int × Int) (x:Int):Abs.Fn Tryz.prog deno_Fold_i [] [.p (.int .i64 f),.p (encC c),.p (.int .i64 x)] (.p (encC (foldD f c x))) []:=by
 obtain ⟨n,v⟩:=c
 generalize hr:foldD f (n,v) x = r
 unfold foldD at hr
 simp only at hr
 apply deno_Fold_fn
 simp [deno_Fold,encC]
 refine ⟨fun h1=>?_,fun h1=>⟨fun h2=>?_,fun h2=>?_⟩⟩
 ·rw [if_pos h1] at hr
  subst hr
  exact gives_pure (by simp [AV.pur,AV.toT,allT,AV.cellT])
 ·rw [if_neg h1,if_pos h2] at hr
  subst hr
  exact gives_pure (by simp [AV.pur,AV.toT,allT,AV.cellT])
 ·rw [if_neg h1,if_neg h2] at hr
  refine ⟨fun h=>?_,fun ha hb hc=>?_⟩
  ·rw [if_pos h] at hr
   subst hr
   exact gives_pure (by simp [AV.pur,AV.toT,allT,AV.cellT])
  ·have hno:¬ (IntKind.i64.wrap (n + 1) = 1 ∨ f = 3 ∧ x < v ∨ f = 4 ∧ v < x):=by
    rintro (h | ⟨h,g⟩ | ⟨h,g⟩)
    ·exact ha h
    ·have:=hb h; omega
    ·have:=hc h; omega
   rw [if_neg hno] at hr
   subst hr
   exact gives_pure (by simp [AV.pur,AV.toT,allT,AV.cellT])
theorem fresh_spec:Abs.Fn Tryz.prog deno_fresh_deno_Cell_i [] [] (.bptr 1 0) [.mapo [],.box [.full [],.full [],.mapr 0]]:=by
 apply deno_fresh_deno_Cell_fn
 simp [deno_fresh_deno_Cell]
 unfold aMakeMap
 simp
 exact gives_ids [0,1] (by simp [renF]) rfl (by simp) (by simp [framed,renF]) (by simp [AV.under,AV.under1]) (by simp [Ob.below,AV.under1])
theorem textI_spec (k:Int) (h:I64 k):Abs.Fn Tryz.prog val_Text_i [] [.p (encV (intV k))] (.p (.str (Lib.itoa k))) []:=by
 apply val_Text_fn
 simp [val_Text,intV]
 refine aCallW_of rfl rfl (fmt10_spec k h) ?_
 simp
 exact gives_p rfl
theorem itoa_inj {a b:Int} (h:Lib.itoa a = Lib.itoa b):a = b:=by
 unfold Lib.itoa at h
 split at h <;> split at h
 ·have:=dec_inj _ _ (List.cons.inj h).2
  omega
 ·exfalso
  have:=dec_dig b.toNat 45 (by rw [← h]; simp)
  simp at this
 ·exfalso
  have:=dec_dig a.toNat 45 (by rw [h]; simp)
  simp at this
 ·have:=dec_inj _ _ h
  omega
theorem entry_M {m:List (List UInt8 × Int)} {s:List UInt8} {id:Nat} {H:List Ob} {K:AV→List Ob→Prop} (ho:H[id]? = some (.mapo (encM m))) (hn:hasM m s = false)
  (hk:K (.tup [.p (.int .i64 0),.p (.int .i64 m.length)]) (H.set id (.mapo (encM m ++ [(.str s,.int .i64 0)])))):aMapEntry .string (.p (.int .i64 0)) (.mapr id) (.p (.str s)) H K:=by
 simp only [aMapEntry,aKey,ho,isKeyT]
 rcases find_M s m 0 with ⟨h1,_,_,_⟩ | ⟨j,h1,h3,_⟩
 ·rw [h1]
  simpa using hk
 ·rw [hn] at h3; simp at h3
theorem entryStore_M {m:List (T × T)} {t:T} {v n:Int} {id:Nat} {H:List Ob} {K:AV→List Ob→Prop} (ho:H[id]? = some (.mapo (m ++ [(t,.int .i64 0)]))) (hn:n = m.length)
  (hk:K .top (H.set id (.mapo (m ++ [(t,.int .i64 v)])))):aEntryStore (.mapr id) (.p (.int .i64 n)) (.p (.int .i64 v)) H K:=by
 subst hn
 have hc:(AV.p (.int .i64 v)).cellT = some (.int .i64 v):=rfl
 simp only [aEntryStore,hc,ho]
 refine ⟨by simp; omega, ?_⟩
 simpa [List.getD_eq_getElem?_getD] using hk
def mapK (i:Int):List (Int × (Int × Int))→List (List UInt8 × Int)
 | []=>[]
 | x :: r=>(Lib.itoa x.1,i) :: mapK (i + 1) r
def posK (k:Int):List (Int × (Int × Int))→Nat
 | []=>0
 | x :: r=>if x.1 = k then 0 else posK k r + 1
theorem mapK_app (k:Int) (c:Int × Int):∀ (st:List (Int × (Int × Int))) (i:Int),mapK i (st ++ [(k,c)]) = mapK i st ++ [(Lib.itoa k,i + st.length)]
 | [],i=>by simp [mapK]
 | x :: r,i=>by
  simp only [List.cons_append,mapK,mapK_app k c r (i + 1),List.length_cons]
  rw [show i + 1 + (r.length:Int) = i + ((r.length + 1:Nat):Int) by omega]
theorem mapK_len:∀ (st:List (Int × (Int × Int))) (i:Int),(mapK i st).length = st.length
 | [],_=>rfl
 | x :: r,i=>by simp [mapK,mapK_len r]
theorem hasK (k:Int):∀ (st:List (Int × (Int × Int))) (i:Int),hasM (mapK i st) (Lib.itoa k) = decide (posK k st < st.length)
 | [],i=>rfl
 | x :: r,i=>by
  simp only [mapK,hasM,posK]
  by_cases h:x.1 = k
  ·simp [h]
  ·have:¬ Lib.itoa k = Lib.itoa x.1:=fun e=>h (itoa_inj e).symm
   simp [h,this,hasK k r (i + 1)]
theorem getK_pos (k:Int):∀ (st:List (Int × (Int × Int))) (i:Int),posK k st < st.length→getM (mapK i st) (Lib.itoa k) = i + posK k st
 | [],i,h=>by simp at h
 | x :: r,i,h=>by
  simp only [mapK,getM,posK] at h ⊢
  by_cases e:x.1 = k
  ·simp [e]
  ·have:¬ Lib.itoa k = Lib.itoa x.1:=fun e'=>e (itoa_inj e').symm
   simp only [e,if_false,List.length_cons] at h
   simp only [this,e,if_false]
   rw [getK_pos k r (i + 1) (by omega)]
   omega
theorem putM_new {m:List (List UInt8 × Int)} {s:List UInt8} {v:Int} (h:hasM m s = false):putM m s v = m ++ [(s,v)]:=by
 induction m with
 | nil=>rfl
 | cons p r ih =>
  unfold hasM at h
  unfold putM
  split at h
  ·simp at h
  ·rename_i hne
   rw [if_neg hne,ih h]; rfl
theorem putK_pos (k:Int) (c:Int × Int):∀ st,(∀ h:posK k st < st.length,putK k c st = st.set (posK k st) (k,c)) ∧ (¬ posK k st < st.length→putK k c st = st ++ [(k,c)])
 | []=>⟨fun h=>by simp at h,fun _=>rfl⟩
 | x :: r=>by
  obtain ⟨h1,h2⟩:=putK_pos k c r
  simp only [posK,putK]
  by_cases e:x.1 = k
  ·simp [e]
  ·simp only [e,if_false,List.length_cons]
   refine ⟨fun h=>?_,fun h=>?_⟩
   ·rw [h1 (by omega)]; simp
   ·rw [h2 (by omega)]; simp
theorem getK_at (k:Int):∀ st,(∀ h:posK k st < st.length,st[posK k st] = (k,getK k st)) ∧ (¬ posK k st < st.length→getK k st = (0,0))
 | []=>⟨fun h=>by simp at h,fun _=>rfl⟩
 | x :: r=>by
  obtain ⟨h1,h2⟩:=getK_at k r
  simp only [posK,getK]
  by_cases e:x.1 = k
  ·simp [e]; rw [← e]
  ·simp only [e,if_false,List.length_cons]
   refine ⟨fun h=>?_,fun h=>h2 (by omega)⟩
   simpa using h1 (by omega)
def keysT (st:List (Int × (Int × Int))):List T:=st.map fun x=>encV (intV x.1)
def ofT (st:List (Int × (Int × Int))):List T:=st.map fun x=>encC x.2
abbrev cntH (st:List (Int × (Int × Int))) (ver:Nat):List Ob:=[.mapo (encM (mapK 0 st)),.box [.own 2 (keysT st),.msl 3 ver 2 0 st.length,.mapr 0],.row st.length 5,.mrow ver 2 (ofT st)]
theorem keysT_len (st:List (Int × (Int × Int))):(keysT st).length = st.length:=by simp [keysT]
theorem ofT_len (st:List (Int × (Int × Int))):(ofT st).length = st.length:=by simp [ofT]
theorem place_old (st:List (Int × (Int × Int))) (k:Int) (hk:I64 k) (ver:Nat) (h:posK k st < st.length):Abs.Fn Tryz.prog deno_counter_deno_Cell_place_i (cntH st ver) [.bptr 1 0,.p (encV (intV k))] (.mptr 3 ver 2 (posK k st) 0) (cntH st ver):=by
 have hh:=hasK k st 0
 have hg:=getK_pos k st 0 h
 simp only [h,decide_true,Int.zero_add] at hh hg
 apply deno_counter_deno_Cell_place_fnH
 simp [deno_counter_deno_Cell_place]
 refine aCallW_of rfl rfl (textI_spec k hk) ?_
 simp
 refine lookup2_M (m:=mapK 0 st) (by simp) ?_
 simp [hh,hg,h]
 exact gives_ids [0,1,2,3] (by simp [renF]) rfl (by simp) (by simp [framed,renF]) (by simp [AV.under,AV.under1]) (by simp [Ob.below,AV.under1])
theorem place_new (st:List (Int × (Int × Int))) (k:Int) (hk:I64 k) (ver:Nat) (h:¬ posK k st < st.length) (hl:st.length ≤ 1000000):Abs.Fn Tryz.prog deno_counter_deno_Cell_place_i (cntH st ver) [.bptr 1 0,.p (encV (intV k))] (.mptr 3 (ver + 1) 2 st.length 0) (cntH (st ++ [(k,(0,0))]) (ver + 1)):=by
 have hh:=hasK k st 0
 simp only [h,decide_false] at hh
 have hpm:∀ v,putM (mapK 0 st) (Lib.itoa k) v = mapK 0 st ++ [(Lib.itoa k,v)]:=fun v=>putM_new hh
 have hkl:=keysT_len st
 have hol:=ofT_len st
 apply deno_counter_deno_Cell_place_fnH
 simp [deno_counter_deno_Cell_place]
 refine aCallW_of rfl rfl (textI_spec k hk) ?_
 simp
 refine lookup2_M (m:=mapK 0 st) (by simp) ?_
 simp [hh]
 intro hml
 have hapk:∀ x,appendable 5 64 (keysT st) [T.agg [T.int .i64 1,T.int .i64 x,T.bool false,T.str [],T.slice []]]:=fun x=>⟨fun e he=>by obtain ⟨y,_,rfl⟩:=List.mem_map.1 he; simp,by simp [T.cells],by simp; omega⟩
 have hapo:appendable 2 16 (List.take st.length (ofT st)) [T.agg [T.int .i64 0,T.int .i64 0]]:=⟨fun e he=>by obtain ⟨y,_,rfl⟩:=List.mem_map.1 (List.mem_of_mem_take he); simp,by simp [T.cells],by simp; omega⟩
 refine ⟨hkl.symm,hapk k,by omega,hapo, ?_⟩
 refine entry_M (m:=mapK 0 st) (by simp) hh ?_
 simp [mapK_len]
 simp only [hkl]
 refine entryStore_M (m:=encM (mapK 0 st)) (t:=.str (Lib.itoa k)) (by simp) (by simp [mapK_len]) ?_
 rw [List.take_of_length_le (by omega)]
 simp
 refine ⟨by omega, ?_⟩
 have e1:keysT (st ++ [(k,(0,0))]) = keysT st ++ [T.agg [T.int .i64 1,T.int .i64 k,T.bool false,T.str [],T.slice []]]:=by simp [keysT,intV]
 have e2:ofT (st ++ [(k,(0,0))]) = ofT st ++ [T.agg [T.int .i64 0,T.int .i64 0]]:=by simp [ofT,encC]
 refine gives_ids [0,1,2,3] ?_ rfl (by simp) ?_ (by simp [AV.under,AV.under1]) (by simp [Ob.below,AV.under1])
 ·simp [renF]
 ·simp [framed,renF,e1,e2,mapK_app,encM]
end Go.Proofs.YtdmgbhamigegfaaGreatDoor
