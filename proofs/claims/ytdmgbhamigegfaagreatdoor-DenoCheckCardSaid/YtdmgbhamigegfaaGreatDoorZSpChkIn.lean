/- The document's look at a job's input; inputs that are few. -/
import Derived.Test.YtdmgbhamigegfaaGreatDoorZSpOfAllQ
import Derived.Test.YtdmgbhamigegfaaGreatDoorZSpOutsQ
import Derived.Test.YtdmgbhamigegfaaGreatDoorZSpCheckDQ
import Derived.Test.YtdmgbhamigegfaaGreatDoorZSpValBQ
set_option linter.unusedSimpArgs false
set_option linter.unusedVariables false
namespace Go.Proofs.YtdmgbhamigegfaaGreatDoor
open Go Go.Abs
attribute [local irreducible] Abs.Fn
theorem zuM (g:List Nd) (i:Int) (hl:g.length≤1000000):Abs.Fn Tryz.prog zdq [] [.p (.slice (g.map encN)),.p (.int .i64 i)] (.p (.slice (isT (zas i 0 g)))) []:=by
 apply zpO
 simp [zhA]
 refine zA (σ:=Nat×List Int) (n:=1) (fun q=>[.own 0 (isT q.2),.p (.int .i64 q.1)]) (fun q=>[.row q.2.length 1]) (fun q=>q.1≤g.length∧q.2.length≤q.1∧q.2++zas i q.1 (g.drop q.1)=zas i 0 g) (fun q=>g.length - q.1) [.slot 0 1] (0,[]) (fun _=>rfl) ⟨rfl,rfl⟩ (by simp) (fun q B hq hB=>?_)
 obtain ⟨k,out⟩:=q
 obtain ⟨h1,h2,h3⟩:=hq
 simp only at h1 h2 h3
 generalize zas i 0 g=A at *
 simp [ziQ]
 intro _
 refine ⟨fun hlt=>?_,fun hge=>?_⟩
 ·rw [List.drop_eq_getElem_cons hlt,zas] at h3
  simp [hlt]
  refine ⟨fun hz=>?_,fun hz=>?_⟩
  ·rw [if_pos hz] at h3
   refine ⟨⟨fun e he=>by obtain ⟨x,_,rfl⟩:=List.mem_map.1 he; rfl,by simp,by simp; omega⟩, ?_⟩
   rw [IntWalk.i64_in _ (by omega)]
   refine cast (congrArg (fun x=>B x _) ?_) (hB (k + 1,out++[(k:Int)]) _ ⟨by simp only; omega,by simp; omega,by simp only; rw [← h3]; simp⟩ (by simp only; omega) ?_ ?_ ?_ (by simp [AV.under,AV.under1]))
   ·simp
   ·simp
   ·simp [Ob.below,AV.under1]
   ·simp
  ·rw [if_neg hz] at h3
   rw [IntWalk.i64_in _ (by omega)]
   exact hB (k + 1,out) _ ⟨by simp only; omega,by simp only; omega,h3⟩ (by simp only; omega) (by simp) (by simp [Ob.below,AV.under1]) (by simp) (by simp [AV.under,AV.under1])
 ·rw [List.drop_of_length_le hge,zas,List.append_nil] at h3
  exact zi (by simp [AV.pur,h3])
theorem zzJ (l:List InD) (hl:l.length≤1000) (hw:∀ x∈l,x.rows.length≤1000000 ∧ ∀ v∈x.rows,Wv 1000000000 v):Abs.Fn Tryz.prog zel [] [.p (.slice (l.map encI))] (.p (.slice (l.map encI))) []:=by
 apply znf
 simp [zfQ]
 refine zA (σ:=Nat) (n:=1) (fun i=>[.own 0 ((l.take i).map encI),.p (.int .i64 i)]) (fun i=>[.row i 2]) (fun i=>i≤l.length) (fun i=>l.length - i) [.slot 0 2] 0 (fun _=>rfl) ?_ (by simp) (fun i B hi hB=>?_)
 ·simp [zbN,ghost]
 simp [zhd]
 intro hml
 refine ⟨fun hlt=>?_,fun hge=>?_⟩
 ·obtain ⟨a1,a2⟩:=hw _ (List.getElem_mem hlt)
  have h2:=zB9 l[i].rows a2 a1
  simp [hlt,encI]
  refine zH rfl h2 rfl ?_
  simp [hlt,encI]
  refine ⟨by omega,⟨fun e he=>?_,by simp [T.cells],by simp; omega⟩, ?_⟩
  ·obtain ⟨y,_,rfl⟩:=List.mem_map.1 (List.mem_of_mem_take he); simp
  rw [IntWalk.i64_in _ (by omega)]
  have hs:=zal (l:=l.map encI) (i:=i) (by simpa using hlt)
  simp only [List.getElem_map,encI] at hs
  rw [hs,← List.map_take]
  exact hB (i + 1) _ (by omega) (by omega) (by simp) (by simp [Ob.below,AV.under1]) (by simp) (by simp [AV.under,AV.under1])
 ·rw [List.take_of_length_le (by simpa using hge)]
  exact zi (by simp [AV.pur])
def okI (x:InD):Bool:=decide (x.name.length≤50) && (decide (x.rows.length≤60) && x.rows.all fewV)
def fewI (l:List InD):Bool:=decide (l.length≤6) && (l.all okI && decide (rowsD l≤60))
theorem fewI_ok {l:List InD} (h:fewI l=true):l.length≤6 ∧ ∀ x∈l,x.rows.length≤60 ∧ ∀ v∈x.rows,Wv 300 v:=by
 simp only [fewI,Bool.and_eq_true,decide_eq_true_eq,List.all_eq_true,okI] at h
 refine ⟨h.1,fun x hx=>⟨(h.2.1 x hx).2.1,fun v hv=>zwR ((h.2.1 x hx).2.2 v hv)⟩⟩
theorem zDS (l:List InD):Abs.Fn Tryz.prog zhD [] [.p (.slice (l.map encI))] (.p (.bool (fewI l))) []:=by
 apply zr4
 simp [zjk]
 intro _
 refine ⟨fun h=>zg ?_,fun h6=>?_⟩
 ·have:fewI l=false:=by simp only [fewI]; simp; omega
  rw [this]
 refine zA (σ:=Nat) (n:=0) (fun i=>[.p (.int .i64 (rowsD (l.take i):Nat)),.p (.int .i64 i)]) (fun _=>[]) (fun i=>i≤l.length∧(l.take i).all okI=true∧rowsD (l.take i)≤i * 60) (fun i=>l.length - i) [] 0 (fun _=>rfl) ?_ (by simp [rowsD]) (fun i B hi hB=>?_)
 ·simp [zbN,rowsD]
 obtain ⟨h1,h2,h3⟩:=hi
 simp [zkW]
 intro hml
 refine ⟨fun hlt=>?_,fun hge=>?_⟩
 ·have hbad:okI l[i]=false→fewI l=false:=fun h=>by
   have:l.all okI=false:=by
    rw [List.all_eq_false]
    exact ⟨_,List.getElem_mem hlt,by rw [h]; simp⟩
   simp [fewI,this]
  have hr:=zrw l i hlt
  have hall:okI l[i]=true→(l.take (i + 1)).all okI=true:=fun h=>by
   rw [List.take_succ_eq_append_getElem hlt,List.all_append,h2]
   simp [h]
  simp [hlt,encI]
  intro hml2
  refine ⟨fun hz=>zg ?_,fun hn1 hn2=>?_⟩
  ·rw [hbad]
   rw [Bool.eq_false_iff]
   intro h
   simp only [okI,Bool.and_eq_true,decide_eq_true_eq] at h
   omega
  ·rw [IntWalk.i64_in _ (by omega)]
   intro hml3
   have hrow:∀ j (h:j < l[i].rows.length),fewV l[i].rows[j]=false→fewI l=false:=fun j h he=>hbad (by
    have:l[i].rows.all fewV=false:=by
     rw [List.all_eq_false]
     exact ⟨_,List.getElem_mem h,by rw [he]; simp⟩
    simp [okI,this])
   refine zA (σ:=Nat) (n:=0) (fun j=>[.p (.int .i64 j)]) (fun _=>[]) (fun j=>j≤l[i].rows.length∧(l[i].rows.take j).all fewV=true) (fun j=>l[i].rows.length - j) [] 0 (fun _=>rfl) ?_ (by simp) (fun j B2 hj hB2=>?_)
   ·simp [zbN]
   obtain ⟨k1,k2⟩:=hj
   simp [zkE,hlt,encI]
   intro hml4
   refine ⟨fun hlt2=>?_,fun hge2=>?_⟩
   ·have hv:=zj8 l[i].rows[j]
    simp only [zf1] at hv
    simp [hlt2]
    refine zo rfl rfl hv ?_
    simp
    refine ⟨fun hz=>zg (by rw [hrow j hlt2 hz]),fun hz=>?_⟩
    rw [IntWalk.i64_in _ (by omega)]
    exact hB2 (j + 1) _ ⟨by omega,by rw [List.take_succ_eq_append_getElem hlt2,List.all_append,k2]; simp [hz]⟩ (by omega) (by simp) (by simp) (by simp) (by simp [AV.under,AV.under1])
   ·rw [List.take_of_length_le hge2] at k2
    have hok:okI l[i]=true:=by
     simp only [okI,Bool.and_eq_true,decide_eq_true_eq]
     exact ⟨by omega,by omega,k2⟩
    rw [IntWalk.i64_in _ (by omega)]
    have e1:((rowsD (l.take i):Nat):Int) + (l[i].rows.length:Nat)=((rowsD (l.take (i + 1)):Nat):Int):=by rw [hr]; omega
    rw [e1]
    exact hB (i + 1) _ ⟨by omega,hall hok,by rw [hr]; omega⟩ (by omega) (by simp) (by simp) (by simp) (by simp [AV.under,AV.under1])
 ·rw [List.take_of_length_le hge] at h2 ⊢
  refine zg ?_
  have h6':l.length≤6:=by omega
  simp [fewI,h2,h6']
  omega
set_option maxRecDepth 100000 in
theorem ztH (g:List Nd) (hok:∀ n∈g,OkN n) (hg:g.length≤1000) (ins:List InD) (hin:ins.length≤1000) (hrow:∀ x∈ins,x.rows.length≤1000000) (hwv:∀ x∈ins,∀ v∈x.rows,Wv 1000000000 v) :
  Abs.Fn Tryz.prog zc7 [] [.p (.slice (g.map encN)),.p (.slice (ins.map encI))] (.p (.int .i64 (zky g ins))) []:=by
 generalize hE:zky g ins=E
 unfold zky at hE
 rw [zyN] at hE
 apply zk5
 simp [zdY]
 refine zo rfl rfl (zy5 g hok) ?_
 simp
 refine ⟨fun h0=>zg (by rw [← hE]; simp [h0]),fun h0=>?_⟩
 rw [if_neg (by simpa using h0)] at hE
 refine zo rfl rfl (zuM g 1 (by omega)) ?_
 simp
 obtain ⟨src,hsrc⟩:∃ src,src=zas 1 0 g:=⟨_,rfl⟩
 have hlt:∀ x∈src,0≤x∧x < (g.length:Int):=fun x hx=>by
  rw [hsrc] at hx
  have a:=zgW g 0 x hx
  have b:=ziM g 0 x hx
  exact ⟨by omega,by simpa using b⟩
 rw [← hsrc] at hE ⊢
 intro hm1 hm2
 refine ⟨fun hne=>zg ?_,fun heq=>?_⟩
 ·rw [← hE,if_pos (by omega)]
 rw [if_neg (by omega)] at hE
 have hnl:∀ k,rowsD (ins.take k)≤1000000000:=fun k=>by
  have h1:=zwo 1000000 (ins.take k) (fun x hx=>hrow x (List.mem_of_mem_take hx))
  have h2:(ins.take k).length≤1000:=by simp; omega
  exact Nat.le_trans h1 (Nat.le_trans (Nat.mul_le_mul_right _ h2) (by decide))
 refine zA (σ:=Nat) (n:=0) (fun k=>[.p (.int .i64 k)]) (fun _=>[]) (fun k=>k≤ins.length∧zly g (src.drop k) (ins.drop k)=zly g src ins) (fun k=>ins.length - k) [] 0 (fun _=>rfl) ?_ (by simp) (fun k B hk hB=>?_)
 ·simp [zbN]
 obtain ⟨h1,h2⟩:=hk
 simp [zft]
 intro hml1
 refine ⟨fun hlt2=>?_,fun hge=>?_⟩
 ·have hki:k < ins.length:=by omega
  obtain ⟨m,hm⟩:∃ m:Nat,src[k]=m:=⟨src[k].toNat,by have:=hlt _ (List.getElem_mem hlt2); omega⟩
  have hmg:m < g.length:=by have:=hlt _ (List.getElem_mem hlt2); omega
  have hgm:g.getD m noN=g[m]:=by simp [List.getD,hmg]
  rw [List.drop_eq_getElem_cons hlt2,List.drop_eq_getElem_cons hki] at h2
  simp only [zly,hm,Int.toNat_natCast,hgm] at h2
  simp [hlt2,hki,hm,hmg,encI]
  refine ⟨fun hne=>zg ?_,fun heq2=>?_⟩
  ·rw [← hE,if_pos (by rw [← h2]; simp [hne])]
  ·rw [IntWalk.i64_in _ (by omega)]
   refine hB (k + 1) _ ⟨by omega, ?_⟩ (by omega) (by simp) (by simp [Ob.below,AV.under1]) (by simp) (by simp [AV.under,AV.under1])
   rw [← h2]
   simp [heq2]
 ·have hnm:zly g src ins=true:=by rw [← h2,List.drop_of_length_le (by omega)]; rfl
  rw [if_neg (by simp [hnm])] at hE
  refine zA (σ:=Nat) (n:=0) (fun j=>[.p (.int .i64 (rowsD (ins.take j):Nat)),.p (.int .i64 j)]) (fun _=>[]) (fun j=>j≤ins.length∧zlA g (src.drop j) (ins.drop j)=zlA g src ins) (fun j=>ins.length - j) [] 0 (fun _=>rfl) ?_ (by simp) (fun j B hj hB=>?_)
  ·simp [zbN,rowsD]
  obtain ⟨h1,h2⟩:=hj
  simp [zfp]
  intro hml2
  refine ⟨fun hlt2=>?_,fun hge2=>?_⟩
  ·have hki:j < ins.length:=by omega
   obtain ⟨m,hm⟩:∃ m:Nat,src[j]=m:=⟨src[j].toNat,by have:=hlt _ (List.getElem_mem hlt2); omega⟩
   have hmg:m < g.length:=by have:=hlt _ (List.getElem_mem hlt2); omega
   have hgm:g.getD m noN=g[m]:=by simp [List.getD,hmg]
   have hrt:=zrw ins j hki
   have hrb:=hnl (j + 1)
   have hw:=hwv _ (List.getElem_mem hki)
   have hrl:=hrow _ (List.getElem_mem hki)
   rw [List.drop_eq_getElem_cons hlt2,List.drop_eq_getElem_cons hki] at h2
   simp only [zlA,hm,Int.toNat_natCast,hgm] at h2
   refine zA (σ:=Nat) (n:=0) (fun i=>[.p (.int .i64 i)]) (fun _=>[]) (fun i=>i≤ins[j].rows.length∧(ins[j].rows.take i).all (fun v=>isV v g[m].op.t)=true) (fun i=>ins[j].rows.length - i) [] 0 (fun _=>rfl) ?_ (by simp) (fun i B2 hi hB2=>?_)
   ·simp [zbN]
   obtain ⟨k1,k2⟩:=hi
   simp [zfr,hlt2,hki,hm,hmg,encI]
   intro hml3
   refine ⟨fun hlt3=>?_,fun hge3=>?_⟩
   ·have his:=zER ins[j].rows[i] g[m].op.t (hw _ (List.getElem_mem hlt3))
    simp only [zf1,zcI] at his
    simp [hlt3]
    refine zH rfl his rfl ?_
    simp
    refine ⟨fun hz=>zg ?_,fun hz=>?_⟩
    ·have hall:ins[j].rows.all (fun v=>isV v g[m].op.t)=false:=by
      rw [List.all_eq_false]
      exact ⟨_,List.getElem_mem hlt3,by rw [hz]; simp⟩
     rw [hall] at h2
     rw [← hE,if_pos (by rw [← h2]; rfl)]
    ·rw [IntWalk.i64_in _ (by omega)]
     exact hB2 (i + 1) _ ⟨by omega,by rw [List.take_succ_eq_append_getElem hlt3,List.all_append,k2]; simp [hz]⟩ (by omega) (by simp) (by simp) (by simp) (by simp [AV.under,AV.under1])
   ·rw [List.take_of_length_le hge3] at k2
    rw [k2] at h2
    rw [hrt] at hrb
    rw [IntWalk.i64_in _ (by omega),IntWalk.i64_in _ (by omega)]
    have e1:((rowsD (ins.take j):Nat):Int) + (ins[j].rows.length:Nat)=((rowsD (ins.take (j + 1)):Nat):Int):=by rw [hrt]; omega
    rw [e1]
    exact fun _=>hB (j + 1) _ ⟨by omega,by rw [← h2]; simp⟩ (by omega) (by simp) (by simp) (by simp) (by simp [AV.under,AV.under1])
  ·have htm:zlA g src ins=true:=by rw [← h2,List.drop_of_length_le (by omega)]; rfl
   rw [if_neg (by simp [htm])] at hE
   rw [List.take_of_length_le (by omega)]
   refine ⟨fun hgt=>zg ?_,fun hle=>zg ?_⟩
   ·rw [← hE,if_pos (by omega)]
   ·rw [← hE,if_neg (by omega)]
end Go.Proofs.YtdmgbhamigegfaaGreatDoor
