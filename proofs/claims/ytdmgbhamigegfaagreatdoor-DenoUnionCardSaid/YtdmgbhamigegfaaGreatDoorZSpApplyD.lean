/- deno's apply over trees. -/
import Derived.Test.YtdmgbhamigegfaaGreatDoorZSpOutDQ
import Derived.Test.YtdmgbhamigegfaaGreatDoorZSpOpP
import Derived.Test.YtdmgbhamigegfaaGreatDoorZSpRepQ
import Derived.Test.YtdmgbhamigegfaaGreatDoorS1
set_option linter.unusedSimpArgs false
set_option linter.unusedVariables false
namespace Go.Proofs.YtdmgbhamigegfaaGreatDoor
open Go Go.Abs
attribute [local irreducible] Abs.Fn
structure ApplyOk (o:Opr) (rows:List Va):Prop where
 len:rows.length≤10000
 es:∀ e∈o.es,We 1000000000 e
 row:∀ x∈rows,Wv 1000000000 x
 few:o.es.length≤8
 flt:o.k=3→o.es.length=1
theorem zCw {o:Opr} {x:Va} {f:Int} (h:zeM o x=some (.er f)):f≠0:=by
 unfold zeM at h
 split at h
 ·exact zwt _ _ _ h
 ·split at h
  ·cases hl:evL o.es x with
   | none=>rw [hl] at h; simp at h
   | some r =>
    cases r with
    | ok l=>rw [hl] at h; simp at h
    | er f'=>rw [hl] at h; simp at h; subst h; exact zwt _ _ _ hl
  ·simp at h
theorem zCx {o:Opr} {x:Va} {l:List Va} (h:zeM o x=some (.ok l)) (h8:o.es.length≤8):l.length≤8:=by
 unfold zeM at h
 split at h
 ·rw [zm8 _ _ _ h]; exact h8
 ·split at h
  ·cases hl:evL o.es x with
   | none=>rw [hl] at h; simp at h
   | some r =>
    cases r with
    | ok l=>rw [hl] at h; simp at h; subst h; split <;> simp
    | er f'=>rw [hl] at h; simp at h
  ·simp at h; subst h; simp
set_option maxRecDepth 100000 in
theorem zAR (g:List Nd) (i:Nat) (hi:i < g.length) (outs:List T) (no:Nat) (bads:List (Int×Va)) (last:Bool) (rows:List Va) (hok:ApplyOk g[i].op rows) (hb:bads.length≤100000) {out bad:List Va} (h:zcC g[i].op rows=some (out,bad)) :
  Abs.Fn Tryz.prog zgC (frH g outs no bads last) [.bptr 0 0,.p (.int .i64 i),.p (.slice (rows.map encV))] (.p (.slice (out.map encV))) (frH g outs no (bads++bad.map fun x=>((i:Int),x)) last):=by
 apply zo9
 simp [zij]
 intro hml
 have hgi:g[i]? = some g[i]:=by simp [hi]
 have hlen:=hok.len
 obtain ⟨nd,hnd⟩:∃ nd,nd=g[i]:=⟨_,rfl⟩
 rw [← hnd] at hok h hgi
 refine zA (σ:=Nat×List Va×List Va) (n:=4) (fun s=>[.own 3 (s.2.1.map encV),.p (.int .i64 s.1)]) (fun s=>frH g outs no (bads++s.2.2.map fun x=>((i:Int),x)) last++[.row s.2.1.length 5])
  (fun s=>s.1≤rows.length∧zcC nd.op (rows.take s.1)=some s.2∧s.2.1.length≤8 * s.1∧s.2.2.length≤s.1) (fun s=>rows.length - s.1) [.slot 0 5] (0,[],[]) (fun _=>rfl) ?_ (by simp [zcC]) (fun s B hs hB=>?_)
 ·simp [zbo,ghost]
 obtain ⟨n,ou,ba⟩:=s
 obtain ⟨h1,h2,h3,h4⟩:=hs
 simp only at h1 h2 h3 h4 hB
 simp [zjN]
 refine ⟨fun hlt=>?_,fun hge=>?_⟩
 ·have hx:=hok.row _ (List.getElem_mem hlt)
  have hstep:∃ r l1 b1,zeM nd.op rows[n]=some r∧zcC nd.op (rows.take (n + 1))=some (ou++l1,ba++b1)∧((r=.ok l1∧b1=[])∨(∃ f,f≠0∧r=.er f∧l1=[]∧b1=[rows[n]])):=by
   have e1:=zrI nd.op (rows.take n) (rows.drop n)
   rw [List.take_append_drop,h2,h,List.drop_eq_getElem_cons hlt] at e1
   have e2:=zrI nd.op (rows.take n) [rows[n]]
   rw [h2,List.take_append_getElem hlt] at e2
   simp only [zcC] at e1 e2
   cases hst:zeM nd.op rows[n] with
   | none=>rw [hst] at e1; simp at e1
   | some r =>
    cases r with
    | ok l=>rw [hst] at e2; exact ⟨_,l,[],rfl,by simpa using e2,.inl ⟨rfl,rfl⟩⟩
    | er f=>rw [hst] at e2; exact ⟨_,[],[rows[n]],rfl,by simpa using e2,.inr ⟨f,zCw hst,rfl,rfl,rfl⟩⟩
  obtain ⟨r,l1,b1,hr,hnext,hcase⟩:=hstep
  simp [hlt,hi]
  rw [← hnd]
  have hrn:rows[n]? = some rows[n]:=List.getElem?_eq_getElem hlt
  generalize rows[n]=x at *
  have hap:=zAG nd.op x r hr hok.es hx hok.few hok.flt
  have happ:∀ l:List Va,l.length≤8→zbv 5 64 (ou.map encV) (l.map encV):=fun l hl=>⟨fun q hq=>by obtain ⟨y,_,rfl⟩:=List.mem_map.1 hq; simp,fun q hq=>by obtain ⟨y,_,rfl⟩:=List.mem_map.1 hq; simp,by simp; omega⟩
  have fin:∀ (es:List T) (H2:List Ob),es=(ou++l1).map encV→l1.length≤8→b1.length≤1→H2.take 4=frH g outs no (bads++(ba++b1).map fun x=>((i:Int),x)) last++[.row (ou++l1).length 5]→4≤H2.length→B [.own 3 es,.p (.int .i64 ((n:Int) + 1))] H2:=by
   intro es H2 he2 hl1 hb1 ht h9
   subst he2
   refine hB (n + 1,ou++l1,ba++b1) _ ⟨by simp only; omega,hnext,by simp; omega,by simp; omega⟩ (by simp only; omega) ht ?_ h9 (by simp [AV.under,AV.under1])
   rw [ht]
   simp [Ob.below,AV.under1]
  rcases hcase with ⟨rfl,rfl⟩ | ⟨f,hf,rfl,rfl,rfl⟩
  ·have hl8:=zCx hr hok.few
   simp only [allR,zgb,zd7] at hap
   refine zF rfl hap rfl ?_
   simp
   refine ⟨happ _ hl8, ?_⟩
   rw [IntWalk.i64_in _ (by omega)]
   refine fin _ _ (by simp) hl8 (by simp) (by simp) (by simp)
  ·simp only [allR,zgb,zd7] at hap
   refine zF rfl hap rfl ?_
   simp [hf,hrn]
   refine ⟨⟨fun q hq=>?_,by simp [T.cells],by simp; omega⟩,happ [] (by simp), ?_⟩
   ·rcases List.mem_append.1 hq with hq | hq
    ·obtain ⟨y,_,rfl⟩:=List.mem_map.1 hq; simp [encW]
    ·obtain ⟨y,_,rfl⟩:=List.mem_map.1 hq; simp [encW]
   rw [IntWalk.i64_in _ (by omega)]
   refine fin _ _ (by simp) (by simp) (by simp) (by simp [encW,Nat.add_assoc]) (by simp)
 ·rw [List.take_of_length_le (by omega),h] at h2
  simp only [Option.some.injEq,Prod.mk.injEq] at h2
  obtain ⟨rfl,rfl⟩:=h2
  refine zFC (zqw [0,1,2] ?_ rfl (by simp) (by simp [zcG,renF]) (by simp [AV.under,AV.under1]) (by simp [Ob.below,AV.under1]))
  simp [treeQ]
end Go.Proofs.YtdmgbhamigegfaaGreatDoor
