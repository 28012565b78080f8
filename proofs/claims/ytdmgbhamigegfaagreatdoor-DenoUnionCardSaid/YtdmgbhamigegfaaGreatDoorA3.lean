/- From contracts over trees to rows: what is read of arguments as trees; what a law's row asks behind the call. -/
import Derived.Carry
import Derived.OpenShut
import Derived.ProofKit
import Derived.ChangeCalls
import Derived.IntWalk
import Derived.Test.YtdmgbhamigegfaaGreatDoorA2

section
/- From contracts over trees to rows: what is read of arguments as trees; what a law's row asks behind the call. -/
namespace Go.Abs
open Go.RowKit Go.ChangeShapes
def G0 (w:World):Gh:=⟨fun b o=>w.cell? ⟨b,o,none⟩,fun _=>none⟩
def zzo (w:World):Prop:=∀ g cs,(g,cs)∈tabs→(∃ ty fr,w.heap[g]? = some (.cells cs.toArray ty fr))∧cs≠[]
theorem tabs0 {w:World} (h:zzo w):TabOk w (G0 w).rd:=by
 intro g cs hm
 obtain ⟨⟨ty,fr,e⟩,hne⟩:=h g cs hm
 refine ⟨⟨ty,fr,e⟩,hne,fun o v hv=>?_⟩
 show w.cell? ⟨g,o,none⟩=some v
 unfold World.cell?
 simp [e,hv]
theorem inv0 {w:World} (h:zzo w):Inv w (G0 w) []:=⟨fun _ _ _ h=>h,fun id l h=>by simp [G0] at h,fun i j b h=>by simp [Gh.blk,G0] at h,tabs0 h⟩
theorem zDk {n:Nat} {w w':World} {G':Gh} (h:Move n w (G0 w) w' G'):Below w.heap.size w w' :=
 ⟨h.os,h.tape,h.output,h.size,fun k hk=>h.keep k hk (fun id e=>by simp [Gh.blk,G0] at e)⟩
def elemT (P:Program) (t:TypeId) (cs:List T):T :=
 match P.underlying t with
 | some (.struct _)=>.agg cs
 | _=>cs.getD 0 default
def segs (p:TypeId→List T→Prop):List TypeId→List T→Prop
 | [],ts=>ts=[]
 | t::r,ts=>∃ a b,ts=a++b∧p t a∧segs p r b
def Typ (P:Program):Nat→TypeId→List T→Prop
 | 0,_,_=>False
 | n + 1,t,ts=>match P.underlying t with
  | some .bool=>∃ b,ts=[.bool b]
  | some (.int k)=>∃ m,ts=[.int k m]∧(Lit.int k m).wf=true
  | some .string=>∃ s,ts=[.str s]∧s.length≤maxLen
  | some (.slice e)=>∃ es:List (List T),ts=[.slice (es.map (elemT P e))]∧es.length≤maxLen ∧ ∀ x∈es,Typ P n e x
  | some (.struct fs)=>segs (Typ P n) (fs.toList.map (·.type)) ts
  | _=>False
def offs (P:Program):List Field→Nat→Nat→Bool
 | [],k,n=>k == n
 | f::r,k,n=>f.offset == k && offs P r (k + P.cellsOf f.type) n
def zqq (P:Program) (Ts:List TypeId) (t:TypeId):Bool :=
 match P.underlying t with
 | some .bool=>P.cellsOf t == 1
 | some (.int _)=>P.cellsOf t == 1
 | some .string=>P.cellsOf t == 1
 | some (.slice e)=>P.cellsOf t == 1 && Ts.contains e && decide (0 < P.cellsOf e)
 | some (.struct fs)=>offs P fs.toList 0 (P.cellsOf t) && fs.toList.all (fun f=>Ts.contains f.type)
 | _=>false
def zsE (P:Program) (Ts:List TypeId):Bool:=Ts.all (zqq P Ts)
variable {H:Type} {enc:TypeId×Value→H} {P:Program} {w:World} {spare:Nat→Bool}
def zlI (rd:Rd) (ts:List T) (cs:List Value):Prop:=ts.length=cs.length ∧ ∀ (j:Nat) (c:T),ts[j]? = some c→RepT rd c (cs.getD j undef)∧zQ (cs.getD j undef)=true
theorem zlI.one {rd:Rd} {c:T} {v:Value} (h:RepT rd c v) (hs:zQ v=true):zlI rd [c] [v]:=by
 refine ⟨rfl,fun j c' hj=>?_⟩
 cases j with
 | zero=>simp at hj; subst hj; exact ⟨h,hs⟩
 | succ j=>simp at hj
theorem zlI.append {rd:Rd} {a b:List T} {cs ds:List Value} (h:zlI rd a cs) (k:zlI rd b ds):zlI rd (a++b) (cs++ds):=by
 refine ⟨by simp [h.1,k.1],fun j c hj=>?_⟩
 rcases Nat.lt_or_ge j a.length with hl | hl
 ·rw [List.getElem?_append_left hl] at hj
  have:=h.2 j c hj
  rw [List.getD_eq_getElem?_getD,List.getElem?_append_left (by rw [← h.1]; exact hl),← List.getD_eq_getElem?_getD]
  exact this
 ·rw [List.getElem?_append_right hl] at hj
  have:=k.2 _ c hj
  rw [List.getD_eq_getElem?_getD,List.getElem?_append_right (by rw [← h.1]; exact hl),← h.1,← List.getD_eq_getElem?_getD]
  exact this
theorem zv9 {Ts:List TypeId} (h:zsE P Ts=true) {t:TypeId} (ht:t∈Ts):zqq P Ts t=true:=List.all_eq_true.1 h t ht
theorem cells?_get {base n:Nat} {a:Addr} {cs:List Value} (h:w.cells? base a n=some cs):cs.length=n ∧ ∀ i,i < n→w.cell? (a.add i)=cs[i]?:=by
 unfold World.cells? at h
 split at h
 ·have key:∀ (l:List Nat) (cs:List Value),l.mapM (fun i=>w.cell? (a.add i))=some cs→cs.length=l.length ∧ ∀ (j:Nat) (i:Nat),l[j]? = some i→w.cell? (a.add i)=cs[j]?:=by
   intro l
   induction l with
   | nil=>intro cs h; simp at h; subst h; simp
   | cons x r ih =>
    intro cs h
    simp only [List.mapM_cons,Option.bind_eq_bind,Option.bind_eq_some_iff] at h
    obtain ⟨y,hy,ys,hys,hr⟩:=h
    simp at hr
    subst hr
    obtain ⟨h1,h2⟩:=ih ys hys
    refine ⟨by simp [h1],fun j i hj=>?_⟩
    cases j with
    | zero=>simp at hj; subst hj; simpa using hy
    | succ j=>simp at hj ⊢; exact h2 j i hj
  obtain ⟨h1,h2⟩:=key _ _ h
  exact ⟨by simpa using h1,fun i hi=>h2 i i (by simp [hi])⟩
 ·simp at h
theorem zEW {a:Addr} {v:Value} (h:w.cell? a=some v):a.spot=none:=by
 unfold World.cell? at h
 split at h
 ·split at h
  ·simp at h
  ·rename_i hs; simpa using hs
 ·simp at h
theorem zAN {a:Addr} (h:a.spot=none) (n:Nat):a.add n=⟨a.block,a.off + n,none⟩:=by
 unfold Addr.add
 split
 ·rename_i hn; subst hn; cases a; simp_all
 ·rfl
theorem zGa {Ts:List TypeId} (hc:zsE P Ts=true):∀ (n:Nat) (t:TypeId) (cs:List Value) (x:DataW H×List MemPlace),t∈Ts→DataW.trod enc P w 0 spare true n t cs=some x →
  cs.length=P.cellsOf t ∧ ∃ ts,zlI (G0 w).rd ts cs∧Typ P n t ts:=by
 intro n
 induction n with
 | zero=>intro t cs x _ h; simp [DataW.trod] at h
 | succ n ih =>
  intro t cs x ht h
  have hone:=zv9 hc ht
  unfold zqq at hone
  simp only [Typ]
  split at hone
  ·rename_i hu
   obtain ⟨b,rfl,rfl⟩:=DataW.trod_bool hu h
   exact ⟨by simpa using (beq_iff_eq.1 hone).symm,[.bool b],.one (.bool b) rfl,b,rfl⟩
  ·rename_i k hu
   obtain ⟨m,rfl,rfl,hw⟩:=DataW.trod_int hu h
   exact ⟨by simpa using (beq_iff_eq.1 hone).symm,[.int k m],.one (.int k m) rfl,m,rfl,hw⟩
  ·rename_i hu
   obtain ⟨s,rfl,rfl,hw⟩:=DataW.trod_string hu h
   refine ⟨by simpa using (beq_iff_eq.1 hone).symm,[.str s.data.toList],.one ?_ rfl, ?_⟩
   ·have:=RepT.str (rd:=(G0 w).rd) s.data.toList (by simpa using hw)
    simpa using this
   ·exact ⟨_,rfl,by simpa using hw⟩
  ·rename_i e hu
   simp only [Bool.and_eq_true,beq_iff_eq,decide_eq_true_eq,List.contains_iff_mem] at hone
   obtain ⟨⟨h1,he⟩,hpos⟩:=hone
   rcases DataW.trod_slice hu h with ⟨rfl,_⟩ | ⟨a,len,cap,elems,rest,m,hm,rfl,_,_,hle,hmax,hlen,hel,_⟩
   ·refine ⟨by simp [h1],[.slice []],.one (.nil none 0) rfl, ?_⟩
    exact ⟨[],rfl,by simp,by simp⟩
   ·have hm:m=n:=by omega
    subst hm
    -- each element
    have hrow:∀ i,i < len→∃ cs,w.cells? 0 (a.add (i * P.cellsOf e)) (P.cellsOf e)=some cs∧cs.length=P.cellsOf e ∧ ∃ ts,zlI (G0 w).rd ts cs∧Typ P m e ts:=by
     intro i hi
     have:=hel i hi
     rw [List.getElem?_eq_getElem (by omega)] at this
     rw [Option.bind_eq_some_iff] at this
     obtain ⟨cs,h2,h3⟩:=this
     obtain ⟨h4,ts,h5,h6⟩:=ih e cs _ he h3
     exact ⟨cs,h2,h4,ts,h5,h6⟩
    let f:Nat→List T:=fun i=>if h:i < len then (hrow i h).choose_spec.2.2.choose else []
    have hf:∀ i,i < len→∃ cs,w.cells? 0 (a.add (i * P.cellsOf e)) (P.cellsOf e)=some cs∧cs.length=P.cellsOf e∧zlI (G0 w).rd (f i) cs∧Typ P m e (f i):=by
     intro i hi
     simp only [f,hi,dif_pos]
     exact ⟨(hrow i hi).choose,(hrow i hi).choose_spec.1,(hrow i hi).choose_spec.2.1,(hrow i hi).choose_spec.2.2.choose_spec.1,(hrow i hi).choose_spec.2.2.choose_spec.2⟩
    have hcells:∀ i,i < len→(elemT P e (f i)).cells=f i:=by
     intro i hi
     obtain ⟨cs,g1,g2,g3,g4⟩:=hf i hi
     have hl:(f i).length=P.cellsOf e:=by rw [g3.1,g2]
     unfold elemT
     cases hm:m with
     | zero=>rw [hm] at g4; simp [Typ] at g4
     | succ m' =>
      rw [hm] at g4
      simp only [Typ] at g4
      split
      ·rfl
      ·rename_i hns
       split at g4
       ·obtain ⟨b,hb⟩:=g4; rw [hb]; rfl
       ·obtain ⟨b,hb,_⟩:=g4; rw [hb]; rfl
       ·obtain ⟨b,hb,_⟩:=g4; rw [hb]; rfl
       ·obtain ⟨b,hb,_⟩:=g4; rw [hb]; rfl
       ·rename_i fs hfs; exact absurd hfs (hns fs)
       ·exact g4.elim
    refine ⟨by simp [h1],[.slice ((List.range len).map fun i=>elemT P e (f i))],.one ?_ rfl, ?_⟩
    ·by_cases h0:len=0
     ·subst h0; exact .nil _ _
     ·have hspot:a.spot=none:=by
       obtain ⟨cs,g1,g2,_⟩:=hf 0 (by omega)
       have:=(cells?_get g1).2 0 (by omega)
       rw [List.getElem?_eq_getElem (by omega)] at this
       simpa [Addr.add] using zEW this
      obtain ⟨b,o,sp⟩:=a
      simp at hspot
      subst hspot
      have hlen':((List.range len).map fun i=>elemT P e (f i)).length=len:=by simp
      have:=RepT.slice (rd:=(G0 w).rd) ((List.range len).map fun i=>elemT P e (f i)) b o cap (P.cellsOf e) (fun i j=>((w.cell? ⟨b,o + i * P.cellsOf e + j,none⟩).getD undef)) (fun e' he'=>?_) (fun i j e' c he' hc'=>?_) (fun i j e' c he' hc'=>?_) (fun i j e' c he' hc'=>?_) (by simp; omega) (by simpa using hle)
      ·rw [hlen'] at this; exact this
      ·simp only [List.mem_map,List.mem_range] at he'
       obtain ⟨i,hi,rfl⟩:=he'
       obtain ⟨cs,g1,g2,g3,_⟩:=hf i hi
       rw [hcells i hi,g3.1,g2]
      all_goals
       simp only [List.getElem?_map,Option.map_eq_some_iff] at he'
       obtain ⟨i',hi',rfl⟩:=he'
       have hil:i < len:=by have:=(List.getElem?_eq_some_iff.1 hi').1; simpa using this
       have:i'=i:=by simp [hil] at hi'; exact hi'.symm
       subst this
       rw [hcells i' hil] at hc'
       obtain ⟨cs,g1,g2,g3,_⟩:=hf i' hil
       have hjl:j < cs.length:=by rw [← g3.1]; exact (List.getElem?_eq_some_iff.1 hc').1
       have hcell:=(cells?_get g1).2 j (by omega)
       rw [zAN (a:=⟨b,o,none⟩) rfl (i' * P.cellsOf e),zAN rfl j,List.getElem?_eq_getElem hjl] at hcell
       simp only at hcell
       have hg:=g3.2 j c hc'
       rw [List.getD_eq_getElem?_getD,List.getElem?_eq_getElem hjl] at hg
       simp only [G0,hcell,Option.getD_some]
      ·exact hg.1
      ·exact hg.2
    ·refine ⟨(List.range len).map f,by simp [Function.comp_def],by simp; omega,fun x hx=>?_⟩
     simp only [List.mem_map,List.mem_range] at hx
     obtain ⟨i,hi,rfl⟩:=hx
     obtain ⟨_,_,_,_,g⟩:=hf i hi
     exact g
  ·rename_i fs hu
   simp only [Bool.and_eq_true,List.all_eq_true,List.contains_iff_mem] at hone
   obtain ⟨ho,hfs⟩:=hone
   obtain ⟨xs,m,hm,_,hlen,hxs,hel⟩:=DataW.trod_struct hu h
   have hm:m=n:=by omega
   subst hm
   refine ⟨hlen, ?_⟩
   have key:∀ (l:List Field) (k:Nat),(∀ f∈l,f∈fs.toList)→offs P l k (P.cellsOf t)=true→∃ ts,zlI (G0 w).rd ts (cs.drop k)∧segs (Typ P m) (l.map (·.type)) ts:=by
    intro l
    induction l with
    | nil =>
     intro k _ hk
     have:k=P.cellsOf t:=by simpa [offs] using hk
     refine ⟨[],⟨by simp [hlen,this],by simp⟩,rfl⟩
    | cons f r ihl =>
     intro k hmem hk
     simp only [offs,Bool.and_eq_true,beq_iff_eq] at hk
     obtain ⟨rfl,hk⟩:=hk
     obtain ⟨ts,g1,g2⟩:=ihl _ (fun f hf=>hmem f (List.mem_cons_of_mem _ hf)) hk
     obtain ⟨i,hi,hif⟩:=List.getElem_of_mem (hmem f List.mem_cons_self)
     have hi':fs[i]? = some f:=by rw [← hif]; simp
     have:=hel i f hi'
     rw [List.getElem?_eq_getElem (by rw [hxs]; simpa using hi)] at this
     obtain ⟨e1,us,e2,e3⟩:=ih _ _ _ (hfs f (hmem f List.mem_cons_self)) this
     refine ⟨us++ts, ?_,us,ts,rfl,e3,g2⟩
     have hd:cs.drop f.offset=(cs.drop f.offset).take (P.cellsOf f.type)++cs.drop (f.offset + P.cellsOf f.type):=by
      rw [← List.drop_drop,List.take_append_drop]
     rw [hd]
     exact e2.append g1
   obtain ⟨ts,g1,g2⟩:=key fs.toList 0 (fun _ h=>h) ho
   exact ⟨ts,by simpa using g1,g2⟩
  ·simp at hone
theorem arg_rep {Ts:List TypeId} (hc:zsE P Ts=true) {t:TypeId} (ht:t∈Ts) {r:Reach} {b0:Nat} {v:Value} {d:DataW H} {ps:List MemPlace} (hval:Value.okWide P w r b0 t v) (hd:DataW.Trod enc P w 0 spare true t v d ps) :
  ∃ n ts,Typ P n t ts∧RepT (G0 w).rd (elemT P t ts) v:=by
 obtain ⟨n,hn⟩:=hd
 obtain ⟨hlen,ts,h1,h2⟩:=zGa hc n t _ _ ht hn
 refine ⟨n,ts,h2, ?_⟩
 have hone:=zv9 hc ht
 unfold zqq at hone
 unfold elemT
 split
 ·rename_i fs hu
  simp only [Value.okWide,hu] at hval
  obtain ⟨cs,rfl,_,_⟩:=hval
  refine .agg ts cs (by simpa [Value.cells] using h1.1.symm) (fun j c hj=>?_) (fun j c hj=>?_)
  ·have:=(h1.2 j c hj).1
   simpa [Value.cells,Array.getD_eq_getD_getElem?,List.getD_eq_getElem?_getD] using this
  ·have:=(h1.2 j c hj).2
   simpa [Value.cells,Array.getD_eq_getD_getElem?,List.getD_eq_getElem?_getD] using this
 ·rename_i hns
  have hl1:P.cellsOf t=1:=by
   split at hone
   ·simpa using hone
   ·simpa using hone
   ·simpa using hone
   ·simp only [Bool.and_eq_true,beq_iff_eq] at hone; exact hone.1.1
   ·rename_i fs hu; exact absurd hu (hns fs)
   ·simp at hone
  have hva:∀ cs,v≠.agg cs:=by
   rintro cs rfl
   split at hone
   ·rename_i hu; simp [Value.okWide,Cell.okWide,Cell.ok,hu] at hval
   ·rename_i hu; simp [Value.okWide,Cell.okWide,Cell.ok,hu] at hval
   ·rename_i hu; simp [Value.okWide,Cell.okWide,Cell.ok,hu] at hval
   ·rename_i hu; simp [Value.okWide,Cell.okWide,Cell.ok,hu] at hval
   ·rename_i fs hu; exact absurd hu (hns fs)
   ·simp at hone
  have hcs:v.cells.toList=[v]:=by
   cases v with
   | agg cs=>exact absurd rfl (hva cs)
   | _=>rfl
  rw [hcs] at h1
  have hl:ts.length=1:=by simpa using h1.1
  match ts,hl with
  | [c],_=>simpa using (h1.2 0 c rfl).1
theorem typ_int {n:Nat} {t:TypeId} {k:IntKind} {cs:List T} (hu:P.underlying t=some (.int k)) (h:Typ P n t cs):∃ m,cs=[.int k m]∧elemT P t cs=.int k m∧(Lit.int k m).wf=true:=by
 cases n with
 | zero=>exact h.elim
 | succ n =>
  simp only [Typ,hu] at h
  obtain ⟨m,rfl,hw⟩:=h
  exact ⟨m,rfl,by simp [elemT,hu],hw⟩
theorem zE1 {n:Nat} {t e:TypeId} {cs:List T} (hu:P.underlying t=some (.slice e)) (h:Typ P n t cs):∃ (m:Nat) (es:List (List T)),n=m + 1∧cs=[.slice (es.map (elemT P e))]∧elemT P t cs=.slice (es.map (elemT P e))∧es.length≤maxLen ∧ ∀ x∈es,Typ P m e x:=by
 cases n with
 | zero=>exact h.elim
 | succ n =>
  simp only [Typ,hu] at h
  obtain ⟨es,rfl,hl,he⟩:=h
  exact ⟨n,es,rfl,rfl,by simp [elemT,hu],hl,he⟩
def zCq (P:Program):List TypeId→List T→Prop
 | [],xs=>xs=[]
 | t::ts,xs=>∃ x r,xs=x::r∧(∃ n cs,x=elemT P t cs∧Typ P n t cs)∧zCq P ts r
theorem zu7 {Ts:List TypeId} (hc:zsE P Ts=true) {r:Reach} {b0:Nat}:∀ (ts:List TypeId) (vs:List Value) (ds:List (DataW H)) (ps:List MemPlace),ts.all (Ts.contains ·)=true→(∀ (j:Nat) t v,ts[j]? = some t→vs[j]? = some v→Value.okWide P w r b0 t v) →
  DataW.TrodAll enc P w 0 spare true ts vs ds ps→∃ xs,zCq P ts xs∧xs.length=vs.length ∧ ∀ (j:Nat) x v,xs[j]? = some x→vs[j]? = some v→RepT (G0 w).rd x v
 | [],vs,ds,ps,_,_,h=>by
  obtain ⟨rfl,rfl,rfl⟩:=trodAll_nil h
  exact ⟨[],rfl,rfl,by simp⟩
 | t::ts,vs,ds,ps,ha,hv,h=>by
  obtain ⟨v0,vs0,d0,ds0,p0,q0,rfl,rfl,rfl,h0,r0⟩:=trodAll_cons h
  simp only [List.all_cons,Bool.and_eq_true,List.contains_iff_mem] at ha
  obtain ⟨n,cs,g1,g2⟩:=arg_rep hc ha.1 (hv 0 t v0 rfl rfl) h0
  obtain ⟨xs,e1,e2,e3⟩:=zu7 hc ts vs0 ds0 q0 ha.2 (fun j t v hj hk=>hv (j + 1) t v (by simpa using hj) (by simpa using hk)) r0
  refine ⟨_::xs,⟨_,_,rfl,⟨n,cs,rfl,g1⟩,e1⟩,by simp [e2],fun j x v hj hk=>?_⟩
  cases j with
  | zero=>simp at hj hk; subst hj hk; exact g2
  | succ j=>simp at hj hk; exact e3 j x v hj hk
theorem zyS {W W':World} (hl:laidOutB P=true) (hb:Below W.heap.size W W'):∀ (ts:List TypeId) (vs:List Value) (ds:List (DataW H)) (ps:List MemPlace),(∀ x∈ps,x.block < W.heap.size)→ts.all (fun t=>P.readableRec t && decide (t < P.types.size))=true →
  DataW.TrodAll enc P W 0 (fun _=>true) true ts vs ds ps→DataW.TrodAll enc P W' 0 (fun b=>decide (b < W.heap.size)) true ts vs ds ps
 | [],vs,ds,ps,_,_,h=>by
  obtain ⟨rfl,rfl,rfl⟩:=trodAll_nil h
  exact trodAll_mk0
 | t::ts,vs,ds,ps,hlt,ha,h=>by
  obtain ⟨v0,vs0,d0,ds0,p0,q0,rfl,rfl,rfl,h0,r0⟩:=trodAll_cons h
  simp only [List.all_cons,Bool.and_eq_true,decide_eq_true_eq] at ha
  exact trodAll_cons_mk (Below.trod hl ha.1.1 ha.1.2 h0 hb (fun x hx=>hlt x (List.mem_append_left _ hx))) (zyS hl hb ts vs0 ds0 q0 (fun x hx=>hlt x (List.mem_append_right _ hx)) ha.2 r0)
theorem zzZ {f:FuncId} {fn:Func} {s:ChangeSpec} {tb:TypeId} {Ts:List TypeId} (hres:fn.resultTypes = #[tb]) (htb:P.underlying tb=some .bool) (hl:laidOutB P=true) (hrd:fn.params.toList.all (fun t=>P.readableRec t && decide (t < P.types.size))=true)
  (hv:s.vars=[]) (hs:∀ ds:List (DataW H),ds.length=fn.params.size→(s.fn H ds).results=[.lit (.bool true)]∧(s.fn H ds).args=ds∧(s.fn H ds).vars=[]) (hc:zsE P Ts=true) (hp:fn.params.toList.all (Ts.contains ·)=true)
  (hf:∀ xs,zCq P fn.params.toList xs→Fn P f [] (xs.map .p) (.p (.bool true)) []) (W:World) (base:Nat) (args:Array Value) (ds gs:List (DataW H)) (before:List MemPlace)
  (hval:∀ (j:Nat) t v,fn.params[j]? = some t→args[j]? = some v→Value.okWide P W .any base t v) (hW:DataW.Whole enc P fn.params.toList s.vars false W args.toList ds gs before) (hT:zzo W) :
  Calls P f args W fun e W'=>∃ v,e=.returned v∧s.post enc P fn false true false false W args v W':=by
 have hW':=hW
 obtain ⟨p,q,hA,hV,rfl,_,_⟩:=hW
 rw [hv] at hV
 obtain ⟨rfl,rfl⟩:=trodVars_none hV
 obtain ⟨xs,h1,h2,h3⟩:=zu7 hc _ _ _ _ hp (fun j t v hj hk=>hval j t v (by simpa using hj) (by simpa using hk)) hA
 have hds:ds.length=fn.params.size:=by simpa using (trodAll_length hA).2
 obtain ⟨s1,s2,s3⟩:=hs ds hds
 refine ((hf xs h1).2 W (G0 W) args (inv0 hT) ⟨by simpa using h2.symm,fun j x hj=>?_⟩).mono ?_
 ·simp only [List.getElem?_map,Option.map_eq_some_iff] at hj
  obtain ⟨t,ht,rfl⟩:=hj
  have hlt:j < args.size:=by have:=(List.getElem?_eq_some_iff.1 ht).1; simp at h2; omega
  refine .p _ _ (h3 j t _ ht ?_)
  simp [Array.getD_eq_getD_getElem?,Array.getElem?_eq_getElem hlt]
 ·rintro e W' ⟨v,G',rfl,hr,_,hm⟩
  have hb:=zDk hm
  have:v=.bool true:=zat.1 hr
  subst this
  refine ⟨_,rfl,ds,[],_,[],p,[],hW', ?_, ?_, ?_,hb.frame _,fun h=>by cases h⟩
  ·rw [List.append_nil,s1,hres]
   exact trodAll_cons_mk (shut_bool htb _) trodAll_mk0
  ·rw [List.append_nil,s2]
   exact zyS hl hb _ _ _ _ (fun x hx=>hW'.lt x (by simpa using hx)) hrd hA
  ·rw [List.append_nil,s3,hv]
   exact rfl
end Go.Abs
end

section
/- How the texts over trees are reckoned: one lemma for each operation, for 'simp'; the rules for calls and loops. -/
namespace Go.Abs
variable {P:Program} {K:AV→Prop} {K2:AV→List Ob→Prop} {H:List Ob} {k:IntKind} {a b:Int} {bb bp:Bool}
@[simp ↓] theorem aPick_eq {x:Bool} {u v:AV}:aPick (.p (.bool x)) u v K=cond x (K u) (K v):=rfl
@[simp ↓] theorem aBin_add:aBin bb bp .add (.p (.int k a)) (.p (.int k b)) K=K (.p (.int k (k.wrap (a + b)))):=by simp [aBin,zdM]
@[simp ↓] theorem aBin_sub:aBin bb bp .sub (.p (.int k a)) (.p (.int k b)) K=K (.p (.int k (k.wrap (a - b)))):=by simp [aBin,zdM]
@[simp ↓] theorem aBin_mul:aBin bb bp .mul (.p (.int k a)) (.p (.int k b)) K=K (.p (.int k (k.wrap (a * b)))):=by simp [aBin,zdM]
@[simp ↓] theorem aBin_quo:aBin bb bp .quo (.p (.int k a)) (.p (.int k b)) K=(b≠0∧K (.p (.int k (k.wrap (a.tdiv b))))):=by simp [aBin,zdM]
@[simp ↓] theorem aBin_rem:aBin bb bp .rem (.p (.int k a)) (.p (.int k b)) K=(b≠0∧K (.p (.int k (a.tmod b)))):=by simp [aBin,zdM]
@[simp ↓] theorem aBin_shl {k':IntKind}:aBin bb bp .shl (.p (.int k a)) (.p (.int k' b)) K=(0≤b∧K (.p (.int k (k.wrap (a * 2 ^ (min b.toNat k.bits)))))):=rfl
@[simp ↓] theorem aBin_shr {k':IntKind}:aBin bb bp .shr (.p (.int k a)) (.p (.int k' b)) K=(0≤b∧K (.p (.int k (a.fdiv (2 ^ (min b.toNat k.bits)))))):=rfl
@[simp ↓] theorem aBin_and:aBin bb bp .and (.p (.int k a)) (.p (.int k b)) K=K (.p (.int k (k.wrap (BitVec.ofInt k.bits a &&& BitVec.ofInt k.bits b).toNat))):=by simp [aBin,zdM]
@[simp ↓] theorem aBin_or:aBin bb bp .or (.p (.int k a)) (.p (.int k b)) K=K (.p (.int k (k.wrap (BitVec.ofInt k.bits a ||| BitVec.ofInt k.bits b).toNat))):=by simp [aBin,zdM]
@[simp ↓] theorem aBin_xor:aBin bb bp .xor (.p (.int k a)) (.p (.int k b)) K=K (.p (.int k (k.wrap (BitVec.ofInt k.bits a ^^^ BitVec.ofInt k.bits b).toNat))):=by simp [aBin,zdM]
@[simp ↓] theorem aBin_eql:aBin bb bp .eql (.p (.int k a)) (.p (.int k b)) K=K (.p (.bool (decide (a=b)))):=by simp [aBin,zdM]; rfl
@[simp ↓] theorem aBin_neq:aBin bb bp .neq (.p (.int k a)) (.p (.int k b)) K=K (.p (.bool (decide (a≠b)))):=by
 simp only [aBin,zdM,true_and]
 congr 3
 cases h:decide (a≠b) <;> simp_all
@[simp ↓] theorem aBin_lss:aBin bb bp .lss (.p (.int k a)) (.p (.int k b)) K=K (.p (.bool (decide (a < b)))):=by simp [aBin,zdM]
@[simp ↓] theorem aBin_leq:aBin bb bp .leq (.p (.int k a)) (.p (.int k b)) K=K (.p (.bool (decide (a≤b)))):=by simp [aBin,zdM]
@[simp ↓] theorem aBin_gtr:aBin bb bp .gtr (.p (.int k a)) (.p (.int k b)) K=K (.p (.bool (decide (b < a)))):=by simp [aBin,zdM]
@[simp ↓] theorem aBin_geq:aBin bb bp .geq (.p (.int k a)) (.p (.int k b)) K=K (.p (.bool (decide (b≤a)))):=by simp [aBin,zdM]
@[simp ↓] theorem aBin_addS {x y:List UInt8}:aBin bb bp .add (.p (.str x)) (.p (.str y)) K=(x.length + y.length≤maxLen∧K (.p (.str (x++y)))):=rfl
@[simp ↓] theorem aBin_eqlS {x y:List UInt8}:aBin bb bp .eql (.p (.str x)) (.p (.str y)) K=K (.p (.bool (decide (x=y)))):=by
 simp only [aBin,zAh]
 congr 3
 cases h:decide (x=y) <;> simp_all
@[simp ↓] theorem aBin_neqS {x y:List UInt8}:aBin bb bp .neq (.p (.str x)) (.p (.str y)) K=K (.p (.bool (decide (x≠y)))):=by
 simp only [aBin,zAh]
 congr 3
 cases h:decide (x=y) <;> simp_all
@[simp ↓] theorem aBin_lssS {x y:List UInt8}:aBin bb bp .lss (.p (.str x)) (.p (.str y)) K=K (.p (.bool (Op.bytesLess x y))):=rfl
@[simp ↓] theorem aBin_eqlB {x y:Bool}:aBin true bp .eql (.p (.bool x)) (.p (.bool y)) K=K (.p (.bool (x == y))):=by simp [aBin,eqBin]
@[simp ↓] theorem aBin_neqB {x y:Bool}:aBin true bp .neq (.p (.bool x)) (.p (.bool y)) K=K (.p (.bool (!(x == y)))):=by simp [aBin,eqBin]
@[simp ↓] theorem aNil_eq1:aNil true .eql .nils K=K (.p (.bool true)):=by simp [aNil]
@[simp ↓] theorem aNil_eq2 {es:List T}:aNil true .eql (.nns es) K=K (.p (.bool false)):=by simp [aNil]
@[simp ↓] theorem aNil_ne1:aNil true .neq .nils K=K (.p (.bool false)):=by simp [aNil]
@[simp ↓] theorem aNil_ne2 {es:List T}:aNil true .neq (.nns es) K=K (.p (.bool true)):=by simp [aNil]
@[simp ↓] theorem aNil_eq3 {i v s o n:Nat}:aNil true .eql (.msl i v s o n) K=(0 < n∧K (.p (.bool false))):=by simp [aNil]
@[simp ↓] theorem aNil_ne3 {i v s o n:Nat}:aNil true .neq (.msl i v s o n) K=(0 < n∧K (.p (.bool true))):=by simp [aNil]
@[simp ↓] theorem aNil_eq4 {es:List T}:aNil true .eql (.p (.slice es)) K=(es≠[]∧K (.p (.bool false))):=by simp [aNil,AV.elems]
@[simp ↓] theorem aNil_ne4 {es:List T}:aNil true .neq (.p (.slice es)) K=(es≠[]∧K (.p (.bool true))):=by simp [aNil,AV.elems]
@[simp] theorem elems_nils:AV.nils.elems=some []:=rfl
@[simp] theorem elems_nns {es:List T}:(AV.nns es).elems=some es:=rfl
@[simp ↓] theorem aUn_not {x:Bool}:aUn .not (.p (.bool x)) K=K (.p (.bool (!x))):=rfl
@[simp ↓] theorem aUn_neg:aUn .neg (.p (.int k a)) K=K (.p (.int k (k.wrap (0 - a)))):=rfl
@[simp ↓] theorem aConvInt_eq {k':IntKind}:zhi k (.p (.int k' a)) K=K (.p (.int k (k.wrap a))):=rfl
@[simp ↓] theorem aConvStr_eq {x:List UInt8}:zvJ (.p (.str x)) K=K (.p (.str x)):=rfl
@[simp ↓] theorem zGu {x:List UInt8}:zql (.p (.str x)) K=K (.p (.slice (x.map byteT))):=rfl
@[simp ↓] theorem aNilCheck_b {i o:Nat}:zbz (.bptr i o) K=K (.bptr i o):=rfl
@[simp ↓] theorem aNilCheck_i {cs:List T} {o:Nat}:zbz (.p (.imm cs o)) K=K (.p (.imm cs o)):=rfl
@[simp ↓] theorem aNilCheck_m {i v s j o:Nat}:zbz (.mptr i v s j o) K=K (.mptr i v s j o):=rfl
@[simp ↓] theorem aBind_b {f i o:Nat}:aBind f (.bptr i o) H K2=K2 (.bnd f i o) H:=rfl
@[simp] theorem zGB {f i o:Nat}:(AV.bnd f i o).storable=true:=rfl
@[simp] theorem cells_bnd {f i o:Nat}:(AV.bnd f i o).cells=[.bnd f i o]:=rfl
@[simp] theorem zGk {i:Nat}:(AV.mapr i).storable=true:=rfl
@[simp] theorem cells_mapr {i:Nat}:(AV.mapr i).cells=[.mapr i]:=rfl
@[simp ↓] theorem zGf {f i o:Nat}:zbz (.bnd f i o) K=K (.bnd f i o):=rfl
@[simp ↓] theorem aNilCheck_c {f:Nat} {cs:List (Nat×Nat)}:zbz (.mclo f cs) K=K (.mclo f cs):=rfl
@[simp ↓] theorem aNilCheck_f {f:Nat} {cs:List T}:zbz (.p (.func f cs)) K=K (.p (.func f cs)):=rfl
@[simp ↓] theorem zGn {i o off:Nat}:za off (.bptr i o) K=K (.bptr i (o + off)):=rfl
@[simp ↓] theorem zGo {cs:List T} {o off:Nat}:za off (.p (.imm cs o)) K=K (.p (.imm cs (o + off))):=rfl
@[simp ↓] theorem zGp {i v s j o off:Nat}:za off (.mptr i v s j o) K=K (.mptr i v s j (o + off)):=rfl
@[simp ↓] theorem aField_agg {agg:Bool} {off s:Nat} {cs:List AV}:zvM agg off s (.agg cs) K=(off + s≤cs.length∧K (if agg then .agg ((cs.drop off).take s) else cs.getD off .top)):=rfl
@[simp ↓] theorem aField_p {agg:Bool} {off s:Nat} {cs:List T}:zvM agg off s (.p (.agg cs)) K=(off + s≤cs.length∧K (.p (if agg then .agg ((cs.drop off).take s) else cs.getD off default))):=rfl
@[simp] theorem elems_p {es:List T}:(AV.p (.slice es)).elems=some es:=rfl
@[simp] theorem elems_full {es:List T}:(AV.full es).elems=some es:=rfl
@[simp] theorem elems_own {i:Nat} {es:List T}:(AV.own i es).elems=some es:=rfl
@[simp ↓] theorem zGr {s:Nat} {es:List T}:zb s (.p (.slice es)) (.p (.int k a)) K=((0≤a∧a < es.length)∧(es.getD a.toNat default).cells.length=s∧K (.p (.imm (es.getD a.toNat default).cells 0))):=rfl
@[simp ↓] theorem zFa {s:Nat} {es:List T}:zb s (.full es) (.p (.int k a)) K=((0≤a∧a < es.length)∧(es.getD a.toNat default).cells.length=s∧K (.p (.imm (es.getD a.toNat default).cells 0))):=rfl
@[simp ↓] theorem zFh {s i:Nat} {es:List T}:zb s (.own i es) (.p (.int k a)) K=((0≤a∧a < es.length)∧(es.getD a.toNat default).cells.length=s∧K (.p (.imm (es.getD a.toNat default).cells 0))):=rfl
@[simp ↓] theorem zGq {s i v s' o n:Nat}:zb s (.msl i v s' o n) (.p (.int k a)) K=(s'=s∧(0≤a∧a < n)∧K (.mptr i v s (o + a.toNat) 0)):=rfl
@[simp ↓] theorem aIndex_eq {x:List UInt8}:zkr (.p (.str x)) (.p (.int k a)) K=((0≤a∧a < x.length)∧K (.p (byteT (x.getD a.toNat 0)))):=rfl
@[simp ↓] theorem boundK_none {d:Int} {Q:Int→Prop}:zc8 none d Q=Q d:=rfl
@[simp ↓] theorem boundK_some {d:Int} {Q:Int→Prop}:zc8 (some (.p (.int k a))) d Q=Q a:=rfl
@[simp ↓] theorem aSlice_str {s:Nat} {x:List UInt8} {lo hi:Option AV}:zbg true s (.p (.str x)) lo hi none K=zc8 lo 0 fun l=>zc8 hi x.length fun h=>(0≤l∧l≤h∧h≤x.length)∧K (.p (.str ((x.take h.toNat).drop l.toNat))):=rfl
@[simp ↓] theorem aSlice_p {s:Nat} {es:List T} {lo hi mx:Option AV}:zbg false s (.p (.slice es)) lo hi mx K=zbU s es lo hi mx K:=rfl
@[simp ↓] theorem aSlice_full {s:Nat} {es:List T} {lo hi mx:Option AV}:zbg false s (.full es) lo hi mx K=zbU s es lo hi mx K:=rfl
@[simp ↓] theorem aSlice_own {s i:Nat} {es:List T} {lo hi mx:Option AV}:zbg false s (.own i es) lo hi mx K=zbU s es lo hi mx K:=rfl
@[simp ↓] theorem aSlice_m {s i v s' o n:Nat} {lo hi mx:Option AV}:zbg false s (.msl i v s' o n) lo hi mx K=zj7 s i v s' o n lo hi mx K:=rfl
@[simp ↓] theorem aExtract_eq {vs:List AV} {i:Nat}:zB (.tup vs) i K=(i < vs.length∧K (vs.getD i .top)):=rfl
@[simp ↓] theorem aLen_str {x:List UInt8}:aLen false true (.p (.str x)) K=(x.length≤maxLen→K (.p (.int .i64 x.length))):=rfl
@[simp ↓] theorem aLen_p {es:List T}:aLen false false (.p (.slice es)) K=(es.length≤maxLen→K (.p (.int .i64 es.length))):=rfl
@[simp ↓] theorem aLen_full {es:List T}:aLen false false (.full es) K=(es.length≤maxLen→K (.p (.int .i64 es.length))):=rfl
@[simp ↓] theorem aLen_own {i:Nat} {es:List T}:aLen false false (.own i es) K=(es.length≤maxLen→K (.p (.int .i64 es.length))):=rfl
@[simp ↓] theorem aLen_m {i v s o n:Nat}:aLen false false (.msl i v s o n) K=(n≤maxLen→K (.p (.int .i64 n))):=rfl
@[simp ↓] theorem aLenD_m {i v s o n:Nat}:aLen true false (.msl i v s o n) K=(n≤maxLen∧K (.p (.int .i64 n))):=rfl
@[simp ↓] theorem aLenD_str {x:List UInt8}:aLen true true (.p (.str x)) K=(x.length≤maxLen∧K (.p (.int .i64 x.length))):=rfl
@[simp ↓] theorem aLenD_p {es:List T}:aLen true false (.p (.slice es)) K=(es.length≤maxLen∧K (.p (.int .i64 es.length))):=rfl
@[simp ↓] theorem aLenD_full {es:List T}:aLen true false (.full es) K=(es.length≤maxLen∧K (.p (.int .i64 es.length))):=rfl
@[simp ↓] theorem aLenD_own {i:Nat} {es:List T}:aLen true false (.own i es) K=(es.length≤maxLen∧K (.p (.int .i64 es.length))):=rfl
@[simp ↓] theorem aBuild_eq {z:List AV} {ps:List (Nat×Nat×AV)}:zp z ps K=aFill z ps fun cs=>K (.agg cs):=rfl
@[simp ↓] theorem aFill_nil {cs:List AV} {Q:List AV→Prop}:aFill cs [] Q=Q cs:=rfl
@[simp ↓] theorem aFill_cons {cs:List AV} {off s:Nat} {v:AV} {r:List (Nat×Nat×AV)} {Q:List AV→Prop} :
  aFill cs ((off,s,v)::r) Q=((v.storable=true∧v.cells.length=s∧off + s≤cs.length)∧aFill (put cs off v.cells) r Q):=rfl
@[simp ↓] theorem zFg {s:Nat} {vs:List AV}:zk s vs K=zgB s vs fun es=>K (.full es):=rfl
@[simp ↓] theorem aElems_nil {s:Nat} {Q:List T→Prop}:zgB s [] Q=Q []:=rfl
@[simp ↓] theorem aElems_p {s:Nat} {r:List AV} {t:T} {Q:List T→Prop}:zgB s (.p t::r) Q=(t.cells.length=s∧zgB s r fun ts=>Q (t::ts)):=rfl
@[simp ↓] theorem aElems_full {s:Nat} {r:List AV} {es:List T} {Q:List T→Prop}:zgB s (.full es::r) Q=(1=s∧zgB s r fun ts=>Q (.slice es::ts)):=rfl
@[simp ↓] theorem aElems_own {s i:Nat} {r:List AV} {es:List T} {Q:List T→Prop}:zgB s (.own i es::r) Q=(1=s∧zgB s r fun ts=>Q (.slice es::ts)):=rfl
@[simp ↓] theorem aElems_agg {s:Nat} {r cs:List AV} {Q:List T→Prop}:zgB s (.agg cs::r) Q=(match allT cs with
  | some ts=>ts.length=s∧zgB s r fun us=>Q (.agg ts::us)
  | none=>False):=by
 simp only [zgB,AV.toT]
 cases allT cs <;> rfl
@[simp ↓] theorem aCalm_nil {p:Prop}:aCalm [] p=p:=rfl
@[simp ↓] theorem aCalm_p {p:Prop} {l:List AV} {t:T}:aCalm ((.p t)::l) p=aCalm l p:=rfl
@[simp ↓] theorem aCalm_full {p:Prop} {l:List AV} {es:List T}:aCalm ((.full es)::l) p=aCalm l p:=rfl
@[simp ↓] theorem aCalm_own {p:Prop} {l:List AV} {i:Nat} {es:List T}:aCalm ((.own i es)::l) p=aCalm l p:=rfl
@[simp ↓] theorem aCalm_bptr {p:Prop} {l:List AV} {i o:Nat}:aCalm ((.bptr i o)::l) p=aCalm l p:=rfl
@[simp ↓] theorem aCalm_nils {p:Prop} {l:List AV}:aCalm (.nils::l) p=aCalm l p:=rfl
@[simp ↓] theorem aCalm_nns {p:Prop} {l:List AV} {es:List T}:aCalm ((.nns es)::l) p=aCalm l p:=rfl
@[simp ↓] theorem aCalm_agg {p:Prop} {l:List AV} {vs:List AV}:aCalm ((.agg vs)::l) p=aCalm l p:=rfl
@[simp ↓] theorem aCalm_top {p:Prop} {l:List AV}:aCalm (.top::l) p=aCalm l p:=rfl
@[simp ↓] theorem aCalm_mclo {p:Prop} {l:List AV} {i:Nat} {cs:List (Nat×Nat)}:aCalm ((.mclo i cs)::l) p=aCalm l p:=rfl
@[simp ↓] theorem aCalm_mptr {p:Prop} {l:List AV} {i v s j o:Nat}:aCalm ((.mptr i v s j o)::l) p=aCalm l p:=rfl
@[simp ↓] theorem aLoadD_p {agg:Bool} {s:Nat} {t:T}:zzr agg s (.p t) H K=aLoad agg s (.p t) H K:=rfl
@[simp ↓] theorem aLoadD_b {agg:Bool} {s i off:Nat}:zzr agg s (.bptr i off) H K=aLoad agg s (.bptr i off) H K:=rfl
@[simp ↓] theorem aLoad_i {agg:Bool} {s off:Nat} {cs:List T}:aLoad agg s (.p (.imm cs off)) H K=(off + s≤cs.length∧K (.p (if agg then .agg ((cs.drop off).take s) else cs.getD off default))):=rfl
@[simp ↓] theorem aLoad_b {agg:Bool} {s i off:Nat}:aLoad agg s (.bptr i off) H K=(match H[i]? with
  | some (.box cells)=>off + s≤cells.length∧K (if agg then .agg ((cells.drop off).take s) else cells.getD off .top)
  | some (.fz cs)=>off + s≤cs.length∧K (.p (if agg then .agg ((cs.drop off).take s) else cs.getD off default))
  | _=>False):=rfl
@[simp ↓] theorem aLoad_m {agg:Bool} {s i v s' j off:Nat}:aLoad agg s (.mptr i v s' j off) H K=(match H[i]? with
  | some (.mrow v2 s2 es)=>(v2=v∧s2=s'∧j < es.length∧off + s≤s')∧K (.p (if agg then .agg (((es.getD j default).cells.drop off).take s) else (es.getD j default).cells.getD off default))
  | some (.frow v2 s2 es)=>(v2=v∧s2=s'∧j < es.length∧off + s≤s')∧K (.p (if agg then .agg (((es.getD j default).cells.drop off).take s) else (es.getD j default).cells.getD off default))
  | _=>False):=rfl
@[simp ↓] theorem aStore_m {s i v s' j off:Nat} {u:AV}:zi s (.mptr i v s' j off) u H K2=(match H[i]? with
  | some (.mrow v2 s2 es)=>match allT u.cells with
   | some ts=>(u.storable=true∧ts.length=s∧0 < s∧v2=v∧s2=s'∧j < es.length∧off + s≤s')∧K2 .top (H.set i (.mrow v s' (es.set j ((es.getD j default).putT off ts))))
   | none=>zbn [u] H fun cs H1=>(u.storable=true∧s=1∧v2=v∧s2=s'∧j < es.length∧off + 1≤s'∧H1.length=H.length∧H1[i]? = some (.mrow v2 s2 es) ∧ ∃ ts o,cs=[.imm ts o])∧K2 .top (H1.set i (.mrow v s' (es.set j ((es.getD j default).putT off cs))))
  | _=>False):=rfl
@[simp] theorem putT_agg {cs ts:List T} {off:Nat}:(T.agg cs).putT off ts=.agg (put cs off ts):=rfl
@[simp] theorem putT_int {k k':IntKind} {m n:Int} {off:Nat}:(T.int k m).putT off [.int k' n]=.int k' n:=rfl
@[simp] theorem putT_bool {x y:Bool} {off:Nat}:(T.bool x).putT off [.bool y]=.bool y:=rfl
@[simp] theorem putT_slice {x y:List T} {off:Nat}:(T.slice x).putT off [.slice y]=.slice y:=rfl
@[simp] theorem zGz {x:Value} {y:List T} {o off:Nat}:(T.raw x).putT off [.imm y o]=.imm y o:=rfl
@[simp] theorem zGC {i v s o n:Nat}:(AV.msl i v s o n).storable=true:=rfl
@[simp] theorem zGl {f:Nat} {cs:List (Nat×Nat)}:(AV.mclo f cs).storable=true:=rfl
@[simp] theorem cells_msl {i v s o n:Nat}:(AV.msl i v s o n).cells=[.msl i v s o n]:=rfl
@[simp] theorem cells_bptr {i o:Nat}:(AV.bptr i o).cells=[.bptr i o]:=rfl
@[simp] theorem cells_mclo {f:Nat} {cs:List (Nat×Nat)}:(AV.mclo f cs).cells=[.mclo f cs]:=rfl
@[simp ↓] theorem aStore_b {s i off:Nat} {v:AV}:zi s (.bptr i off) v H K2=(match H[i]? with
  | some (.box cells)=>(v.storable=true∧v.cells.length=s∧off + s≤cells.length)∧K2 .top (H.set i (.box (put cells off v.cells)))
  | _=>False):=rfl
@[simp ↓] theorem aAlloc_eq {z:List AV}:zy z H K2=K2 (.bptr H.length 0) (H++[.box z]):=rfl
@[simp ↓] theorem aBox_eq {v:AV}:aBox v H K2=(v.storable=true∧K2 (.bptr H.length 0) (H++[.box v.cells])):=rfl
@[simp ↓] theorem aMake_eq {s:Nat} {z:List AV} {ts:List T} {k':IntKind} (h:allT z=some ts):aMake s z (.p (.int k a)) (.p (.int k' b)) H K2=((a=b∧0≤a∧a≤2 ^ 20∧ts.length=s)∧K2 (.msl H.length 0 s 0 a.toNat) (H++[.mrow 0 s (List.replicate a.toNat (elemZ ts))])):=by simp only [aMake,h]
@[simp] theorem storable_p {t:T}:(AV.p t).storable=true:=rfl
@[simp] theorem zGj {es:List T}:(AV.full es).storable=true:=rfl
@[simp] theorem zGD {i:Nat} {es:List T}:(AV.own i es).storable=true:=rfl
@[simp] theorem zGA {cs:List AV}:(AV.agg cs).storable=true:=rfl
@[simp] theorem zGi {i o:Nat}:(AV.bptr i o).storable=true:=rfl
@[simp] theorem cells_full {es:List T}:(AV.full es).cells=[.full es]:=rfl
@[simp] theorem cells_own {i:Nat} {es:List T}:(AV.own i es).cells=[.own i es]:=rfl
@[simp] theorem cells_agg {cs:List AV}:(AV.agg cs).cells=cs:=rfl
@[simp] theorem cells_p {t:T}:(AV.p t).cells=t.cells.map .p:=rfl
@[simp] theorem tcells_agg {cs:List T}:(T.agg cs).cells=cs:=rfl
@[simp] theorem tcells_int {n:Int}:(T.int k n).cells=[.int k n]:=rfl
@[simp] theorem tcells_bool {x:Bool}:(T.bool x).cells=[.bool x]:=rfl
@[simp] theorem tcells_str {x:List UInt8}:(T.str x).cells=[.str x]:=rfl
@[simp] theorem zGE {x:List T}:(T.slice x).cells=[.slice x]:=rfl
@[simp] theorem tcells_imm {x:List T} {o:Nat}:(T.imm x o).cells=[.imm x o]:=rfl
@[simp] theorem tcells_func {f:Nat} {x:List T}:(T.func f x).cells=[.func f x]:=rfl
@[simp ↓] theorem aAppend_p {s eb:Nat} {x:AV} {ms:List T}:zH false s eb x (.p (.slice ms)) H K2=zaz s eb x ms H K2:=rfl
@[simp ↓] theorem zGm {s eb:Nat} {x:AV} {ms:List T}:zH false s eb x (.full ms) H K2=zaz s eb x ms H K2:=rfl
@[simp ↓] theorem aAppend_own {s eb i:Nat} {x:AV} {ms:List T}:zH false s eb x (.own i ms) H K2=zaz s eb x ms H K2:=rfl
@[simp ↓] theorem aAppend_nns {s eb:Nat} {x:AV} {ms:List T}:zH false s eb x (.nns ms) H K2=zaz s eb x ms H K2:=rfl
@[simp ↓] theorem aAppend_str {s eb:Nat} {x:AV} {l:List UInt8}:zH true s eb x (.p (.str l)) H K2=zaz s eb x (l.map byteT) H K2:=rfl
@[simp] theorem moded_nil:moded []=false:=id rfl
@[simp] theorem moded_mode {l:List Ob}:moded (.mode::l)=true:=id rfl
@[simp] theorem moded_box {l:List Ob} {cs:List AV}:moded (.box cs::l)=false:=id rfl
@[simp] theorem moded_fz {l:List Ob} {cs:List T}:moded (.fz cs::l)=false:=id rfl
@[simp] theorem moded_row {l:List Ob} {n s:Nat}:moded (.row n s::l)=false:=id rfl
@[simp] theorem moded_mrow {l:List Ob} {v s:Nat} {es:List T}:moded (.mrow v s es::l)=false:=id rfl
@[simp] theorem moded_frow {l:List Ob} {v s:Nat} {es:List T}:moded (.frow v s es::l)=false:=id rfl
@[simp ↓] theorem zFf {s eb:Nat} {es ms:List T} (h:moded H=false):zaz s eb (.full es) ms H K2=(zbv s eb es ms∧K2 (.own H.length (es++ms)) (H++[.row (es.length + ms.length) s])):=by simp only [zaz,h]
@[simp ↓] theorem zE9 {s eb:Nat} {es ms:List T} (h:moded H=true):zaz s eb (.full es) ms H K2=((es=[]∧zbv s eb [] ms)∧K2 (.msl H.length 0 s 0 ms.length) (H++[.mrow 0 s ms])):=by simp only [zaz,h]
@[simp ↓] theorem aAppendTo_m {s eb i v s' n:Nat} {ms:List T}:zaz s eb (.msl i v s' 0 n) ms H K2=(match H[i]? with
  | some (.mrow v2 s2 es)=>(v2=v∧s'=s∧s2=s∧n≤es.length)∧zbv s eb (es.take n) ms∧K2 (.msl i (v + 1) s 0 (n + ms.length)) (H.set i (.mrow (v + 1) s (es.take n++ms)))
  | _=>False):=rfl
@[simp ↓] theorem aAppend_m {s eb i v s' o n:Nat} {x:AV}:zH false s eb x (.msl i v s' o n) H K2=(match H[i]? with
  | some (.mrow v2 s2 es)=>(v2=v∧s2=s'∧o + n≤es.length)∧zaz s eb x ((es.drop o).take n) H K2
  | some (.frow v2 s2 es)=>(v2=v∧s2=s'∧o + n≤es.length)∧zaz s eb x ((es.drop o).take n) H K2
  | _=>False):=rfl
@[simp ↓] theorem zGd {s eb i:Nat} {es ms:List T}:zaz s eb (.own i es) ms H K2=(match H[i]? with
  | some (.row n s')=>(s'=s∧n=es.length)∧zbv s eb es ms∧K2 (.own i (es++ms)) (H.set i (.row (n + ms.length) s))
  | _=>False):=rfl
@[simp] theorem stuckC_nil:zqb [] H=false:=id rfl
@[simp] theorem stuckC_b {i o:Nat} {r:List AV}:zqb (.bptr i o::r) H=((match H[i]? with
  | some (.box cells)=>(allT cells).isNone
  | _=>false) || zqb r H):=id rfl
@[simp ↓] theorem zGs {f:Nat} {caps:List AV} (h:moded H=false) (h2:zqb caps H=false):zaA f caps H K2=zbn caps H fun cs H'=>K2 (.p (.func f cs)) H':=by simp only [zaA,h,h2,Bool.or_false]
@[simp ↓] theorem aMakeFunc_S {f i o:Nat} {caps:List AV} {cs:List (Nat×Nat)} (h:zqb (.bptr i o::caps) H=true) (hb:boxes caps=some cs):zaA f (.bptr i o::caps) H K2=K2 (.mclo f ((i,o)::cs)) H:=by simp only [zaA,h,Bool.or_true,boxes,hb]
@[simp ↓] theorem zGe {f:Nat}:zaA f [] H K2=K2 (.p (.func f [])) H:=by
 simp only [zaA,boxes,zqb,Bool.or_false]
 cases moded H <;> rfl
@[simp ↓] theorem aMakeFunc_M {f i o:Nat} {caps:List AV} {cs:List (Nat×Nat)} (h:moded H=true) (hb:boxes caps=some cs):zaA f (.bptr i o::caps) H K2=K2 (.mclo f ((i,o)::cs)) H:=by simp only [zaA,h,boxes,hb,Bool.true_or]
attribute [simp] boxes
@[simp ↓] theorem aFreeze_nil {Q:List T→List Ob→Prop}:zbn [] H Q=Q [] H:=rfl
@[simp ↓] theorem aFreeze_b {i o:Nat} {r:List AV} {Q:List T→List Ob→Prop}:zbn (.bptr i o::r) H Q=(match H[i]? with
  | some (.box cells)=>match allT cells with
   | some ts=>zbn r (H.set i (.fz ts)) fun cs H'=>Q (.imm ts o::cs) H'
   | none=>False
  | some (.fz ts)=>zbn r H fun cs H'=>Q (.imm ts o::cs) H'
  | _=>False):=rfl
@[simp ↓] theorem aFreeze_i {ts:List T} {o:Nat} {r:List AV} {Q:List T→List Ob→Prop}:zbn (.p (.imm ts o)::r) H Q=zbn r H fun cs H'=>Q (.imm ts o::cs) H':=rfl
@[simp ↓] theorem aGuard_eq {x:Bool} {A B:Prop}:ze (.p (.bool x)) A B=((x=true→A)∧(x=false→B)):=by cases x <;> simp [ze]
@[simp ↓] theorem aLenS_str {x:List UInt8}:aLenS true (.p (.str x)) K=K (.p (.int .i64 x.length)):=rfl
@[simp ↓] theorem aLenS_p {es:List T}:aLenS false (.p (.slice es)) K=K (.p (.int .i64 es.length)):=rfl
@[simp ↓] theorem aLenS_full {es:List T}:aLenS false (.full es) K=K (.p (.int .i64 es.length)):=rfl
@[simp ↓] theorem aLenS_m {i v s o n:Nat}:aLenS false (.msl i v s o n) K=K (.p (.int .i64 n)):=rfl
@[simp ↓] theorem aLenS_own {i:Nat} {es:List T}:aLenS false (.own i es) K=K (.p (.int .i64 es.length)):=rfl
@[simp] theorem zCu {w x:Bool} {p:Prop} {E:(AV→Prop)→Prop}:zm w (.p (.bool x)) (fun Q=>p∧E Q) K=((x=w→p)∧zm w (.p (.bool x)) E K):=by
 apply propext
 simp only [zm]
 constructor
 ·rintro ⟨c,h1,h2⟩
  exact ⟨fun h=>(h1 h).1,c,fun h=>(h1 h).2,h2⟩
 ·rintro ⟨h0,c,h1,h2⟩
  exact ⟨c,fun h=>⟨h0 h,h1 h⟩,h2⟩
@[simp] theorem zGt {w x:Bool} {p:Prop} {E:(AV→Prop)→Prop}:zm w (.p (.bool x)) (fun Q=>E Q∧p) K=((x=w→p)∧zm w (.p (.bool x)) E K):=by
 rw [← zCu]
 congr 1
 funext Q
 exact propext And.comm
@[simp] theorem aMerge_end {w x e:Bool}:zm w (.p (.bool x)) (fun Q=>Q (.p (.bool e))) K=K (.p (.bool (cond w (x && e) (x || e)))):=by
 apply propext
 simp only [zm]
 constructor
 ·rintro ⟨c,h1,h2⟩
  by_cases h:x=w
  ·have:=h1 h
   simp at this
   subst this
   exact h2
  ·cases w <;> cases x <;> simp_all
 ·intro h
  exact ⟨e,fun _=>rfl,h⟩
theorem zz {w x:Bool} {E:(AV→Prop)→Prop} (c:Bool) (hE:x=w→E fun v=>v=.p (.bool c)) (hK:K (.p (.bool (cond w (x && c) (x || c))))):zm w (.p (.bool x)) E K:=⟨c,hE,hK⟩
attribute [simp] elemZ allT AV.cellT toTs AV.toT AV.ren AV.ren1 Ob.ren put
class Cont where
 k:AV→List Ob→Prop
class ContT where
 k:AV→Prop
def ztE (P:Program) (fv:AV) (args:List AV) (H:List Ob) [c:Cont]:Prop:=aCall P fv args H c.k
def zvy (P:Program) (fv:AV) (args:List AV) [c:ContT]:Prop:=zJ P fv args c.k
@[simp ↓] theorem aCall_W {fv:AV} {args:List AV}:aCall P fv args H K2 = @ztE P fv args H ⟨K2⟩:=rfl
@[simp ↓] theorem aCallT_W {fv:AV} {args:List AV}:zJ P fv args K = @zvy P fv args ⟨K⟩:=rfl
theorem zg {t t':T} (h:t=t'):Gives 0 (.p t) H (.p t') []:=by subst h; exact zj rfl
theorem zAL {fv:AV} {args:List AV} {f:Nat} {caps ts:List T} {r:AV} {Hn:List Ob} (hf:fv=.p (.func f caps)) (ha:toTs args=some ts) (h:Fn P f [] ((ts++caps).map .p) r Hn)
  (hk:K2 (r.shift H.length) (H++Hn.map (Ob.shift H.length))):aCall P fv args H K2:=⟨_,_,zyd hf ha h,hk⟩
theorem zo {c:Cont} {fv:AV} {args:List AV} {f:Nat} {caps ts:List T} {r:AV} {Hn:List Ob} (hf:fv=.p (.func f caps)) (ha:toTs args=some ts) (h:Fn P f [] ((ts++caps).map .p) r Hn)
  (hk:c.k (r.shift H.length) (H++Hn.map (Ob.shift H.length))):ztE P fv args H:=zAL hf ha h hk
@[simp] theorem firstsOf_p {t:T}:zeQ (.p t)=[]:=rfl
@[simp] theorem zGg {f:Nat} {cs:List (Nat×Nat)}:zeQ (.mclo f cs)=[]:=rfl
@[simp] theorem zGw {f i o:Nat}:zeQ (.bnd f i o)=[.bptr i o]:=rfl
theorem zqk {c:Cont} {fv:AV} {args caps args0:List AV} {f:Nat} {r:AV} {Hin Hout:List Ob} (ids:List Nat) (h:Fn P f Hin args0 r Hout) (hc:zvZ fv=some (f,caps)) (ha:zeQ fv++args++caps=args0.map (AV.ren (renF H ids))) (hnd:ids.Nodup)
  (hf:zcG (renF H ids) H ids Hin) (hu:args0.all (AV.under ids.length)=true) (hb:Hin.all (Ob.below ids.length)=true) (hk:c.k (r.ren (renF H ids)) (zfH H ids (Hout.map (Ob.ren (renF H ids))))):ztE P fv args H :=
 ⟨_,_,zoN ids hc h ha hnd hf hu hb,hk⟩
theorem zM {c:Cont} {args:List AV} {f:Nat} {caps ts:List T} {t:T} (ha:toTs args=some ts) (h:Fn P f [] ((ts++caps).map .p) (.p t) [])
  (hk:c.k (.p t) H):ztE P (.p (.func f caps)) args H:=zAL rfl ha h (by simpa using hk)
theorem zF {c:ContT} {args:List AV} {f:Nat} {caps ts:List T} {r r':AV} {Hn:List Ob} (ha:toTs args=some ts) (h:Fn P f [] ((ts++caps).map .p) r Hn) (hr:r.pur=some r') (hk:c.k r') :
  zvy P (.p (.func f caps)) args:=by
 simp only [zvy,zJ,ha]
 exact ⟨r,Hn,r',h,hr,hk⟩
theorem zCv {n:Nat} {p:List AV→Prop} (h:∀ xs:List AV,xs.length=n→p xs):allN n p:=by
 induction n generalizing p with
 | zero=>exact h [] rfl
 | succ n ih=>exact fun x=>ih fun xs hx=>h (x::xs) (by simp [hx])
theorem zzI (p:Nat→Prop):∀ n,p n→∃ n,p n ∧ ∀ m,p m→n≤m:=by
 intro n
 induction n using Nat.strongRecOn with
 | ind n ih =>
  intro h
  by_cases hx:∃ m,m < n∧p m
  ·obtain ⟨m,hm,hp⟩:=hx
   exact ih m hm hp
  ·exact ⟨n,h,fun m hm=>Nat.le_of_not_lt fun hl=>hx ⟨m,hl,hm⟩⟩
open Classical in
noncomputable def least (p:Nat→Prop):Nat:=if h:∃ n,p n ∧ ∀ m,p m→n≤m then h.choose else 0
theorem zxj {p:Nat→Prop} {n:Nat} (h:p n):p (least p) ∧ ∀ m,p m→least p≤m:=by
 have hx:=zzI p n h
 simp only [least,hx,dif_pos]
 exact hx.choose_spec
theorem zxh (x:AV):x.le1 x:=by
 cases x with
 | p t=>exact rfl
 | top=>exact trivial
 | _=>exact rfl
theorem zie {α:Type} {R:α→α→Prop} (h:∀ x,R x x):∀ xs:List α,all2 R xs xs
 | []=>trivial
 | x::xs=>⟨h x,zie h xs⟩
theorem le_refl (x:AV):x.le x:=by
 cases x with
 | agg cs=>exact zie zxh cs
 | _=>unfold AV.le; exact zxh _
theorem zxi (x:Ob):x.le x:=by
 cases x with
 | box cs=>exact zie zxh cs
 | mrow v s es=>exact ⟨rfl,rfl,List.prefix_rfl⟩
 | _=>exact rfl
theorem zuT:∀ (gs:List Gc) (t:List AV) (H:List Ob) (A B:List AV→List Ob→Prop),(∀ t H,A t H→B t H)→zbo gs t H A→zbo gs t H B:=by
 intro gs
 induction gs with
 | nil=>exact fun t H A B h=>h t H
 | cons g gs ih =>
  intro t H A B h hx
  simp only [zbo] at hx ⊢
  cases g with
  | slot i s =>
   simp only [ghost] at hx ⊢
   split at hx
   ·exact ih _ _ _ _ h hx
   ·exact ⟨hx.1,ih _ _ _ _ h hx.2⟩
   ·exact hx.elim
  | cell id off s =>
   simp only [ghost] at hx ⊢
   split at hx
   ·split at hx
    ·exact ih _ _ _ _ h hx
    ·exact hx.elim
   ·exact hx.elim
  | mslot i s =>
   simp only [ghost] at hx ⊢
   split at hx
   ·exact ih _ _ _ _ h hx
   ·exact hx.elim
  | mcell id off s =>
   simp only [ghost] at hx ⊢
   split at hx
   ·split at hx
    ·exact ih _ _ _ _ h hx
    ·exact hx.elim
   ·exact hx.elim
  | fslot i =>
   simp only [ghost] at hx ⊢
   split at hx
   ·split at hx
    ·exact ⟨hx.1,ih _ _ _ _ h hx.2⟩
    ·exact hx.elim
   ·exact hx.elim
theorem zD1 {σ:Type} {k n:Nat} {xs0:List AV} {body:List AV→List Ob→(List AV→List Ob→Prop)→Prop} (St:σ→List AV) (Hs:σ→List Ob) (I:σ→Prop) (m:σ→Nat) (gs:List Gc) (s0:σ)
  (hn:∀ s,(Hs s).length=n) (h0:zbo gs xs0 H fun xs H'=>all2 AV.le xs (St s0)∧all2 Ob.le H' (Hs s0)) (i0:I s0)
  (hb:∀ s (B:List AV→List Ob→Prop),I s→(∀ s' xs H2,I s'→m s' < m s→all2 AV.le xs (St s')→all2 Ob.le (H2.take n) (Hs s')→n≤H2.length→(St s').all (AV.under n)=true→(Hs s').all (Ob.below n)=true→B xs H2)→body (St s) (Hs s) B) :
  zD k xs0 H body:=by
 refine ⟨n,fun xs H'=>∃ s,I s∧xs=St s∧H'=Hs s,fun xs H'=>least fun v=>∃ s,I s∧xs=St s∧H'=Hs s∧m s=v,⟨gs,zuT _ _ _ _ _ (fun t H' ⟨h1,h2⟩=>⟨_,_,h1,h2,hn s0,s0,i0,rfl,rfl⟩) h0⟩,zCv fun xs hx H1 hl hI=>?_⟩
 obtain ⟨s1,hs1,rfl,rfl⟩:=hI
 obtain ⟨⟨s,hs,e1,e2,e3⟩,_⟩:=zxj (p:=fun v=>∃ s,I s∧St s1=St s∧Hs s1=Hs s∧m s=v) ⟨s1,hs1,rfl,rfl,rfl⟩
 rw [e1,e2]
 rw [e1,e2] at e3
 refine hb s _ hs (fun s' xs' H2 h1 h2 h3 h4 h5 h6 h7=>⟨_,_,⟨h3,h4,h5⟩,⟨h6,h7⟩,⟨s',h1,rfl,rfl⟩, ?_⟩)
 have:=(zxj (p:=fun v=>∃ t,I t∧St s'=St t∧Hs s'=Hs t∧m t=v) ⟨s',h1,rfl,rfl,rfl⟩).2 (m s') ⟨s',h1,rfl,rfl,rfl⟩
 exact Nat.lt_of_le_of_lt this (Nat.lt_of_lt_of_eq h2 e3)
attribute [simp] all2 AV.le AV.le1
@[simp] theorem leO_self {x:Ob}:x.le x↔True:=⟨fun _=>trivial,fun _=>zxi x⟩
@[simp] theorem leO_box {cs ds:List AV}:(Ob.box cs).le (.box ds)=all2 AV.le1 cs ds:=rfl
@[simp] theorem leO_mrow {v v' s s':Nat} {es es':List T}:(Ob.mrow v s es).le (.mrow v' s' es')=(v=v'∧s=s'∧es' <+: es):=rfl
@[simp] theorem leO_row {n n' s s':Nat}:(Ob.row n s).le (.row n' s')=(n=n'∧s=s'):=by simp [Ob.le]
@[simp] theorem leO_fz {cs ds:List T}:(Ob.fz cs).le (.fz ds)=(cs=ds):=by simp [Ob.le]
theorem zA {σ:Type} {k n:Nat} {xs0:List AV} {body:List AV→List Ob→(List AV→List Ob→Prop)→Prop} (St:σ→List AV) (Hs:σ→List Ob) (I:σ→Prop) (m:σ→Nat) (gs:List Gc) (s0:σ)
  (hn:∀ s,(Hs s).length=n) (h0:zbo gs xs0 H fun xs H'=>xs=St s0∧H'=Hs s0) (i0:I s0)
  (hb:∀ s (B:List AV→List Ob→Prop),I s→(∀ s' H2,I s'→m s' < m s→H2.take n=Hs s'→(H2.take n).all (Ob.below n)=true→n≤H2.length→(St s').all (AV.under n)=true→B (St s') H2)→body (St s) (Hs s) B) :
  zD k xs0 H body:=by
 refine zD1 St Hs I m gs s0 hn (zuT _ _ _ _ _ (fun t H' h=>by rw [h.1,h.2]; exact ⟨zie le_refl _,zie zxi _⟩) h0) i0 (fun s B hs hB=>hb s B hs (fun s' H2 h1 h2 h3 h4 h5 h6=>?_))
 refine hB s' _ H2 h1 h2 (zie le_refl _) (by rw [h3]; exact zie zxi _) h5 h6 (by rw [← h3]; exact h4)
end Go.Abs
end

section
/- Code in pieces: the walk over trees stops where the rest is to be taken by itself. -/
namespace Go.Abs
abbrev Ko:=AExit→List AV→List Ob→Prop
variable (P:Program) (ann:Nat→List Nat)
def awpX (self:Code→List AV→List Ob→Ko→Prop) (cut:Nat→Bool):Code→List AV→List Ob→Ko→Prop
 | .skip,t,H,K=>K .normal t H
 | .region id ops draw,t,H,K=>zsB P (ann (id + 3000000)) ops draw t H fun t' H'=>K .normal t' H'
 | .seq a b,t,H,K=>awpX self cut a t H fun e t' H'=>match e with
  | .normal=>match cut ((key b).getD 0) with
   | true=>self b (trimS ann b t') H' K
   | false=>zbi (trimS ann b t') fun t'=>awpX self cut b t' H' K
  | e=>K e t' H'
 | .cond c a b,t,H,K=>match mrgT ann c a b with
  | .no=>ze (rho t c) (zbi (lit t c true) fun t=>awpX self cut a t H K) (zbi (lit t c false) fun t=>awpX self cut b t H K)
  | .orr u=>zm false (t.getD u .top) (fun Q=>zbi (t.set u (.p (.bool false))) fun t=>awpX self cut b t H (kMrg u H Q)) (fun v=>zbi ((zek t (zbr b)).set u v) fun t=>K .normal t H)
  | .andd u=>zm true (t.getD u .top) (fun Q=>zbi (t.set u (.p (.bool true))) fun t=>awpX self cut a t H (kMrg u H Q)) (fun v=>zbi ((zek t (zbr a)).set u v) fun t=>K .normal t H)
 | .block id a,t,H,K=>awpX self cut a t H fun e t' H'=>match e with
  | .exit j=>match j == id with
   | true=>K .normal t' H'
   | false=>K (.exit j) t' H'
  | e=>K e t' H'
 | .loop a,t,H,K=>aLoop (ann ((key a).getD 0)) (zbr a) (awpX self cut a) t H K
 | .exit id,t,H,K=>K (.exit id) t H
 | .ret,t,H,K=>K .ret t H
 | _,_,_,_=>False
theorem zcO (cut:Nat→Bool):∀ (c:Code) (t:List AV) (H:List Ob) (K:Ko),awpX P ann (awp P ann) cut c t H K=awp P ann c t H K:=by
 intro c
 induction c with
 | seq a b iha ihb =>
  intro t H K
  simp only [awpX,awp,iha,zbm]
  congr 1
  funext e t' H'
  cases e with
  | normal=>simp only [ihb]; cases cut ((key b).getD 0) <;> rfl
  | _=>rfl
 | cond c a b iha ihb =>
  intro t H K
  simp only [awpX,awp,iha,ihb,zbm]
  try (cases mrgT ann c a b <;> rfl)
 | block id a iha =>
  intro t H K
  simp only [awpX,awp,iha]
  try congr 1
 | loop a iha =>
  intro t H K
  simp only [awpX,awp]
  congr 1
  funext t' H' K'
  exact iha t' H' K'
 | _=>intro t H K; first | rfl | simp [awpX,awp]
variable {P ann}
def kSeq (self:Code→List AV→List Ob→Ko→Prop) (b:Code) (ks:List Nat) (K:Ko):Ko:=fun e t' H'=>match e with
 | .normal=>self b (keepS ks 0 t') H' K
 | e=>K e t' H'
def kThen (x:AExit) (K:Ko):Ko:=fun e t' H'=>match e with
 | .normal=>K x t' H'
 | e=>K e t' H'
def zxg (id:Nat) (K:Ko):Ko:=fun e t' H'=>match e with
 | .exit j=>match j == id with
  | true=>K .normal t' H'
  | false=>K (.exit j) t' H'
 | e=>K e t' H'
def kLoop (keep:List Nat) (B:List AV→List Ob→Prop) (K:Ko):Ko:=fun e t2 H2=>match e with
 | .normal=>B (keep.map fun k=>t2.getD k .top) H2
 | e=>K e t2 H2
def kEnd (P:Program) (rs:List ResultVar) (K:AV→List Ob→Prop):Ko:=fun e t H=>match e with
 | .exit _=>False
 | _=>aRes P rs t H fun vs=>K (tupOf vs) H
variable {self:Code→List AV→List Ob→Ko→Prop} {b:Code} {K:Ko} {t:List AV} {H:List Ob}
@[simp ↓] theorem kSeq_normal {ks:List Nat}:kSeq self b ks K .normal t H=self b (keepS ks 0 t) H K:=rfl
@[simp ↓] theorem kSeq_ret {ks:List Nat}:kSeq self b ks K .ret t H=K .ret t H:=rfl
@[simp ↓] theorem kSeq_exit {ks:List Nat} {j:Nat}:kSeq self b ks K (.exit j) t H=K (.exit j) t H:=rfl
@[simp ↓] theorem zGy {x:AExit}:kThen x K .normal t H=K x t H:=rfl
@[simp ↓] theorem kThen_ret {x:AExit}:kThen x K .ret t H=K .ret t H:=rfl
@[simp ↓] theorem kThen_exit {x:AExit} {j:Nat}:kThen x K (.exit j) t H=K (.exit j) t H:=rfl
@[simp ↓] theorem zGh {id:Nat}:zxg id K .normal t H=K .normal t H:=rfl
@[simp ↓] theorem kBlock_ret {id:Nat}:zxg id K .ret t H=K .ret t H:=rfl
@[simp ↓] theorem kBlock_exit {id j:Nat}:zxg id K (.exit j) t H=if j=id then K .normal t H else K (.exit j) t H:=by
 unfold zxg
 by_cases h:j=id
 ·simp [h]
 ·simp only [h,if_false,beq_eq_false_iff_ne.2 h]
@[simp ↓] theorem zGx {keep:List Nat} {B:List AV→List Ob→Prop}:kLoop keep B K .normal t H=B (keep.map fun k=>t.getD k .top) H:=rfl
@[simp ↓] theorem kLoop_ret {keep:List Nat} {B:List AV→List Ob→Prop}:kLoop keep B K .ret t H=K .ret t H:=rfl
@[simp ↓] theorem kLoop_exit {keep:List Nat} {B:List AV→List Ob→Prop} {j:Nat}:kLoop keep B K (.exit j) t H=K (.exit j) t H:=rfl
@[simp ↓] theorem kEnd_ret {rs:List ResultVar} {Q:AV→List Ob→Prop}:kEnd P rs Q .ret t H=aRes P rs t H fun vs=>Q (tupOf vs) H:=rfl
@[simp ↓] theorem kEnd_normal {rs:List ResultVar} {Q:AV→List Ob→Prop}:kEnd P rs Q .normal t H=aRes P rs t H fun vs=>Q (tupOf vs) H:=rfl
def cl:Code→Code
 | .seq a _=>a
 | .cond _ a _=>a
 | .block _ a=>a
 | .loop a=>a
 | c=>c
def cr:Code→Code
 | .seq _ b=>b
 | .cond _ _ b=>b
 | c=>c
def opsOf:Code→Array Oper
 | .region _ ops _=>ops
 | _=>#[]
def rfA:Code→Code
 | .rangeFunc _ _ a _=>a
 | _=>.skip
def rfB:Code→Code
 | .rangeFunc _ _ _ b=>b
 | _=>.skip
def zEa:Op→Bool
 | .defer _=>false
 | _=>true
def ze4 (ops:Array Oper):Bool:=ops.toList.all fun o=>zEa o.op
end Go.Abs
end

section
/- A call whose row takes an older, shorter row's place. -/
namespace Go.Abs
variable {P:Program}
end Go.Abs
end

section
/- Functions whose new rows are written; calls over objects of which some slices are said to own rows first. -/
namespace Go.Abs
variable {P:Program}
theorem fn_mode {f:FuncId} {args:List AV} {r:AV} {Ho:List Ob} (h:Fn P f [.mode] args r Ho):Fn P f [] args r Ho:=by
 refine ⟨h.1,fun w G vs hi rl=>?_⟩
 have hno:∀ id,G.loc id=none:=fun id=>by
  cases e:G.loc id with
  | none=>rfl
  | some l=>obtain ⟨ob,ho,_⟩:=hi.obj id l e; simp at ho
 have hi':Inv w G [.mode]:=⟨hi.rd,fun id l e=>(by rw [hno] at e; exact absurd e (by simp)),hi.dis,hi.tab⟩
 refine (h.2 w G vs hi' rl).mono ?_
 rintro e w' ⟨v,G',rfl,hr0,hi0,hm⟩
 exact ⟨v,G',rfl,hr0,hi0,{ hm with loc:=fun id hid=>absurd hid (by simp) }⟩
end Go.Abs
end

section
/- A function without branches, of whose slices those of elements of so many cells are rows that may be written. -/
set_option linter.unusedSimpArgs false
set_option linter.unusedVariables false
namespace Go.Abs
variable {P:Program}
end Go.Abs
end
