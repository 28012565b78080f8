/- Regions walked over trees, within a round of a loop over a function. -/
import Derived.Test.YtdmgbhamigegfaaGreatDoorZSpRepQ
import Derived.Test.YtdmgbhamigegfaaGreatDoorA3
import Derived.RangeFuncBox
import Derived.OrdersIn
import Derived.RangeFuncCalls

section
/- Regions walked over trees, within a round of a loop over a function. -/
set_option linter.unusedSimpArgs false
set_option linter.unusedVariables false
namespace Go.Abs
open Go Go.RowKit
variable {P:Program}
abbrev inR (l:Nat):Fence:=Fence.wide.inRound l
theorem op_in {o:Oper} {a:Act} {w:World} {l n:Nat} (hnd:∀ c,o.op≠.defer c) {next:Act→World→Prop} {Q:Exit→Act→World→Prop} (h:o.wp P a w next Q):o.wpIn (inR l) n P a w next Q:=by
 refine ⟨fun f _=>trivial, ?_⟩
 rw [Oper.semAt_eq _ _ _ hnd]
 unfold Oper.wp at h
 generalize (execOp a.eval o).run P w=r at h
 have hd:((inR l).depth.isSome=true→1≤n):=fun e=>by simp [Fence.wide] at e
 cases r with
 | ok x w' =>
  cases x with
  | value v=>exact h
  | skip=>exact h
  | defer d=>exact h
  | enter f args=>exact ⟨hd,CallsIn.inRound l (callsIn_wide.2 h)⟩
  | row r args =>
   refine ⟨hd,fun c cs hr=>?_⟩
   obtain ⟨v,w'',h1,h2⟩:=h c cs
   exact ⟨v,w'',h1,stepsIn_wide.2 h2⟩
  | _=>exact h.elim
 | halt x w'=>cases x <;> first | exact h | exact h.elim
theorem zBS {ops:Array Oper} (h:ze4 ops=true) {i:Nat} {o:Oper} (ho:ops[i]? = some o):∀ c,o.op≠.defer c:=by
 intro c e
 have:=List.all_eq_true.1 h o (List.mem_of_getElem? (i:=i) (by simpa using ho))
 simp [e,zEa] at this
theorem zz8 {ops:Array Oper} (hp:ze4 ops=true) {l n:Nat} {Q:Exit→Act→World→Prop} (hl:¬ LetsOut Q):∀ (r:List Nat) (a:Act) (w:World),wpOps P ops Q r a w→wpOpsIn (inR l) n P ops Q r a w
 | [],a,w,h=>h
 | i::r,a,w,h=>by
  unfold wpOps at h
  unfold wpOpsIn
  cases ho:ops[i]? with
  | none=>rw [ho] at h; exact zz8 hp hl r a w h
  | some o =>
   rw [ho] at h
   simp only at h ⊢
   split
   ·rename_i hw
    rw [if_pos hw] at h
    rcases h with h | h
    ·exact op_in (zBS hp ho) (Oper.wp_mono (fun a w=>zz8 hp hl r a w) h)
    ·exact absurd h.2 hl
   ·rename_i hw
    rw [if_neg hw] at h
    exact ⟨fun _ _=>trivial,zz8 hp hl r _ w h⟩
theorem zvR {ops:Array Oper} (hp:ze4 ops=true) {l n:Nat} {Q:Exit→Act→World→Prop} (hl:¬ LetsOut Q) (md:Region.Mode):∀ (fuel:Nat) (listed:Array Bool) (a:Act) (w:World),wpAny P md ops Q fuel listed a w→wpAnyIn (inR l) n P md ops Q fuel listed a w
 | 0,listed,a,w,h=>h
 | fuel + 1,listed,a,w,h=>by
  refine ⟨h.1,fun i hi=>?_⟩
  have:=h.2 i hi
  unfold wpOp at this
  unfold wpOpIn
  cases ho:ops[i]? with
  | none=>rw [ho] at this; exact zvR hp hl md fuel _ a w this
  | some o =>
   rw [ho] at this
   simp only at this ⊢
   split
   ·rename_i hw
    rw [if_pos hw] at this
    rcases this with h | h
    ·exact op_in (zBS hp ho) (Oper.wp_mono (fun a w=>zvR hp hl md fuel _ a w) h)
    ·exact absurd h.2 hl
   ·rename_i hw
    rw [if_neg hw] at this
    exact ⟨fun _ _=>trivial,zvR hp hl md fuel _ _ w this⟩
theorem zzd (hm:P.follows .mixedOrders=true) {id:Nat} {ops:Array Oper} {draw:Bool} {t:List AV} {H:List Ob} {K:List AV→List Ob→Prop} (h:zad P ops draw t H K) (hp:ze4 ops=true) {l n:Nat}
  {Q:Exit→Act→World→Prop} (hl:¬ LetsOut Q) {a:Act} {w:World} {G:Gh} (hi:Inv w G H) (ht:RepTm G t a.tmps)
  (hq:∀ (a':Act) (w':World) (G':Gh) (t':List AV) (H':List Ob),K t' H'→Inv w' G' H'→RepTm G' t' a'.tmps→a'.defers=a.defers→Kept ops a a'→Step w G w' G'→Q .normal a' w'):(Code.region id ops draw).wpIn (inR l) n P Q a w:=by
 cases draw with
 | false =>
  refine wpIn_region (zz8 hp hl _ _ _ ?_)
  have h:mOps P true ops (ops.size + 1) false 0 ops.toList [] t H K:=h
  have:=zip (P:=P) (ops:=ops) (Q:=Q) _ false 0 ops.toList [] t H K (fun j _=>by simp) h [] a w G hi ht (fun a' w' G' t' H' hk hi' ht' hd hkp hs=>hq a' w' G' t' H' hk hi' ht' hd (hkp.kept (fun o ho=>?_)) hs)
  ·rw [List.range_eq_range']
   simpa using this
  ·obtain ⟨k,hk⟩:=List.getElem?_of_mem ho
   exact ⟨k,by simpa using hk⟩
 | true =>
  simp only [zad] at h
  split at h
  ·rename_i hok
   exact wpIn_region_any hm (zvR hp hl _ _ _ _ _ (ztF hok h hi ht hq))
  ·exact h.elim
theorem zy3 {w w':World} {G:Gh} {H:List Ob} (hi:Inv w G H) (hs:w.heap.size≤w'.heap.size) (hr:∀ b,(∃ o c,G.rd b o=some c)→w'.heap[b]? = w.heap[b]?) (hb:∀ id b,G.blk id=some b→w'.heap[b]? = w.heap[b]?):Inv w' G H:=by
 refine ⟨fun b o c e=>?_,fun id l e=>?_,hi.dis,hi.tab.keep (fun _ _ _ e=>e) (fun g h _=>hr g h)⟩
 ·rw [World.cell?_of_block (w:=w) (hr b ⟨o,c,e⟩)]
  exact hi.rd b o c e
 ·obtain ⟨ob,ho,hh⟩:=hi.obj id l e
  exact ⟨ob,ho,hh.keep (Grow.refl G) hs (fun b e'=>⟨hb id b (by simp [Gh.blk,e,e']),fun _ h=>h⟩)⟩
end Go.Abs
end

section
/- A row that comes through slices.Values: what yield is called with. -/
set_option linter.unusedSimpArgs false
set_option linter.unusedVariables false
namespace Go.Abs
open Go Go.RowKit
variable {P:Program}
structure Ext (w w':World):Prop where
 os:w'.os=w.os
 tape:w'.tape=w.tape
 output:w'.output=w.output
 drawn:w.drawn≤w'.drawn
 size:w.heap.size≤w'.heap.size
 keep:∀ b,b < w.heap.size→w'.heap[b]? = w.heap[b]?
theorem Step.ext {w w':World} {G G':Gh} (h:Step w G w' G') (hi:Inv w G []):Ext w w':=by
 have hn:∀ id,G.loc id=none:=fun id=>hi.loc_none (Nat.zero_le _)
 have h0:=h 0
 exact ⟨h0.os,h0.tape,h0.output,h0.drawn,h0.size,fun b hb=>h0.keep b hb (fun id=>by simp [Gh.blk,hn])⟩
theorem zqz {o:Oper} {a:Act} {w:World} {n:Nat} {next:Act→World→Prop} {Q:Exit→Act→World→Prop} (h:o.wp P a w next Q):o.wpIn Fence.wide n P a w next Q:=by
 refine ⟨fun f _=>trivial, ?_⟩
 rw [show Fence.wide.round=none from rfl,Oper.semAt_none]
 unfold Oper.wp at h
 generalize (execOp a.eval o).run P w=r at h
 have hd:(Fence.wide.depth.isSome=true→1≤n):=fun e=>by simp [Fence.wide] at e
 cases r with
 | ok x w' =>
  cases x with
  | value v=>exact h
  | skip=>exact h
  | defer d=>exact h
  | enter f args=>exact ⟨hd,callsIn_wide.2 h⟩
  | row r args =>
   refine ⟨hd,fun c cs hr=>?_⟩
   obtain ⟨v,w'',h1,h2⟩:=h c cs
   exact ⟨v,w'',h1,stepsIn_wide.2 h2⟩
  | _=>exact h.elim
 | halt x w'=>cases x <;> first | exact h | exact h.elim
def rawL (v:List Value):T:=.agg (v.map .raw)
theorem zsf (v:List Value):(rawL v).cells=v.map .raw:=rfl
theorem raw_one {rd:Rd} {x u:Value} (h:RepT rd (.raw x) u):u=x:=by cases h; rfl
theorem raw_rep {rd:Rd} {v:List Value} {u:Value} (h:RepT rd (rawL v) u):u=.agg v.toArray:=by
 cases h with
 | agg _ vs hn hv hk =>
  congr 1
  refine Array.ext (by simpa using hn) (fun j h1 h2=>?_)
  have h2':j < v.length:=by simpa using h2
  have:=raw_one (hv j (.raw v[j]) (by simp [h2']))
  rw [Array.getD_eq_getD_getElem?,Array.getElem?_eq_getElem h1] at this
  simpa using this
theorem raws_of {rd:Rd} {k:Nat} {es:List T} (he:∀ e∈es,∃ cs,e=.agg cs∧cs.length=k) {a:Option Addr} {n cap:Nat} (h:RepT rd (.slice es) (.slice a n cap)) :
  n=es.length ∧ ∃ vs:List (List Value),vs.length=es.length∧(∀ v∈vs,v.length=k)∧RepT rd (.slice (vs.map rawL)) (.slice a n cap) ∧ ∀ (i:Nat) (e:T) (v:List Value),es[i]? = some e→vs[i]? = some v→RepT rd e (.agg v.toArray):=by
 cases h with
 | nil=>exact ⟨rfl,[],rfl,by simp,.nil _ _,fun i e v h=>by simp at h⟩
 | slice _ b o _ s val hs hr hv hk hl hc =>
  have hsk:∀ (i:Nat) (e:T),es[i]? = some e→∃ cs,e=.agg cs∧cs.length=k∧s=k:=by
   intro i e hi
   obtain ⟨cs,rfl,hcs⟩:=he e (List.mem_of_getElem? hi)
   exact ⟨cs,rfl,hcs,by have:=hs _ (List.mem_of_getElem? hi); simp only [T.cells] at this; omega⟩
  obtain ⟨vs,hvs⟩:∃ vs:List (List Value),vs=(List.range es.length).map fun i=>(List.range k).map fun j=>val i j:=⟨_,rfl⟩
  have hlen:vs.length=es.length:=by rw [hvs]; simp
  have hget:∀ (i:Nat) (v:List Value),vs[i]? = some v→i < es.length∧v=(List.range k).map fun j=>val i j:=by
   intro i v h
   rw [hvs] at h
   simp only [List.getElem?_map,Option.map_eq_some_iff] at h
   obtain ⟨x,hx,rfl⟩:=h
   obtain ⟨h1,h2⟩:=List.getElem?_eq_some_iff.1 hx
   simp at h1 h2
   subst h2
   exact ⟨h1,rfl⟩
  refine ⟨rfl,vs,hlen,fun v hv=>?_, ?_,fun i e v hi hvi=>?_⟩
  ·obtain ⟨i,hi⟩:=List.getElem?_of_mem hv
   rw [(hget i v hi).2]; simp
  ·have main:∀ (i j:Nat) (e c:T),(vs.map rawL)[i]? = some e→e.cells[j]? = some c→∃ e' c',es[i]? = some e'∧e'.cells[j]? = some c'∧c=.raw (val i j)∧s=k:=by
    intro i j e c h1 h2
    simp only [List.getElem?_map,Option.map_eq_some_iff] at h1
    obtain ⟨v,hvi,rfl⟩:=h1
    obtain ⟨hlt,rfl⟩:=hget i v hvi
    rw [zsf] at h2
    simp only [List.getElem?_map,Option.map_eq_some_iff] at h2
    obtain ⟨u,⟨x,hx,rfl⟩,rfl⟩:=h2
    obtain ⟨h3,h4⟩:=List.getElem?_eq_some_iff.1 hx
    simp at h3 h4
    subst h4
    obtain ⟨cs,e1,e2,e3⟩:=hsk i es[i] (List.getElem?_eq_getElem hlt)
    refine ⟨es[i],cs[j]'(by omega),List.getElem?_eq_getElem hlt, ?_,rfl,e3⟩
    rw [e1]
    exact List.getElem?_eq_getElem (show j < cs.length by omega)
   have hall:∀ e∈vs.map rawL,e.cells.length=s:=by
    intro e he'
    obtain ⟨i,hi⟩:=List.getElem?_of_mem he'
    simp only [List.getElem?_map,Option.map_eq_some_iff] at hi
    obtain ⟨v,hvi,rfl⟩:=hi
    obtain ⟨hlt,rfl⟩:=hget i v hvi
    obtain ⟨cs,e1,e2,e3⟩:=hsk i es[i] (List.getElem?_eq_getElem hlt)
    rw [zsf]; simp [e3]
   have:=RepT.slice (rd:=rd) (vs.map rawL) b o cap s val hall
    (fun i j e c h1 h2=>by obtain ⟨e',c',g1,g2,_,_⟩:=main i j e c h1 h2; exact hr i j e' c' g1 g2)
    (fun i j e c h1 h2=>by obtain ⟨e',c',g1,g2,g3,_⟩:=main i j e c h1 h2; rw [g3]; exact .raw _ (hk i j e' c' g1 g2))
    (fun i j e c h1 h2=>by obtain ⟨e',c',g1,g2,g3,_⟩:=main i j e c h1 h2; exact hk i j e' c' g1 g2)
    (by simpa [hlen] using hl) (by simpa [hlen] using hc)
   simpa [hlen] using this
  ·obtain ⟨hlt,rfl⟩:=hget i v hvi
   obtain ⟨cs,rfl,e2,e3⟩:=hsk i e hi
   have hj:∀ j c,cs[j]? = some c→(((List.range k).map fun j=>val i j).toArray.getD j undef)=val i j:=by
    intro j c hc'
    have:=(List.getElem?_eq_some_iff.1 hc').1
    simp [Array.getD_eq_getD_getElem?,show j < k by omega]
   refine .agg cs _ (by simp [e2]) (fun j c hc'=>?_) (fun j c hc'=>?_)
   ·rw [hj j c hc']; exact hv i j _ c hi hc'
   ·rw [hj j c hc']; exact hk i j _ c hi hc'
theorem zEU {rd:Rd} {es:List T} {v:Value} (h:RepT rd (.slice es) v):es.length≤maxLen:=by
 cases h with
 | nil=>simp
 | slice _ b o cap s val hs hr hv hk hl hc=>exact hl
def zt5 (ops:Array Oper) (us:List Nat):Bool:=ops.toList.all fun o=>us.all fun u=>o.dst != some u
theorem zuW {ops:Array Oper} {us:List Nat} (h:zt5 ops us=true) {u:Nat} (hu:u∈us):∀ (k:Nat) (o:Oper),ops[k]? = some o→o.dst≠some u:=by
 intro k o hk
 unfold zt5 at h
 rw [List.all_eq_true] at h
 have:=h o (List.mem_of_getElem? (i:=k) (by simpa using hk))
 rw [List.all_eq_true] at this
 simpa using this u hu
structure ValK (P:Program) (V1 k:Nat) where
 mixed:P.follows .mixedOrders=true
 fn:Func
 r0:Array Oper
 r1:Array Oper
 r2:Array Oper
 r3:Array Oper
 r4:Array Oper
 z:List AV
 ty:TypeId
 tb:TypeId
 ats:Array TypeId
 hf:P.funcs[V1]? = some fn
 hnt:fn.ntmps=16
 hres:fn.results = #[]
 hbody:fn.body=some (.seq (.region 0 r0 false) (.block 0 (.loop (.seq (.region 1 r1 false) (.seq (.cond (.tmp 8) .skip (.exit 0)) (.seq (.block 1 (.seq (.region 2 r2 false) (.seq (.region 3 r3 false) (.cond (.tmp 14) .ret .skip)))) (.region 4 r4 false)))))))
 hz:z.length=k
 ty0:TypeId
 s0:r0.size=3
 p0:(r0[0]?.map fun o=>(o.op,o.dst,o.guard))=some (.load ty0 (.tmp 1),some 5,none)
 p1:(r0[1]?.map fun o=>(o.op,o.dst,o.guard))=some (.call { callee:=.builtin .len,args:=#[.tmp 5],argTypes:=#[ty0] },some 6,none)
 p2:(r0[2]?.map fun o=>(o.op,o.dst,o.guard))=some (.move (.const (.int .i64 0)),some 7,none)
 l0:∃ d i,P.underlying ty0=some d∧P.info? ty0=some i∧aggD d=false∧i.size=1
 l2:∀ (t:List AV) (H:List Ob) (K:AV→List Ob→Prop),aOp P false (rho t) (.call { callee:=.builtin .len,args:=#[.tmp 5],argTypes:=#[ty0] }) H K=aLen false false (t.getD 5 .top) fun v=>K v H
 e1:∀ (j0 j1 j2 j3 j4 j5 j6 j7 j8 j9 j10 j11 j12 j13 j14 j15:AV) (H:List Ob) (K:List AV→List Ob→Prop),zad P r1 false [j0,j1,j2,j3,j4,j5,j6,j7,j8,j9,j10,j11,j12,j13,j14,j15] H K=(
  aBin false false .lss j7 j6 fun v0 =>
  K [j0,j1,j2,j3,j4,j5,j6,j7,v0,j9,j10,j11,j12,j13,j14,j15] H)
 e2:∀ (j0 j1 j2 j3 j4 j5 j6 j7 j8 j9 j10 j11 j12 j13 j14 j15:AV) (H:List Ob) (K:List AV→List Ob→Prop),zad P r2 false [j0,j1,j2,j3,j4,j5,j6,j7,j8,j9,j10,j11,j12,j13,j14,j15] H K=(
  zb k j5 j7 fun v0 =>
  aLoad true k v0 H fun v1 =>
  zy z H fun v2 h3 =>
  zi k v2 v1 h3 fun _ h5 =>
  K [j0,j1,j2,j3,v2,j5,j6,j7,j8,v0,v1,j11,j12,j13,j14,j15] h5)
 e4:∀ (j0 j1 j2 j3 j4 j5 j6 j7 j8 j9 j10 j11 j12 j13 j14 j15:AV) (H:List Ob) (K:List AV→List Ob→Prop),zad P r4 false [j0,j1,j2,j3,j4,j5,j6,j7,j8,j9,j10,j11,j12,j13,j14,j15] H K=(
  aBin false false .add j7 (.p (.int .i64 1)) fun v0 =>
  K [j0,j1,j2,j3,j4,j5,j6,v0,j8,j9,j10,j11,j12,j13,j14,v0] H)
 s3:r3.size=4
 o0:(r3[0]?.map fun o=>(o.op,o.dst,o.guard))=some (.move (.tmp 0),some 11,none)
 o1:(r3[1]?.map fun o=>(o.op,o.dst,o.guard))=some (.load ty (.tmp 4),some 12,none)
 o2:(r3[2]?.map fun o=>(o.op,o.dst,o.guard))=some (.call { callee:=.value (.tmp 11),args:=#[.tmp 12],argTypes:=ats },some 13,none)
 o3:(r3[3]?.map fun o=>(o.op,o.dst,o.guard))=some (.unOp .not tb (.tmp 13),some 14,none)
 l1:∀ (t:List AV) (H:List Ob) (K:AV→List Ob→Prop),aOp P false (rho t) (.load ty (.tmp 4)) H K=aLoad true k (t.getD 4 .top) H fun v=>K v H
 k1:zt5 r1 [0,5,6,7]=true
 k2:zt5 r2 [0,5,6,7]=true
 k4:zt5 r4 [0,5,6]=true
def zAc (yv:Value) (es:List T) (n i:Int):List AV:=[.p (.raw yv),.top,.top,.top,.top,.p (.slice es),.p (.int .i64 n),.p (.int .i64 i),.top,.top,.top,.top,.top,.top,.top,.top]
structure AtV (G:Gh) (yv:Value) (es:List T) (i:Nat) (a:Act):Prop where
 size:a.tmps.size=16
 s0:a.tmps.getD 0 undef=yv
 s5:RepT G.rd (.slice es) (a.tmps.getD 5 undef)
 s6:a.tmps.getD 6 undef=.int .i64 es.length
 s7:a.tmps.getD 7 undef=.int .i64 i
 dn:a.defers=[]
theorem AtV.rep {G:Gh} {yv:Value} {es:List T} {i:Nat} {a:Act} (h:AtV G yv es i a) (hy:zQ yv=true):RepTm G (zAc yv es es.length i) a.tmps:=by
 refine ⟨by rw [h.size]; rfl,fun u=>?_⟩
 match u with
 | 0=>rw [h.s0]; exact .p _ _ (.raw _ hy)
 | 5=>exact .p _ _ h.s5
 | 6=>rw [h.s6]; exact .p _ _ (.int _ _)
 | 7=>rw [h.s7]; exact .p _ _ (.int _ _)
 | 1 | 2 | 3 | 4 | 8 | 9 | 10 | 11 | 12 | 13 | 14 | 15=>exact .top _
 | u + 16=>exact .top _
theorem AtV.kept {G:Gh} {yv:Value} {es:List T} {i:Nat} {a a':Act} (h:AtV G yv es i a) {ops:Array Oper} (hk:Kept ops a a') (hd:a'.defers=a.defers) (hs:zt5 ops [0,5,6,7]=true):AtV G yv es i a':=by
 have e:∀ u∈[0,5,6,7],a'.tmps.getD u undef=a.tmps.getD u undef:=fun u hu=>hk.1 u (zuW hs hu)
 exact ⟨hk.2.trans h.size,(e 0 (by simp)).trans h.s0,by rw [e 5 (by simp)]; exact h.s5,(e 6 (by simp)).trans h.s6,(e 7 (by simp)).trans h.s7,hd.trans h.dn⟩
theorem zdz (a:Act) (d:Nat) (v:Value) (u:Nat) (h:d≠u):(a.put (some d) v).tmps.getD u undef=a.tmps.getD u undef:=by
 simp [Act.put,Array.getD_eq_getD_getElem?,Array.getElem?_setIfInBounds_ne h]
theorem zsd (a:Act) (d:Nat) (v:Value) (h:d < a.tmps.size):(a.put (some d) v).tmps.getD d undef=v:=by
 simp [Act.put,Array.getD_eq_getD_getElem?,h]
theorem AtV.put {G:Gh} {yv:Value} {es:List T} {i:Nat} {a:Act} (h:AtV G yv es i a) (d:Nat) (v:Value) (h0:d≠0) (h5:d≠5) (h6:d≠6) (h7:d≠7):AtV G yv es i (a.put (some d) v) :=
 ⟨by simpa [Act.put] using h.size,by rw [zdz _ _ _ _ h0]; exact h.s0,by rw [zdz _ _ _ _ h5]; exact h.s5,by rw [zdz _ _ _ _ h6]; exact h.s6,by rw [zdz _ _ _ _ h7]; exact h.s7,h.dn⟩
theorem znA {ops:Array Oper} {i:Nat} {op:Op} {d:Option Tmp} {g:Option (Nat×Bool)} (h:(ops[i]?.map fun o=>(o.op,o.dst,o.guard))=some (op,d,g)):∃ o,ops[i]? = some o∧o.op=op∧o.dst=d∧o.guard=g:=by
 simp only [Option.map_eq_some_iff,Prod.mk.injEq] at h
 obtain ⟨o,h1,h2,h3,h4⟩:=h
 exact ⟨o,h1,h2,h3,h4⟩
section
variable {V1 k:Nat}
theorem zDL (V:ValK P V1 k) {l i:Nat} {G:Gh} {w:World} {vs:List (List Value)} (hvl:∀ v∈vs,v.length=k) (J:Nat→World→Prop) (hJi:∀ i W,J i W→Inv W G []) (hJx:∀ i W W',J i W→Ext W W'→J i W') (hi:i < vs.length)
  (hY:∀ W,J i W→YieldAt Fence.wide 0 P l #[.agg vs[i].toArray] W fun e W'=>e=.returned (.bool true)∧J (i + 1) W') {a:Act} (ha:AtV G (.func (.yield l) #[] #[]) (vs.map rawL) i a) (hJ:J i w)
  {Q:Exit→Act→World→Prop} (hq:∀ a' w',AtV G (.func (.yield l) #[] #[]) (vs.map rawL) i a'→J (i + 1) w'→Q .normal a' w') :
  (Code.seq (.region 2 V.r2 false) (.seq (.region 3 V.r3 false) (.cond (.tmp 14) .ret .skip))).wpIn Fence.wide 0 P Q a w:=by
 have hli:vs[i].length=k:=hvl _ (List.getElem_mem hi)
 have hz:=V.hz
 refine wpIn_seq (wpIn_wide.2 (zdN V.mixed (K:=fun t' H'=>t'.getD 4 .top=.bptr 0 0∧t'.length=16∧H'=[.box (vs[i].map fun c=>.p (.raw c))]) (by
  unfold zAc
  rw [V.e2]
  have hg:(vs.map rawL)[i]? = some (rawL vs[i]):=by simp [hi]
  have hdz:List.drop k V.z=[]:=List.drop_of_length_le (by omega)
  simp [hi,zsf,hli,zy,List.getD_eq_getElem?_getD,rawL,T.cells,hz,put,AV.cells,hdz,Function.comp_def,List.take_of_length_le (show (vs[i].map T.raw).length≤k by simp; omega)]
  ) (hJi i w hJ) (ha.rep rfl) ?_))
 intro a2 w2 G2 t2 H2 ⟨hb,ht2l,hH2⟩ hi2 ht2 hd2 hk2 hs2
 have ha2:=ha.kept hk2 hd2 V.k2
 refine wpIn_seq (wpIn_region ?_)
 rw [V.s3]
 obtain ⟨p0,q0,q1,q2,q3⟩:=znA V.o0
 obtain ⟨p1,u0,u1,u2,u3⟩:=znA V.o1
 obtain ⟨p2,x0,x1,x2,x3⟩:=znA V.o2
 obtain ⟨p3,y0,y1,y2,y3⟩:=znA V.o3
 have wn:∀ (o:Oper) (a:Act),o.guard=none→Region.wanted o (yielded V.r3 a.tmps)=true:=fun o a h=>by simp [Region.wanted,h]
 rw [show List.range 4=[0,1,2,3] from rfl]
 simp only [wpOpsIn,q0,u0,x0,y0,wn _ _ q3,wn _ _ u3,wn _ _ x3,wn _ _ y3,if_true]
 -- the function
 refine zqz ?_
 unfold Oper.wp
 have e0:(execOp a2.eval p0).run P w2=.ok (.value (a2.eval (.tmp 0))) w2:=by unfold execOp; rw [q1]; rfl
 rw [e0,Oper.upon_value,q2]
 have hv0:a2.eval (.tmp 0)=.func (.yield l) #[] #[]:=ha2.s0
 rw [hv0]
 have ha3:=ha2.put 11 (.func (.yield l) #[] #[]) (by simp) (by simp) (by simp) (by simp)
 have h11:(a2.put (some 11) (.func (.yield l) #[] #[])).tmps.getD 11 undef=.func (.yield l) #[] #[]:=zsd _ _ _ (by rw [ha2.size]; simp)
 have ht3:RepTm G2 (setD t2 (some 11) .top) (a2.put (some 11) (.func (.yield l) #[] #[])).tmps:=ht2.put (some 11) (.top _)
 generalize a2.put (some 11) (.func (.yield l) #[] #[])=a3 at ha3 h11 ht3
 -- the element
 refine zqz ?_
 subst hH2
 have hld:aOp P false (rho (setD t2 (some 11) .top)) p1.op [.box (vs[i].map fun c=>.p (.raw c))] (fun v H'=>v=.agg (vs[i].map fun c=>.p (.raw c))):=by
  rw [u1,V.l1]
  have hb':t2[4]?.getD .top=.bptr 0 0:=by rw [← List.getD_eq_getElem?_getD]; exact hb
  simp [setD,List.getD_eq_getElem?_getD,hb',hli,List.take_of_length_le (show (vs[i].map fun c=>AV.p (.raw c)).length≤k by simp; omega)]
 obtain ⟨r,H',rfl,hdo⟩:=zkl hld hi2 (a:=a3) (fun x _=>ht3.rho x)
 refine hdo a3 w2 G2 hi2 (fun x _=>ht3.rho x) _ _ (fun v w3 G3 hr3 hi3 hs3=>?_)
 have hv:v=.agg vs[i].toArray:=by
  have:(AV.agg (vs[i].map fun c=>.p (.raw c))).toT=some (rawL vs[i]):=by
   have e:(vs[i].map fun c=>AV.p (.raw c))=(vs[i].map T.raw).map .p:=by simp
   have e2:∀ l:List T,allT (l.map .p)=some l:=by
    intro l
    induction l with
    | nil=>rfl
    | cons x l ih=>simp [allT,AV.cellT,ih]
   simp only [AV.toT,e,e2]
   rfl
  exact raw_rep (hr3.toT this)
 subst hv
 rw [u2]
 have ha4:=ha3.put 12 (.agg vs[i].toArray) (by simp) (by simp) (by simp) (by simp)
 have h12:(a3.put (some 12) (.agg vs[i].toArray)).tmps.getD 12 undef=.agg vs[i].toArray:=zsd _ _ _ (by rw [ha3.size]; simp)
 have h11':(a3.put (some 12) (.agg vs[i].toArray)).tmps.getD 11 undef=.func (.yield l) #[] #[]:=by rw [zdz _ _ _ _ (by simp)]; exact h11
 generalize a3.put (some 12) (.agg vs[i].toArray)=a4 at ha4 h12 h11'
 have hJ3:J i w3:=hJx i w w3 hJ (((hs2.trans hs3)).ext (hJi i w hJ))
 -- the round
 obtain ⟨fn,tmps,assign,body,hy,hR⟩:=hY w3 hJ3
 refine ⟨fun f _=>trivial, ?_⟩
 rw [show Fence.wide.round=none from rfl,Oper.semAt_none]
 have hex:(execOp a4.eval p2).run P w3=.ok (.round l fn tmps assign body) w3:=by
  have e11:a4.eval (.tmp 11)=.func (.yield l) #[] #[]:=h11'
  have e12:a4.eval (.tmp 12)=.agg vs[i].toArray:=h12
  unfold execOp
  rw [x1]
  have hof:(Deferred.ofValue (.func (.yield l) #[] #[]) #[.agg vs[i].toArray]).run P w3=.ok { target:=.fn (.yield l) #[],args:=#[.agg vs[i].toArray] } w3:=by simp [Deferred.ofValue,go_sem]
  simp [resolve,invoke,e11,e12,Sem.run_bind,Result.andThen,hy,hof]
 rw [hex]
 refine ⟨fun e=>by simp [Fence.wide] at e,hR.mono ?_⟩
 rintro e w4 ⟨rfl,hJ4⟩
 dsimp only
 rw [x2]
 have ha5:=ha4.put 13 (.bool true) (by simp) (by simp) (by simp) (by simp)
 have h13:(a4.put (some 13) (.bool true)).tmps.getD 13 undef=.bool true:=zsd _ _ _ (by rw [ha4.size]; simp)
 generalize a4.put (some 13) (.bool true)=a5 at ha5 h13
 -- not
 refine zqz ?_
 unfold Oper.wp
 have e3:(execOp a5.eval p3).run P w4=.ok (.value (.bool false)) w4:=by
  have e13:a5.eval (.tmp 13)=.bool true:=h13
  unfold execOp
  rw [y1]
  have hno:(Op.unary .not (.bool true)).run P w4=.ok (.bool false) w4:=by simp [Op.unary,go_sem]
  simp [e13,Sem.run_bind,Result.andThen,hno]
 rw [e3,Oper.upon_value,y2]
 have ha6:=ha5.put 14 (.bool false) (by simp) (by simp) (by simp) (by simp)
 have h14:(a5.put (some 14) (.bool false)).tmps.getD 14 undef=.bool false:=zsd _ _ _ (by rw [ha5.size]; simp)
 generalize a5.put (some 14) (.bool false)=a6 at ha6 h14
 exact wpIn_cond_false h14 (wpIn_skip (hq a6 w4 ha6 hJ4))
set_option maxHeartbeats 1000000 in
theorem zE6 (V:ValK P V1 k) {l:Nat} {G:Gh} {w:World} {vs:List (List Value)} (hvl:∀ v∈vs,v.length=k) {pv:Value} (hp:RepT G.rd (.imm [.slice (vs.map rawL)] 0) pv) (J:Nat→World→Prop) (hJi:∀ i W,J i W→Inv W G []) (hJx:∀ i W W',J i W→Ext W W'→J i W')
  (hY:∀ i (h:i < vs.length) W,J i W→YieldAt Fence.wide 0 P l #[.agg vs[i].toArray] W fun e W'=>e=.returned (.bool true)∧J (i + 1) W') (h0:J 0 w) :
  CallsIn Fence.wide 0 P V1 (#[.func (.yield l) #[] #[]] ++ #[pv]) w fun e w'=>e=.returned (.tuple #[])∧J vs.length w':=by
 refine callsIn_of_wp V.hf V.hbody trivial ?_
 rw [V.hnt]
 have hs0:(#[Value.func (.yield l) #[] #[]] ++ #[pv]++Array.replicate (16 - (#[Value.func (.yield l) #[] #[]] ++ #[pv]).size) undef).getD 0 undef=.func (.yield l) #[] #[]:=by simp [Array.getD_eq_getD_getElem?]
 have hs1:(#[Value.func (.yield l) #[] #[]] ++ #[pv]++Array.replicate (16 - (#[Value.func (.yield l) #[] #[]] ++ #[pv]).size) undef).getD 1 undef=pv:=by simp [Array.getD_eq_getD_getElem?]
 have hsz:(#[Value.func (.yield l) #[] #[]] ++ #[pv]++Array.replicate (16 - (#[Value.func (.yield l) #[] #[]] ++ #[pv]).size) undef).size=16:=by simp
 generalize (#[Value.func (.yield l) #[] #[]] ++ #[pv]++Array.replicate (16 - (#[Value.func (.yield l) #[] #[]] ++ #[pv]).size) undef)=tm at hs0 hs1 hsz
 obtain ⟨a0,hA0⟩:∃ a0:Act,a0={ tmps:=tm,defers:=[] }:=⟨_,rfl⟩
 have hd0:a0.defers=[]:=by rw [hA0]
 have hz0:a0.tmps.size=16:=by rw [hA0]; exact hsz
 have h00:a0.tmps.getD 0 undef=.func (.yield l) #[] #[]:=by rw [hA0]; exact hs0
 have h01:a0.tmps.getD 1 undef=pv:=by rw [hA0]; exact hs1
 rw [← hA0]
 clear hA0 hs0 hs1 hsz
 have wn:∀ (ops:Array Oper) (o:Oper) (a:Act),o.guard=none→Region.wanted o (yielded ops a.tmps)=true:=fun ops o a h=>by simp [Region.wanted,h]
 refine wpIn_seq (wpIn_region ?_)
 rw [V.s0]
 obtain ⟨p0,q0,q1,q2,q3⟩:=znA V.p0
 obtain ⟨p1,u0,u1,u2,u3⟩:=znA V.p1
 obtain ⟨p2,x0,x1,x2,x3⟩:=znA V.p2
 rw [show List.range 3=[0,1,2] from rfl]
 simp only [wpOpsIn,q0,u0,x0,wn _ _ _ q3,wn _ _ _ u3,wn _ _ _ x3,if_true]
 -- the slice
 have hi0:=hJi 0 w h0
 obtain ⟨sv,hsv,hex0⟩:∃ sv,RepT G.rd (.slice (vs.map rawL)) sv∧(execOp a0.eval p0).run P w=.ok (.value sv) w:=by
  cases hp with
  | imm _ _ b o val hr hv hk =>
   refine ⟨val 0,hv 0 _ rfl, ?_⟩
   obtain ⟨d,i,g1,g2,g3,g4⟩:=V.l0
   have hc:=hi0.rd _ _ _ (hr 0 _ rfl)
   have hrun:=zr3 (P:=P) g1 g2 (.inr g4) (w:=w) (b:=b) (o:=o + 0) (f:=val) (fun j hj=>by
    have:j=0:=by omega
    subst this
    exact hc)
   rw [g3] at hrun
   have e1:a0.eval (.tmp 1)=.pointer (some ⟨b,o + 0,none⟩):=h01
   unfold execOp
   rw [q1]
   simp only [e1,Sem.run_bind,hrun,Result.andThen]
   rfl
 refine zqz ?_
 unfold Oper.wp
 rw [hex0,Oper.upon_value,q2]
 have h10:(a0.put (some 5) sv).tmps.getD 0 undef=.func (.yield l) #[] #[]:=by rw [zdz _ _ _ _ (by simp)]; exact h00
 have h15:(a0.put (some 5) sv).tmps.getD 5 undef=sv:=zsd _ _ _ (by rw [hz0]; simp)
 have hz1:(a0.put (some 5) sv).tmps.size=16:=by simpa [Act.put] using hz0
 have hd1:(a0.put (some 5) sv).defers=[]:=hd0
 generalize a0.put (some 5) sv=a1 at h10 h15 hz1 hd1
 -- its length
 have hrt:RepTm G [.top,.top,.top,.top,.top,.p (.slice (vs.map rawL)),.top,.top,.top,.top,.top,.top,.top,.top,.top,.top] a1.tmps:=by
  refine ⟨hz1,fun u=>?_⟩
  match u with
  | 5=>rw [h15]; exact .p _ _ hsv
  | 0 | 1 | 2 | 3 | 4 | 6 | 7 | 8 | 9 | 10 | 11 | 12 | 13 | 14 | 15=>exact .top _
  | u + 16=>exact .top _
 have hld:aOp P false (rho [.top,.top,.top,.top,.top,.p (.slice (vs.map rawL)),.top,.top,.top,.top,.top,.top,.top,.top,.top,.top]) p1.op [] (fun v H'=>v=.p (.int .i64 vs.length)):=by
  rw [u1,V.l2]
  simp
 obtain ⟨r,H',rfl,hdo⟩:=zkl hld hi0 (a:=a1) (fun x _=>hrt.rho x)
 refine zqz (hdo a1 w G hi0 (fun x _=>hrt.rho x) _ _ (fun nv w1 G1 hn hi1 hs1=>?_))
 obtain rfl:=zkR.1 (zbp.1 hn)
 have hJ1:J 0 w1:=hJx 0 w w1 h0 (hs1.ext hi0)
 rw [u2]
 refine zqz ?_
 unfold Oper.wp
 have hex2:(execOp (a1.put (some 6) (.int .i64 vs.length)).eval p2).run P w1=.ok (.value (.int .i64 0)) w1:=by unfold execOp; rw [x1]; rfl
 rw [hex2,Oper.upon_value,x2]
 have hA:AtV G (.func (.yield l) #[] #[]) (vs.map rawL) 0 ((a1.put (some 6) (.int .i64 vs.length)).put (some 7) (.int .i64 0)):=by
  refine ⟨by simpa [Act.put] using hz1, ?_, ?_, ?_, ?_,hd1⟩
  ·rw [zdz _ _ _ _ (by simp),zdz _ _ _ _ (by simp)]; exact h10
  ·rw [zdz _ _ _ _ (by simp),zdz _ _ _ _ (by simp),h15]; exact hsv
  ·rw [zdz _ _ _ _ (by simp),zsd _ _ _ (by rw [hz1]; simp)]; simp
  ·rw [zsd _ _ _ (by simpa [Act.put] using by rw [hz1]; simp)]; simp
 generalize (a1.put (some 6) (.int .i64 vs.length)).put (some 7) (.int .i64 0)=a2 at hA
 show (Code.block 0 _).wpIn Fence.wide 0 P _ a2 w1
 -- round by round
 refine wpIn_block (wpIn_loop (fun a w=>∃ i,i≤vs.length∧J i w∧AtV G (.func (.yield l) #[] #[]) (vs.map rawL) i a) (fun a _=>vs.length - (match a.tmps.getD 7 undef with | .int _ n=>n.toNat | _=>0)) ⟨0,Nat.zero_le _,hJ1,hA⟩ ?_)
 rintro a3 w3 ⟨i,hin,hJ3,hA3⟩
 have hi3:=hJi i w3 hJ3
 refine wpIn_seq (wpIn_wide.2 (zdN V.mixed (K:=fun t' H'=>t'.getD 8 .top=.p (.bool (decide (i < vs.length)))) (by
  unfold zAc
  rw [V.e1]
  simp [List.getD_eq_getElem?_getD]) hi3 (hA3.rep rfl) ?_))
 intro a4 w4 G4 t4 H4 hb4 hi4 ht4 hd4 hk4 hs4
 have hA4:=hA3.kept hk4 hd4 V.k1
 have hJ4:J i w4:=hJx i w3 w4 hJ3 (hs4.ext hi3)
 have h8:a4.eval (.tmp 8)=.bool (decide (i < vs.length)):=by
  have:=ht4.2 8
  rw [hb4] at this
  exact zat.1 this
 by_cases hlt:i < vs.length
 ·simp only [hlt,decide_true] at h8
  refine wpIn_seq (wpIn_cond_true h8 (wpIn_skip ?_))
  show (Code.seq _ _).wpIn Fence.wide 0 P _ a4 w4
  refine wpIn_seq (wpIn_block (zDL V hvl J hJi hJx hlt (fun W hW=>hY i hlt W hW) hA4 hJ4 (fun a5 w5 hA5 hJ5=>?_)))
  show (Code.region 4 _ _).wpIn Fence.wide 0 P _ a5 w5
  refine wpIn_wide.2 (zdN V.mixed (K:=fun t' H'=>t'.getD 7 .top=.p (.int .i64 (IntKind.i64.wrap (i + 1)))) (by
   unfold zAc
   rw [V.e4]
   simp [List.getD_eq_getElem?_getD]) (hJi _ w5 hJ5) (hA5.rep rfl) ?_)
  intro a6 w6 G6 t6 H6 hb6 hi6 ht6 hd6 hk6 hs6
  have hJ6:=hJx _ w5 w6 hJ5 (hs6.ext (hJi _ w5 hJ5))
  have h7:a6.tmps.getD 7 undef=.int .i64 ((i + 1:Nat):Int):=by
   have:=ht6.2 7
   rw [hb6] at this
   rw [zkR.1 (zbp.1 this)]
   have hml:vs.length≤maxLen:=by
    simpa using zEU hsv
   rw [IntWalk.i64_in _ (by simp only [maxLen] at hml; omega)]
   simp
  have e6:∀ u∈[0,5,6],a6.tmps.getD u undef=a5.tmps.getD u undef:=fun u hu=>hk6.1 u (zuW V.k4 hu)
  refine ⟨⟨i + 1,by omega,hJ6,⟨hk6.2.trans hA5.size,(e6 0 (by simp)).trans hA5.s0,by rw [e6 5 (by simp)]; exact hA5.s5,(e6 6 (by simp)).trans hA5.s6,h7,hd6.trans hA5.dn⟩⟩, ?_⟩
  rw [h7,hA3.s7]
  simp only [Int.toNat_natCast]
  omega
 ·simp only [hlt,decide_false] at h8
  refine wpIn_seq (wpIn_cond_false h8 (wpIn_exit ?_))
  have:i=vs.length:=by omega
  subst this
  refine ⟨hA4.dn,.tuple #[], ?_,rfl,hJ4⟩
  unfold results
  rw [V.hres]
  simp [Sem.run_bind,Result.andThen]
end
end Go.Abs
end
