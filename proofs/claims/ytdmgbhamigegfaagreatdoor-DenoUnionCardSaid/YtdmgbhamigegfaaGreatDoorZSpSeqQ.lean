/- A row that is collected by slices.AppendSeq out of slices.Values. -/
import Derived.Test.YtdmgbhamigegfaaGreatDoorZValKQ
import Derived.Test.YtdmgbhamigegfaaGreatDoorA3
import Derived.RangeFuncLeaves
import Derived.Test.YtdmgbhamigegfaaGreatDoorS2
import Derived.Test.YtdmgbhamigegfaaGreatDoorS1
import Derived.Test.YtdmgbhamigegfaaGreatDoorZSpRepQ

section
/- A row that is collected by slices.AppendSeq out of slices.Values. -/
set_option linter.unusedSimpArgs false
set_option linter.unusedVariables false
namespace Go.Abs
open Go Go.RowKit
variable {P:Program}
def regX (P:Program) (any:Bool) (ops:Array Oper) (draw:Bool) (t:List AV) (H:List Ob) (K:List AV→List Ob→Prop):Prop :=
 match any with
 | true=>draw=true∧aAnyR P ops t H K
 | false=>zad P ops draw t H K
theorem zxB {ops:Array Oper} {draw:Bool} {t:List AV} {H:List Ob} {K:List AV→List Ob→Prop} (h:zad P ops draw t H K):regX P false ops draw t H K:=h
theorem zxC (hm:P.follows .mixedOrders=true) {any:Bool} {id:Nat} {ops:Array Oper} {draw:Bool} {t:List AV} {H:List Ob} {K:List AV→List Ob→Prop} (h:regX P any ops draw t H K) (hp:ze4 ops=true) {l n:Nat}
  {Q:Exit→Act→World→Prop} (hl:¬ LetsOut Q) {a:Act} {w:World} {G:Gh} (hi:Inv w G H) (ht:RepTm G t a.tmps)
  (hq:∀ (a':Act) (w':World) (G':Gh) (t':List AV) (H':List Ob),K t' H'→Inv w' G' H'→RepTm G' t' a'.tmps→a'.defers=a.defers→Kept ops a a'→Step w G w' G'→Q .normal a' w'):(Code.region id ops draw).wpIn (inR l) n P Q a w:=by
 cases any with
 | false=>exact zzd hm h hp hl hi ht hq
 | true =>
  obtain ⟨rfl,h⟩:=h
  unfold aAnyR at h
  split at h
  ·rename_i hpl
   have hi':Inv { w with drawn:=w.drawn + 1 } G H:=zs0 (w':={ w with drawn:=w.drawn + 1 }) hi rfl
   have hst0:Step w G { w with drawn:=w.drawn + 1 } G:=zus ⟨rfl,rfl,rfl,Nat.le_succ _⟩ rfl
   refine wpIn_region_any hm (zvR hp hl _ _ _ _ _ (zsx (fun a w h=>h.2) (fun e a w h hne=>absurd h.1 hne) _ _ _ _ (zvI (Q:=Q) hpl _ _ _ _ _ h a _ G hi' ht (fun a' w' G' t' H' hk hi2 ht2 hd2 hkp hs=>?_))))
   exact hq a' w' G' t' H' hk hi2 ht2 hd2 hkp (hst0.trans hs)
  ·exact h.elim
structure Aside (w:World) (G:Gh) (b:Nat):Prop where
 lt:b < w.heap.size
 rd:∀ o,G.rd b o=none
 blk:∀ id,G.blk id≠some b
theorem Aside.step {w w':World} {G G':Gh} {b:Nat} (h:Aside w G b) (s:Step w G w' G'):Aside w' G' b∧w'.heap[b]? = w.heap[b]?:=by
 refine ⟨⟨Nat.lt_of_lt_of_le h.lt (s 0).size,fun o=>?_,fun id e=>?_⟩,(s 0).keep b h.lt h.blk⟩
 ·cases e:G'.rd b o with
  | none=>rfl
  | some c =>
   rcases (s 0).rdn b o c e with h1 | h1 | ⟨id,h1⟩
   ·rw [h.rd] at h1; simp at h1
   ·have:=h.lt; omega
   ·exact (h.blk id h1).elim
 ·rcases (s 0).new id b e with h1 | ⟨j,h1⟩
  ·have:=h.lt; omega
  ·exact h.blk j h1
theorem zqn {w:World} {G:Gh} {H:List Ob} {b:Nat} (hi:Inv w G H) (ha:Aside w G b) (o:Obj):Inv (w.putObj b o) G H :=
 zy3 hi (by simp) (fun k ⟨o',c,e⟩=>World.putObj_heap_other (fun h=>by subst h; rw [ha.rd] at e; simp at e)) (fun id k e=>World.putObj_heap_other (fun h=>by subst h; exact ha.blk id e))
theorem Aside.put {w:World} {G:Gh} {b c:Nat} (h:Aside w G b) (o:Obj):Aside (w.putObj c o) G b:=⟨by simpa using h.lt,h.rd,h.blk⟩
theorem Aside.ext {w w':World} {G:Gh} {b:Nat} (h:Aside w G b) (e:Ext w w'):Aside w' G b:=⟨Nat.lt_of_lt_of_le h.lt e.size,h.rd,h.blk⟩
theorem zDZ {w w':World} {G:Gh} {H:List Ob} (hi:Inv w G H) (e:Ext w w'):Inv w' G H :=
 zy3 hi e.size (fun b ⟨o,c,h⟩=>e.keep b (hi.rd_lt h)) (fun id b h=>e.keep b (hi.blk_lt h))
theorem zs7 {n:Nat} {w0 w:World} {G0 G:Gh} {b:Nat} (h:Move n w0 G0 w G) (hb:w0.heap.size≤b) (o:Obj):Move n w0 G0 (w.putObj b o) G :=
 ⟨h.os,h.tape,h.output,h.drawn,by simpa using h.size,fun k hk hn=>by rw [World.putObj_heap_other (by omega)]; exact h.keep k hk hn,h.rd,h.rdn,h.loc,h.new⟩
theorem zBy {n:Nat} {w0 w w':World} {G0 G:Gh} (h:Move n w0 G0 w G) (e:Ext w w'):Move n w0 G0 w' G :=
 ⟨e.os.trans h.os,e.tape.trans h.tape,e.output.trans h.output,Nat.le_trans h.drawn e.drawn,Nat.le_trans h.size e.size,fun k hk hn=>by rw [e.keep k (Nat.lt_of_lt_of_le hk h.size)]; exact h.keep k hk hn,h.rd,h.rdn,h.loc,h.new⟩
theorem zFH {w:World} {G:Gh} {H Hout:List Ob} {ids:List Nat} (hi:Inv w G H) (hnd:ids.Nodup) (hf:zcG (renF H ids) H ids Hout) (hb:Hout.all (Ob.below ids.length)=true):Inv w (G.part ids) Hout:=by
 obtain ⟨hlen,hget⟩:=znb hf
 have hloc:∀ i,i < ids.length→(G.part ids).loc i=G.loc (renF H ids i):=by
  intro i h
  simp only [Gh.part,renF,h,if_true]
  rw [List.getD_eq_getElem?_getD,List.getElem?_eq_getElem h]
  rfl
 refine ⟨hi.rd,fun i l e=>?_,fun i j b e1 e2=>?_,hi.tab⟩
 ·obtain ⟨j,h2,h3⟩:=ztg e
  obtain ⟨o,h4,h5⟩:=hget i j h2
  obtain ⟨ob,h6,h7⟩:=hi.obj j l h3
  rw [h5] at h6; simp at h6; subst h6
  exact ⟨o,h4,zqf (G:=G) (G0:=G.part ids) (k:=ids.length) rfl hloc (List.all_eq_true.1 hb o (List.mem_of_getElem? h4)) h7⟩
 ·obtain ⟨x,h2,h3⟩:=zdy e1
  obtain ⟨y,k2,k3⟩:=zdy e2
  have:=hi.dis _ _ b h3 k3
  subst this
  have a:=zkP hnd h2
  rw [zkP hnd k2] at a
  simpa using a.symm
theorem zEM {n:Nat} {w0 w:World} {G0 G:Gh} (ids:List Nat) (h:Move n w0 G0 w G) (hn:∀ id,id < n→G0.loc id=none):Move n w0 G0 w (G.part ids) :=
 ⟨h.os,h.tape,h.output,h.drawn,h.size,h.keep,h.rd,h.rdn,fun id hid l e=>by rw [hn id hid] at e; simp at e,fun id b e=>by obtain ⟨j,_,h3⟩:=zdy e; exact h.new j b h3⟩
theorem Aside.part {w:World} {G:Gh} {b:Nat} (h:Aside w G b) (ids:List Nat):Aside w (G.part ids) b:=⟨h.lt,h.rd,fun id e=>by obtain ⟨j,_,h3⟩:=zdy e; exact h.blk j h3⟩
end Go.Abs
end

section
/- slices.AppendSeq over slices.Values, as a contract over trees. -/
set_option linter.unusedSimpArgs false
set_option linter.unusedVariables false
namespace Go.Abs
open Go Go.RowKit
variable {P:Program}
structure ApF (P:Program) (A k:Nat) where
 mixed:P.follows .mixedOrders=true
 fn:Func
 r0:Array Oper
 r1:Array Oper
 r2:Array Oper
 r3:Array Oper
 r4:Array Oper
 dr:Bool
 any:Bool
 nt:Nat
 t1:AV→List AV
 t2:AV→List AV
 t3:AV→T→Nat→List AV
 t4:AV→AV→List AV
 hf:P.funcs[A]? = some fn
 hc:zcD P A=true
 hnt:fn.ntmps=nt
 h4:8≤nt
 hres:fn.results = #[.tmp 4]
 hbody:fn.body=some (.seq (.region 0 r0 false) (.seq (.seq (.region 1 r1 false) (.block 0 (.rangeFunc (.tmp 6) #[7] (.region 2 r2 false) (.block 1 (.region 3 r3 dr))))) (.seq (.region 4 r4 false) .ret)))
 p2:ze4 r2=true
 p3:ze4 r3=true
 l2:∀ sq,(t2 sq).length=nt
 g6:∀ sq,(t2 sq).getD 6 .top=sq
 g4:∀ sq x,(t4 sq x).getD 4 .top=x
 e0:∀ sq,zad P r0 false ([.full [],sq]++List.replicate (nt - 2) .top) [.mode] (fun t H=>t=t1 sq∧H=[.mode,.box [.full []]])
 e1:∀ sq,zad P r1 false (t1 sq) [.mode,.box [.full []]] (fun t H=>t=t2 sq∧H=[.mode,.box [.full []]])
 e2:∀ sq cs H,cs.length=k→zad P r2 false ((t2 sq).set 7 (.p (.agg cs))) H (fun t H'=>t=t3 sq (.agg cs) H.length∧H'=H++[.box (cs.map .p)])
 e3a:∀ sq cs,cs.length=k→regX P any r3 dr (t3 sq (.agg cs) 2) [.mode,.box [.full []],.box (cs.map .p)] (fun _ H=>H=[.mode,.box [.msl 3 0 k 0 1],.box (cs.map .p),.mrow 0 k [.agg cs]])
 e3b:∀ sq cs ver es,cs.length=k→(∀ e∈es,e.cells.length=k)→es.length≤1000000→regX P any r3 dr (t3 sq (.agg cs) 3) [.mode,.box [.msl 2 ver k 0 es.length],.mrow ver k es,.box (cs.map .p)]
  (fun _ H=>∃ v',H=[.mode,.box [.msl 2 v' k 0 (es.length + 1)],.mrow v' k (es++[.agg cs]),.box (cs.map .p)])
 e4:∀ (sq x:AV) (H:List Ob) (K:List AV→List Ob→Prop),H[1]? = some (.box [x])→K (t4 sq x) H→zad P r4 false (t2 sq) H K
def HSr (k:Nat) (es:List T) (i:Nat) (H:List Ob):Prop :=
 match i with
 | 0=>H=[.mode,.box [.full []]]
 | i + 1=>∃ ver,H=[.mode,.box [.msl 2 ver k 0 (i + 1)],.mrow ver k (es.take (i + 1))]
structure JA (k:Nat) (es:List T) (w:World) (G G2:Gh) (l D:Nat) (rec:LoopState→Option Code→Loop) (i:Nat) (W:World) (GA:Gh) (H:List Ob):Prop where
 obs:HSr k es i H
 inv:Inv W GA H
 grow:Grow G2 GA
 move:Move 0 w G W GA
 al:Aside W GA l
 ad:Aside W GA D
 hl:W.heap[l]? = some (.loop (rec .ready none))
 hd:W.heap[D]? = some (.deferred (some []))
theorem JA.ext {k:Nat} {es:List T} {w:World} {G G2:Gh} {l D:Nat} {rec:LoopState→Option Code→Loop} {i:Nat} {W W':World} {GA:Gh} {H:List Ob} (h:JA k es w G G2 l D rec i W GA H) (e:Ext W W'):JA k es w G G2 l D rec i W' GA H :=
 ⟨h.obs,zDZ h.inv e,h.grow,zBy h.move e,h.al.ext e,h.ad.ext e,(e.keep l h.al.lt).trans h.hl,(e.keep D h.ad.lt).trans h.hd⟩
theorem zEH {G2 G4:Gh} {ids:List Nat} (hg:Grow G2 G4) (hn:∀ id l,G2.loc id=some l→id < 2) (h0:ids[0]? = some 0) (h1:ids[1]? = some 1):Grow G2 (G4.part ids):=by
 refine ⟨hg.rd,fun id l e=>?_⟩
 obtain ⟨l',e',hle⟩:=hg.loc id l e
 refine ⟨l', ?_,hle⟩
 have:=hn id l e
 match id,this with
 | 0,_=>simp [Gh.part,h0,e']
 | 1,_=>simp [Gh.part,h1,e']
section
variable {A V1 k:Nat}
theorem zFn (F:ApF P A k) {es:List T} {w:World} {G G2:Gh} {l D:Nat} {rec:LoopState→Option Code→Loop} {tm:Array Value} {fnA:FuncId} {sq:AV}
  (hrec:rec=fun st pe=>{ state:=st,pending:=pe,fn:=fnA,tmps:=tm,params:=#[7],assign:=.region 2 F.r2 false,body:=.block 1 (.region 3 F.r3 F.dr),defers:=D })
  (hw:w.heap.size≤l) (hDl:D≠l) (hnl:∀ id l,G2.loc id=some l→id < 2) (ht2:RepTm G2 (F.t2 sq) tm) (hes:es.length≤1000000) (hek:∀ e∈es,e.cells.length=k)
  {i:Nat} (hi:i < es.length) {cs:List T} (hcs:es[i]=.agg cs) (hck:cs.length=k) {v:Value} (hv:RepT G2.rd (.agg cs) v) {W:World} {GA:Gh} {H:List Ob} (hJ:JA k es w G G2 l D rec i W GA H) :
  YieldAt Fence.wide 0 P l #[v] W fun e W'=>e=.returned (.bool true) ∧ ∃ GA' H',JA k es w G G2 l D rec (i + 1) W' GA' H':=by
 have hy:(Instr.yield l #[v]).run P W=.ok (.round l fnA (tm.setIfInBounds 7 v) (.region 2 F.r2 false) (.block 1 (.region 3 F.r3 F.dr))) W:=by
  have:=run_yield (P:=P) (args:=#[v]) hJ.hl (by rw [hrec]; rfl)
  rw [this,hrec]
  simp
 refine ⟨fnA,_,_,_,hy,roundIn_of_wpIn trivial ?_⟩
 have hrt:RepTm GA ((F.t2 sq).set 7 (.p (.agg cs))) (tm.setIfInBounds 7 v):=by
  have h1:RepA GA (.p (.agg cs)) v:=.p _ _ (hv.mono hJ.grow.rd)
  exact (ht2.mono hJ.grow).put (a:={ tmps:=tm,defers:=[] }) (some 7) h1
 refine zzd F.mixed (F.e2 sq cs H hck) F.p2 (fun ⟨a,w,h⟩=>h) hJ.inv hrt ?_
 rintro a3 w3 G3 t3 H3 ⟨rfl,rfl⟩ hi3 ht3 hd3 hk3 hs3
 obtain ⟨al3,el3⟩:=hJ.al.step hs3
 obtain ⟨ad3,ed3⟩:=hJ.ad.step hs3
 have hl3:w3.heap[l]? = some (.loop (rec .ready none)):=el3.trans hJ.hl
 have hd3':w3.heap[D]? = some (.deferred (some [])):=ed3.trans hJ.hd
 have hbr:=run_beginRound (P:=P) hl3 (by rw [hrec])
 refine ⟨_,hbr, ?_⟩
 have hi3':=zqn hi3 al3 (.loop { rec .ready none with state:=.busy })
 have hl4:(w3.putObj l (.loop { rec .ready none with state:=.busy })).heap[l]? = some (.loop { rec .ready none with state:=.busy }):=World.putObj_heap_same al3.lt
 have hd4:(w3.putObj l (.loop { rec .ready none with state:=.busy })).heap[D]? = some (.deferred (some [])):=(World.putObj_heap_other hDl).trans hd3'
 have hm3:Move 0 w G (w3.putObj l (.loop { rec .ready none with state:=.busy })) G3:=zs7 (hJ.move.trans (hs3 0)) hw _
 have hg3:Grow G2 G3:=hJ.grow.trans hs3.grow
 have al3':=al3.put (c:=l) (.loop { rec .ready none with state:=.busy })
 have ad3':=ad3.put (c:=l) (.loop { rec .ready none with state:=.busy })
 generalize w3.putObj l (.loop { rec .ready none with state:=.busy })=w4 at hi3' hl4 hd4 hm3 al3' ad3'
 refine wpIn_block ?_
 -- what is left to show behind the body
 have fin:∀ (a5:Act) (w5:World) (G5:Gh) (H5 Hn:List Ob) (ids:List Nat),Inv w5 G5 H5→Step w4 G3 w5 G5→ids.Nodup→zcG (renF H5 ids) H5 ids Hn→Hn.all (Ob.below ids.length)=true→ids[0]? = some 0→ids[1]? = some 1→HSr k es (i + 1) Hn →
   roundPost P l (fun e W'=>e=.returned (.bool true) ∧ ∃ GA' H',JA k es w G G2 l D rec (i + 1) W' GA' H') .normal a5 w5:=by
  intro a5 w5 G5 H5 Hn ids hi5 hs5 hnd hf hb h0 h1 hob
  obtain ⟨al5,el5⟩:=al3'.step hs5
  obtain ⟨ad5,ed5⟩:=ad3'.step hs5
  have hl5:=el5.trans hl4
  have hend:=run_endRound (P:=P) none hl5
  refine ⟨_,_,hend,rfl,G5.part ids,Hn,hob, ?_, ?_, ?_, ?_, ?_, ?_, ?_⟩
  ·exact zqn (zFH hi5 hnd hf hb) (al5.part ids) _
  ·exact zEH (hg3.trans hs5.grow) hnl h0 h1
  ·exact zs7 (zEM ids (hm3.trans (hs5 0)) (fun id hid=>absurd hid (by omega))) hw _
  ·exact (al5.part ids).put _
  ·exact (ad5.part ids).put _
  ·rw [World.putObj_heap_same al5.lt,hrec]; simp
  ·exact (World.putObj_heap_other hDl).trans (ed5.trans hd4)
 have hlo:¬ LetsOut (Exit.inBlock 1 (roundPost P l (fun e W'=>e=.returned (.bool true) ∧ ∃ GA' H',JA k es w G G2 l D rec (i + 1) W' GA' H'))):=fun ⟨a,w,h⟩=>h
 have hob:=hJ.obs
 cases i with
 | zero =>
  have hob:H=_:=hob
  subst hob
  refine zxC F.mixed (F.e3a sq cs hck) F.p3 hlo hi3' ht3 ?_
  rintro a5 w5 G5 t5 H5 rfl hi5 ht5 hd5 hk5 hs5
  have e1:es.take (0 + 1)=[.agg cs]:=by
   cases es with
   | nil=>simp at hi
   | cons x r=>simp at hcs; simp [hcs]
  exact fin a5 w5 G5 _ [.mode,.box [.msl 2 0 k 0 1],.mrow 0 k [.agg cs]] [0,1,3] hi5 hs5 (by decide) (by simp [zcG,Ob.ren,AV.ren1,renF]) (by simp [Ob.below,AV.under1]) rfl rfl ⟨0,by rw [e1]⟩
 | succ j =>
  obtain ⟨ver,hob⟩:=hob
  subst hob
  have hlen:(es.take (j + 1)).length=j + 1:=by simp; omega
  have h3b:=F.e3b sq cs ver (es.take (j + 1)) hck (fun e he=>hek e (List.mem_of_mem_take he)) (by omega)
  rw [hlen] at h3b
  refine zxC F.mixed h3b F.p3 hlo hi3' ht3 ?_
  rintro a5 w5 G5 t5 H5 ⟨v',rfl⟩ hi5 ht5 hd5 hk5 hs5
  have e1:es.take (j + 1 + 1)=es.take (j + 1)++[.agg cs]:=by
   rw [List.take_succ_eq_append_getElem hi,hcs]
  exact fin a5 w5 G5 _ [.mode,.box [.msl 2 v' k 0 (j + 1 + 1)],.mrow v' k (es.take (j + 1)++[.agg cs])] [0,1,2] hi5 hs5 (by decide) (by simp [zcG,Ob.ren,AV.ren1,renF]) (by simp [Ob.below,AV.under1]) rfl rfl ⟨v',by rw [e1]⟩
theorem ap_end {w w5 w6:World} {G G5:Gh} {es:List T} {H:List Ob} (hob:HSr k es es.length H) (hi:Inv w5 G5 H) {x:AV} (hx:(es=[]→x=.full [])∧(∀ ver,H=[.mode,.box [.msl 2 ver k 0 es.length],.mrow ver k es]→x=.msl 2 ver k 0 es.length)) {v:Value} (hv:RepA G5 x v)
  (hm:Move 0 w G w5 G5) (hi6:Inv w6 G5 H) (hm6:Move 0 w G w6 G5) (hlm:es.length≤maxLen):∃ G',RepA G' (.msl 0 0 k 0 es.length) v∧Inv w6 G' [.mrow 0 k es]∧Move 0 w G w6 G':=by
 cases es with
 | nil =>
  have:=hx.1 rfl
  subst this
  cases hv with
  | full _ a h =>
   refine ⟨⟨G5.rd,fun i=>if i=0 then some (.mrow none 0 0 k) else none⟩,.msl 0 0 k 0 0 none none a 0 0 0 0 (by simp) (Nat.le_refl _) (fun _=>⟨rfl,rfl⟩) (by simp) (by simp) (fun h=>absurd h (by omega)) rfl (fun h=>absurd h (by omega)),⟨hi6.rd,fun id l e=>?_,fun i j b e1 e2=>?_,hi6.tab⟩,⟨hm6.os,hm6.tape,hm6.output,hm6.drawn,hm6.size,hm6.keep,hm6.rd,hm6.rdn,fun id hid=>by omega,fun id b e=>?_⟩⟩
   ·simp only at e
    split at e
    ·rename_i h
     subst h
     simp at e; subst e
     exact ⟨_,rfl,⟨rfl,rfl,by simp,by simp⟩,fun h=>absurd h (by omega)⟩
    ·simp at e
   ·simp only [Gh.blk] at e1
    split at e1 <;> simp [Loc.blk] at e1
   ·simp only [Gh.blk] at e
    split at e <;> simp [Loc.blk] at e
 | cons t r =>
  obtain ⟨ver,hH⟩:=hob
  rw [show (t::r).take (r.length + 1)=t::r by simp] at hH
  have:=hx.2 ver hH
  subst this
  subst hH
  cases hv with
  | msl _ _ _ _ _ a a' a2 cap cap' ver' c2 hl hn he hc hm' hz h2 ha =>
   obtain ⟨ob,ho,hh⟩:=hi6.obj 2 _ hl
   simp at ho; subst ho
   have hver:ver'=ver:=hh.1.1
   subst hver
   obtain ⟨rfl,rfl⟩:=he rfl
   have hloc:∀ i l,(⟨G5.rd,fun i=>if i=0 then some (.mrow a cap 0 k) else none⟩:Gh).loc i=some l→i=0∧l=.mrow a cap 0 k:=by
    intro i l e
    simp only at e
    split at e
    ·rename_i h; exact ⟨h,by simpa using e.symm⟩
    ·simp at e
   have hblk:∀ i b,(⟨G5.rd,fun i=>if i=0 then some (.mrow a cap 0 k) else none⟩:Gh).blk i=some b→i=0∧G5.blk 2=some b:=by
    intro i b e
    simp only [Gh.blk,Option.bind_eq_some_iff] at e
    obtain ⟨l,h1,h2⟩:=e
    obtain ⟨rfl,rfl⟩:=hloc i l h1
    refine ⟨rfl, ?_⟩
    simp only [Gh.blk,hl,Option.bind_some]
    cases a <;> exact h2
   refine ⟨⟨G5.rd,fun i=>if i=0 then some (.mrow a cap 0 k) else none⟩,.msl 0 0 k 0 _ a a a2 cap cap 0 c2 (by simp) (Nat.le_refl _) (fun _=>⟨rfl,rfl⟩) hc hm' hz h2 ha,⟨hi6.rd,fun id l e=>?_,fun i j b e1 e2=>by rw [(hblk i b e1).1,(hblk j b e2).1],hi6.tab⟩,⟨hm6.os,hm6.tape,hm6.output,hm6.drawn,hm6.size,hm6.keep,hm6.rd,hm6.rdn,fun id hid=>by omega,fun id b e=>hm6.new 2 b (hblk id b e).2⟩⟩
   obtain ⟨rfl,rfl⟩:=hloc id l e
   exact ⟨_,rfl,⟨rfl,rfl,hh.1.2.2.1,hh.1.2.2.2⟩,hh.2⟩
set_option maxHeartbeats 1000000 in
theorem ap_fn (F:ApF P A k) (V:ValK P V1 k) {es:List T} (hes:es.length≤1000000) (he:∀ e∈es,∃ cs,e=.agg cs∧cs.length=k) (hcv:zcD P V1=true) :
  Fn P A [] [.full [],.p (.func V1 [.imm [.slice es] 0])] (.msl 0 0 k 0 es.length) [.mrow 0 k es]:=by
 refine fn_mode ⟨F.hc,fun w G vs hi hv=>?_⟩
 have hek:∀ e∈es,e.cells.length=k:=fun e h=>by obtain ⟨cs,rfl,h2⟩:=he e h; exact h2
 have hG0:∀ id,id < 1→G.loc id=none:=by
  intro id hid
  cases e:G.loc id with
  | none=>rfl
  | some l =>
   obtain ⟨ob,ho,hh⟩:=hi.obj id l e
   have:id=0:=by omega
   subst this
   simp at ho; subst ho
   cases l <;> exact hh.elim
 have key:CallsIn Fence.wide 0 P A vs w (fun e w'=>∃ v G',e=.returned v∧RepA G' (.msl 0 0 k 0 es.length) v∧Inv w' G' [.mrow 0 k es]∧Move 0 w G w' G'):=by
  refine callsIn_of_wp_marks F.hf F.hbody trivial ?_
  have ht:=zDO hv F.fn.ntmps
  rw [F.hnt] at ht ⊢
  generalize hsq:AV.p (.func V1 [.imm [.slice es] 0])=sq at *
  refine wpIn_seq (wpIn_wide.2 (zdN F.mixed (F.e0 sq) hi (a:={ tmps:=vs++Array.replicate (F.nt - vs.size) undef,defers:=[] }) ht ?_))
  rintro a1 w1 G1 t1 H1 ⟨rfl,rfl⟩ hi1 ht1 hd1 hk1 hs1
  refine wpIn_seq (wpIn_seq (wpIn_wide.2 (zdN F.mixed (F.e1 sq) hi1 ht1 ?_)))
  rintro a2 w2 G2 t2 H2 ⟨rfl,rfl⟩ hi2 ht2 hd2 hk2 hs2
  have hda2:a2.defers=[]:=hd2.trans hd1
  have hm2:Move 0 w G w2 G2:=(hs1 0).trans (hs2 0)
  have hnl:∀ id l,G2.loc id=some l→id < 2:=fun id l e=>hi2.loc_lt e
  -- the row
  have h6:RepA G2 sq (a2.tmps.getD 6 undef):=by have:=ht2.2 6; rw [F.g6] at this; exact this
  rw [← hsq] at h6
  obtain ⟨us,e6,hus,hu⟩:=zsS h6
  have hpv:=hu 0 _ rfl
  have hus1:us = #[us.getD 0 undef]:=by
   refine Array.ext (by simpa using hus) (fun i h1 h2=>?_)
   have:i=0:=by simp at h2; omega
   subst this
   simp [Array.getD_eq_getD_getElem?,h1]
  generalize us.getD 0 undef=pv at hpv hus1
  obtain ⟨xs,hxl,hxk,hxr,hxe⟩:∃ xs:List (List Value),xs.length=es.length∧(∀ v∈xs,v.length=k)∧RepT G2.rd (.imm [.slice (xs.map rawL)] 0) pv ∧ ∀ (i:Nat) (e:T) (v:List Value),es[i]? = some e→xs[i]? = some v→RepT G2.rd e (.agg v.toArray):=by
   cases hpv with
   | imm _ _ b o val hr hv hk =>
    have h1:=hv 0 _ rfl
    have h2:=hk 0 _ rfl
    have h3:=hr 0 _ rfl
    have:∃ a n cap,val 0=.slice a n cap:=by
     generalize val 0=u at h1
     cases h1 with
     | nil a cap=>exact ⟨_,_,_,rfl⟩
     | slice=>exact ⟨_,_,_,rfl⟩
    obtain ⟨a,n,cap,ev⟩:=this
    rw [ev] at h1
    obtain ⟨_,xs,x1,x2,x3,x4⟩:=raws_of he h1
    refine ⟨xs,x1,x2, ?_,x4⟩
    refine .imm [.slice (xs.map rawL)] 0 b o val (fun j c hj=>?_) (fun j c hj=>?_) (fun j c hj=>?_)
    all_goals
     cases j with
     | zero=>simp at hj; subst hj; first | exact h3 | (rw [ev]; exact x3) | exact h2
     | succ j=>simp at hj
  refine wpIn_block (wpIn_rangeFunc ?_)
  intro fnA _
  rw [show Fence.wide.round=none from rfl]
  obtain ⟨rec,hrec⟩:∃ rec:LoopState→Option Code→Loop,rec=fun st pe=>{ state:=st,pending:=pe,fn:=fnA,tmps:=a2.tmps,params:=#[7],assign:=.region 2 F.r2 false,body:=.block 1 (.region 3 F.r3 F.dr),defers:=w2.heap.size }:=⟨_,rfl⟩
  obtain ⟨W1,hW1⟩:∃ W1,(w2.alloc (.deferred (some []))).alloc (.loop (rec .ready none))=W1:=⟨_,rfl⟩
  have hl1:W1.heap[w2.heap.size + 1]? = some (.loop (rec .ready none)):=by
   rw [← hW1]; have:=World.alloc_heap_new (w2.alloc (.deferred (some []))) (.loop (rec .ready none)); rwa [World.size_alloc] at this
  have hd1:W1.heap[w2.heap.size]? = some (.deferred (some [])):=by
   rw [← hW1]; exact (Below.heap_alloc _ _ _ (by simp)).trans (World.alloc_heap_new w2 _)
  have hx1:Ext w2 W1:=by
   rw [← hW1]
   refine ⟨rfl,rfl,rfl,Nat.le_refl _,by simp; omega,fun b hb=>?_⟩
   rw [Below.heap_alloc _ _ _ (by simp; omega),Below.heap_alloc _ _ _ hb]
  have hsz1:W1.heap.size=w2.heap.size + 2:=by rw [← hW1]; simp
  have hJ0:JA k es w G G2 (w2.heap.size + 1) w2.heap.size rec 0 W1 G2 [.mode,.box [.full []]]:=by
   refine ⟨rfl,zDZ hi2 hx1,Grow.refl _,zBy hm2 hx1,⟨by omega,fun o=>?_,fun id e=>?_⟩,⟨by omega,fun o=>?_,fun id e=>?_⟩,hl1,hd1⟩
   ·cases e:G2.rd (w2.heap.size + 1) o with
    | none=>rfl
    | some c=>have:=hi2.rd_lt e; omega
   ·have:=hi2.blk_lt e; omega
   ·cases e:G2.rd w2.heap.size o with
    | none=>rfl
    | some c=>have:=hi2.rd_lt e; omega
   ·have:=hi2.blk_lt e; omega
  have eg:∀ args w,(callFunc V1 args).run P w=.ok (.enter V1 args) w:=fun args w=>zm2 hcv args w
  have hg:a2.eval (.tmp 6)=.func (.func V1) #[] #[pv]:=by show a2.tmps.getD 6 undef=_; rw [e6,← hus1]
  refine ⟨w2.heap.size + 1,[{ target:=.collected w2.heap.size,args:=#[] }],W1,{ target:=.fn (.func V1) #[pv],args:=#[.func (.yield (w2.heap.size + 1)) #[] #[]] },W1,V1,
   #[.func (.yield (w2.heap.size + 1)) #[] #[]] ++ #[pv],W1, ?_, ?_,fun _ _=>trivial, ?_,fun h=>by simp [Fence.wide] at h, ?_⟩
  ·rw [← hW1,hrec]; exact run_enterLoop_outer _ _ _ _ _
  ·simp only [resolve,hg]
   simp [go_sem]
  ·simp [invoke,go_sem,eg]
  refine (zE6 V (G:=G2.bare) hxk hxr (fun i W=>∃ GA H,JA k es w G G2 (w2.heap.size + 1) w2.heap.size rec i W GA H) ?_ ?_ ?_ ⟨_,_,hJ0⟩).mono ?_
  ·rintro i W ⟨GA,H,hJ⟩
   refine ⟨fun b o c e=>hJ.inv.rd b o c (hJ.grow.rd b o c e),fun id l e=>by simp [Gh.bare] at e,fun i j b e=>by simp [Gh.bare,Gh.blk] at e,fun g cs hmem=>?_⟩
   obtain ⟨h1,h2,_⟩:=hJ.inv.tab g cs hmem
   exact ⟨h1,h2,(hi2.tab g cs hmem).2.2⟩
  ·rintro i W W' ⟨GA,H,hJ⟩ hx
   exact ⟨GA,H,hJ.ext hx⟩
  ·rintro i hlt W ⟨GA,H,hJ⟩
   have hie:i < es.length:=by omega
   obtain ⟨cs,hcs,hck⟩:=he es[i] (List.getElem_mem hie)
   have hve:=hxe i es[i] xs[i] (List.getElem?_eq_getElem hie) (List.getElem?_eq_getElem hlt)
   rw [hcs] at hve
   exact zFn F hrec (by have:=hm2.size; omega) (by omega) hnl ht2 hes hek hie hcs hck hve hJ
  rintro e w3 ⟨rfl,GA,H,hJ⟩
  rw [hxl] at hJ
  have hend:(Instr.endLoop (w2.heap.size + 1)).run P w3=.ok none (w3.putObj (w2.heap.size + 1) (.loop { rec .ready none with state:=.exhausted })):=by
   rw [run_endLoop (P:=P) hJ.hl (by rw [hrec]; simp)]
   congr 1
   rw [hrec]
  refine ⟨none,_,hend, ?_⟩
  have hi4:=zqn hJ.inv hJ.al (.loop { rec .ready none with state:=.exhausted })
  have ad4:=hJ.ad.put (c:=w2.heap.size + 1) (.loop { rec .ready none with state:=.exhausted })
  have hd4:(w3.putObj (w2.heap.size + 1) (.loop { rec .ready none with state:=.exhausted })).heap[w2.heap.size]? = some (.deferred (some [])):=(World.putObj_heap_other (by omega)).trans hJ.hd
  have hm4:Move 0 w G (w3.putObj (w2.heap.size + 1) (.loop { rec .ready none with state:=.exhausted })) GA:=zs7 hJ.move (by have:=hm2.size; omega) _
  generalize w3.putObj (w2.heap.size + 1) (.loop { rec .ready none with state:=.exhausted })=w4 at hi4 ad4 hd4 hm4
  have ht4:RepTm GA (F.t2 sq) a2.tmps:=ht2.mono hJ.grow
  have hob:=hJ.obs
  show (Code.seq _ _).wpIn Fence.wide 0 P _ _ w4
  have h4:zad P F.r4 false (F.t2 sq) H (fun t H'=>H'=H∧(es=[]→t.getD 4 .top=.full []) ∧ ∀ ver,H=[.mode,.box [.msl 2 ver k 0 es.length],.mrow ver k es]→t.getD 4 .top=.msl 2 ver k 0 es.length):=by
   cases hes0:es with
   | nil =>
    rw [hes0] at hob
    have hob:H=_:=hob
    subst hob
    exact F.e4 sq (.full []) _ _ rfl ⟨rfl,fun _=>F.g4 _ _,fun ver h=>by simp at h⟩
   | cons x r =>
    rw [hes0] at hob
    obtain ⟨ver,hob⟩:=hob
    subst hob
    exact F.e4 sq (.msl 2 ver k 0 (r.length + 1)) _ _ rfl ⟨rfl,fun h=>by simp at h,fun v h=>by
     rw [F.g4]
     simp only [List.cons.injEq,Ob.box.injEq,AV.msl.injEq,Ob.mrow.injEq,List.length_cons,true_and,and_true] at h ⊢
     exact h.1⟩
  refine wpIn_seq (wpIn_wide.2 (zdN F.mixed h4 hi4 (a:={ a2 with defers:=[{ target:=.collected w2.heap.size,args:=#[] }]++a2.defers }) ht4 ?_))
  rintro a5 w5 G5 t5 H5 ⟨rfl,hx5⟩ hi5 ht5 hd5 hk5 hs5
  obtain ⟨ad5,ed5⟩:=ad4.step hs5
  have hd5':w5.heap[w2.heap.size]? = some (.deferred (some [])):=ed5.trans hd4
  refine wpIn_ret ?_
  have hdef:a5.defers=[{ target:=.collected w2.heap.size,args:=#[] }]:=by rw [hd5,hda2]; rfl
  show LeavesInM Fence.wide 0 P F.fn a5.tmps _ a5.defers .returning w5
  rw [hdef]
  refine ⟨by simp,.inl ⟨w2.heap.size,_,rfl,run_takeDeferred hd5', ?_⟩⟩
  have hv4:=ht5.2 4
  have hm5:Move 0 w G w5 G5:=hm4.trans (hs5 0)
  obtain ⟨G',r1,r2,r3⟩:=ap_end hob hi5 hx5 hv4 hm5 (zqn hi5 ad5 (.deferred none)) (zs7 hm5 (by have:=hm2.size; omega) _) (by unfold maxLen; omega)
  refine ⟨a5.tmps.getD 4 undef, ?_,_,G',rfl,r1,r2,r3⟩
  unfold results
  rw [F.hres]
  simp [Sem.run_bind,Result.andThen]
 refine (callsIn_wide.1 key).mono ?_
 rintro e w' ⟨v,G',rfl,hr,hi',hm⟩
 exact ⟨v,G',rfl,hr,hi',{ hm with loc:=fun id hid l e=>by rw [hG0 id hid] at e; simp at e }⟩
end
end Go.Abs
end

section
/- slices.AppendSeq, slices.Collect, slices.SortFunc, slices.SortedFunc over trees. -/
set_option linter.unusedSimpArgs false
set_option linter.unusedVariables false
set_option maxRecDepth 4000
namespace Go.Proofs.YtdmgbhamigegfaaGreatDoor
open Go Go.Abs
noncomputable def valV:ValK Tryz.prog zY 5 where
 mixed:=mixed
 fn:=Tryz.f141
 r0:=zb4
 r1:=zaW
 r2:=zaX
 r3:=zb5
 r4:=zaY
 z:=[(.p (.int .i64 0)),(.p (.int .i64 0)),(.p (.bool false)),(.p (.str [])),(.full [])]
 ty:=27
 tb:=4
 ats:=#[27]
 hf:=by kernel_rfl
 hnt:=by kernel_rfl
 hres:=by kernel_rfl
 hbody:=zew
 hz:=rfl
 ty0:=25
 s0:=by kernel_rfl
 p0:=by kernel_rfl
 p1:=by kernel_rfl
 p2:=by kernel_rfl
 l0:=⟨.slice 27,(Tryz.prog.info? 25).get (by kernel_rfl),by kernel_rfl,(Option.some_get _).symm,rfl,by kernel_rfl⟩
 l2:=fun t H K=>by kernel_rfl
 e1:=zed
 e2:=zee
 e4:=zef
 s3:=by kernel_rfl
 o0:=by kernel_rfl
 o1:=by kernel_rfl
 o2:=by kernel_rfl
 o3:=by kernel_rfl
 l1:=fun t H K=>by kernel_rfl
 k1:=by kernel_rfl
 k2:=by kernel_rfl
 k4:=by kernel_rfl
noncomputable def apV:ApF Tryz.prog zb0 5 where
 mixed:=mixed
 fn:=Tryz.f170
 r0:=zaN
 r1:=zaO
 r2:=zae
 r3:=zaf
 r4:=zaP
 dr:=true
 any:=true
 nt:=15
 t1:=fun sq=>[.full [],sq,.bptr 1 0,.top,.full [],.top,.top,.top,.top,.top,.top,.top,.top,.top,.top]
 t2:=fun sq=>[.full [],sq,.bptr 1 0,.top,.full [],.top,sq,.top,.top,.top,.top,.top,.top,.top,.top]
 t3:=fun sq e id=>[.full [],sq,.bptr 1 0,.top,.full [],.bptr id 0,sq,.p e,.top,.top,.top,.top,.top,.top,.top]
 t4:=fun sq x=>[.full [],sq,.bptr 1 0,.top,x,.top,sq,.top,.top,.top,.top,.top,.top,.top,x]
 hf:=by kernel_rfl
 hc:=by kernel_rfl
 hnt:=by kernel_rfl
 h4:=by decide
 hres:=by kernel_rfl
 hbody:=zeb
 p2:=zdi
 p3:=zdj
 l2:=fun _=>rfl
 g6:=fun _=>rfl
 g4:=fun _ _=>rfl
 e0:=fun sq=>by
  show zad _ _ _ [.full [],sq,.top,.top,.top,.top,.top,.top,.top,.top,.top,.top,.top,.top,.top] _ _
  rw [zdW]
  simp [aBox]
 e1:=fun sq=>by
  rw [zdX]
  exact ⟨rfl,rfl⟩
 e2:=fun sq cs H hk=>by
  have hput:put [(.p (.int .i64 0)),(.p (.int .i64 0)),(.p (.bool false)),(.p (.str [])),(.full [])] 0 (cs.map AV.p)=cs.map AV.p:=by simp [put,hk]
  show zad _ _ _ [.full [],sq,.bptr 1 0,.top,.full [],.top,sq,.p (.agg cs),.top,.top,.top,.top,.top,.top,.top] _ _
  rw [zdY]
  simp [zy,hk,hput,T.cells]
 e3a:=fun sq cs hk=>by
  have hd:(cs.map AV.p).take 5=cs.map AV.p:=List.take_of_length_le (by simp; omega)
  show true=true∧aAnyR _ _ [.full [],sq,.bptr 1 0,.top,.full [],.bptr 2 0,sq,.p (.agg cs),.top,.top,.top,.top,.top,.top,.top] _ _
  refine ⟨rfl, ?_⟩
  rw [zbx]
  simp [hk,hd,zvO]
  exact ⟨by simp,by simp [T.cells],by simp⟩
 e3b:=fun sq cs ver es hk hes hl=>by
  have hd:(cs.map AV.p).take 5=cs.map AV.p:=List.take_of_length_le (by simp; omega)
  show true=true∧aAnyR _ _ [.full [],sq,.bptr 1 0,.top,.full [],.bptr 3 0,sq,.p (.agg cs),.top,.top,.top,.top,.top,.top,.top] _ _
  refine ⟨rfl, ?_⟩
  rw [zbx]
  simp [hk,hd,zvO]
  exact ⟨by unfold maxLen; omega,⟨hes,by simp [T.cells],by simp; omega⟩,by omega⟩
 e4:=fun sq x H K h1 hk=>by
  rw [zdZ]
  simp [h1]
  exact hk
noncomputable def valW:ValK Tryz.prog z8 6 where
 mixed:=mixed
 fn:=Tryz.f147
 r0:=zck
 r1:=za6
 r2:=za7
 r3:=zcl
 r4:=za8
 z:=[(.p (.int .i64 0)),(.p (.int .i64 0)),(.p (.int .i64 0)),(.p (.bool false)),(.p (.str [])),(.full [])]
 ty:=51
 tb:=4
 ats:=#[51]
 hf:=by kernel_rfl
 hnt:=by kernel_rfl
 hres:=by kernel_rfl
 hbody:=zfi
 hz:=rfl
 ty0:=36
 s0:=by kernel_rfl
 p0:=by kernel_rfl
 p1:=by kernel_rfl
 p2:=by kernel_rfl
 l0:=⟨.slice 51,(Tryz.prog.info? 36).get (by kernel_rfl),by kernel_rfl,(Option.some_get _).symm,rfl,by kernel_rfl⟩
 l2:=fun t H K=>by kernel_rfl
 e1:=zeJ
 e2:=zeK
 e4:=zeL
 s3:=by kernel_rfl
 o0:=by kernel_rfl
 o1:=by kernel_rfl
 o2:=by kernel_rfl
 o3:=by kernel_rfl
 l1:=fun t H K=>by kernel_rfl
 k1:=by kernel_rfl
 k2:=by kernel_rfl
 k4:=by kernel_rfl
noncomputable def apW:ApF Tryz.prog zci 6 where
 mixed:=mixed
 fn:=Tryz.f174
 r0:=za0
 r1:=za1
 r2:=zaj
 r3:=zak
 r4:=za2
 dr:=false
 any:=false
 nt:=13
 t1:=fun sq=>[.full [],sq,.bptr 1 0,.top,.full [],.top,.top,.top,.top,.top,.top,.top,.top]
 t2:=fun sq=>[.full [],sq,.bptr 1 0,.top,.full [],.top,sq,.top,.top,.top,.top,.top,.top]
 t3:=fun sq e id=>[.full [],sq,.bptr 1 0,.top,.full [],.bptr id 0,sq,.p e,.top,.top,.top,.top,.top]
 t4:=fun sq x=>[.full [],sq,.bptr 1 0,.top,x,.top,sq,.top,.top,.top,.top,.top,x]
 hf:=by kernel_rfl
 hc:=by kernel_rfl
 hnt:=by kernel_rfl
 h4:=by decide
 hres:=by kernel_rfl
 hbody:=zeG
 p2:=zdH
 p3:=zdI
 l2:=fun _=>rfl
 g6:=fun _=>rfl
 g4:=fun _ _=>rfl
 e0:=fun sq=>by
  show zad _ _ _ [.full [],sq,.top,.top,.top,.top,.top,.top,.top,.top,.top,.top,.top] _ _
  rw [zeq]
  simp [aBox]
 e1:=fun sq=>by
  rw [zer]
  exact ⟨rfl,rfl⟩
 e2:=fun sq cs H hk=>by
  have hput:put [(.p (.int .i64 0)),(.p (.int .i64 0)),(.p (.int .i64 0)),(.p (.bool false)),(.p (.str [])),(.full [])] 0 (cs.map AV.p)=cs.map AV.p:=by simp [put,hk]
  show zad _ _ _ [.full [],sq,.bptr 1 0,.top,.full [],.top,sq,.p (.agg cs),.top,.top,.top,.top,.top] _ _
  rw [zes]
  simp [zy,hk,hput,T.cells]
 e3a:=fun sq cs hk=>by
  have hd:(cs.map AV.p).take 6=cs.map AV.p:=List.take_of_length_le (by simp; omega)
  refine zxB ?_
  show zad _ _ _ [.full [],sq,.bptr 1 0,.top,.full [],.bptr 2 0,sq,.p (.agg cs),.top,.top,.top,.top,.top] _ _
  rw [zbJ]
  simp [hk,hd,zvO]
  exact ⟨by simp,by simp [T.cells,hk],by simp⟩
 e3b:=fun sq cs ver es hk hes hl=>by
  have hd:(cs.map AV.p).take 6=cs.map AV.p:=List.take_of_length_le (by simp; omega)
  refine zxB ?_
  show zad _ _ _ [.full [],sq,.bptr 1 0,.top,.full [],.bptr 3 0,sq,.p (.agg cs),.top,.top,.top,.top,.top] _ _
  rw [zbJ]
  simp [hk,hd,zvO]
  exact ⟨hes,by simp [T.cells,hk],by simp; omega⟩
 e4:=fun sq x H K h1 hk=>by
  rw [zet]
  simp [h1]
  exact hk
attribute [local irreducible] Abs.Fn in
theorem zya {es:List T} (hes:es.length≤1000000) (he:∀ e∈es,∃ cs,e=.agg cs∧cs.length=5):Abs.Fn Tryz.prog zcL [] [.p (.func zY [.imm [.slice es] 0])] (.msl 0 0 5 0 es.length) [.mrow 0 5 es]:=by
 have h:=ap_fn apV valV hes he (by kernel_rfl)
 apply zkj
 simp [zdd]
 refine zqk [] h rfl (by simp [renF]) (by simp) (by simp [zcG]) (by simp [AV.under,AV.under1]) (by simp) ?_
 simp [renF,zfH,zcK]
 exact zqw [0] (by simp [renF]) rfl (by simp) (by simp [zcG,renF]) (by simp [AV.under,AV.under1]) (by simp [Ob.below])
attribute [local irreducible] Abs.Fn in
theorem zyb {es:List T} (hes:es.length≤1000000) (he:∀ e∈es,∃ cs,e=.agg cs∧cs.length=6):Abs.Fn Tryz.prog zcT [] [.p (.func z8 [.imm [.slice es] 0])] (.msl 0 0 6 0 es.length) [.mrow 0 6 es]:=by
 have h:=ap_fn apW valW hes he (by kernel_rfl)
 apply zk7
 simp [zdC]
 refine zqk [] h rfl (by simp [renF]) (by simp) (by simp [zcG]) (by simp [AV.under,AV.under1]) (by simp) ?_
 simp [renF,zfH,zcK]
 exact zqw [0] (by simp [renF]) rfl (by simp) (by simp [zcG,renF]) (by simp [AV.under,AV.under1]) (by simp [Ob.below])
end Go.Proofs.YtdmgbhamigegfaaGreatDoor
end
