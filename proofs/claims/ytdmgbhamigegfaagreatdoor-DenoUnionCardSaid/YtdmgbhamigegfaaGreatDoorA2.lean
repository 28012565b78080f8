/- Appending, closures, and the whole class of operations that turn objects. -/
import Derived.IntWalk
import Derived.Test.YtdmgbhamigegfaaGreatDoorA1

section
/- Appending, closures, and the whole class of operations that turn objects. -/
namespace Go.Abs
variable {P:Program}
def Src (P:Program) (s:Nat) (ms:List T) (w:World) (G:Gh) (v:Value):Prop :=
 (Builtin.lenOf v).run P w=.ok ms.length w ∧ ∃ us:List Value,(∀ w':World,w'.heap=w.heap→(Builtin.firstCells s ms.length v).run P w'=.ok us.toArray w')∧Flat G.rd s ms us ∧ ∀ u∈us,zQ u=true
theorem zzg {w:World} {G:Gh} {H:List Ob} (hi:Inv w G H) {ms:List T} {s:Nat} {v:Value} (hr:RepT G.rd (.slice ms) v) (hs:∀ e∈ms,e.cells.length=s):Src P s ms w G v:=by
 obtain ⟨a,cap,rfl,_,_⟩:=hr.slice_form
 exact ⟨rfl,zin (P:=P) hi hr hs⟩
theorem zAg {w:World} {G:Gh} {H:List Ob} (hi:Inv w G H) {id ver s off len:Nat} {es:List T} {v:Value} (ho:H[id]? = some (.mrow ver s es)∨H[id]? = some (.frow ver s es)) (hle:off + len≤es.length) (hr:RepA G (.msl id ver s off len) v) :
  Src P s ((es.drop off).take len) w G v:=by
 have hn:((es.drop off).take len).length=len:=by simp; omega
 cases hr with
 | msl _ _ _ _ _ a a' a2 cap cap' ver' c2 hl hv he hc hm hz h2 ha =>
  obtain ⟨rfl,_,h3,h4,h5⟩:=zi2 hi ho hl
  obtain ⟨rfl,rfl⟩:=he rfl
  refine ⟨by rw [hn]; rfl, ?_⟩
  rw [hn]
  by_cases h0:len=0
  ·subst h0
   refine ⟨[],fun w' _=>?_,⟨by simp,fun i j e c he=>by simp at he⟩,by simp⟩
   cases a2 with
   | none=>rfl
   | some a=>simp [Builtin.firstCells,loadCells,loadCellsFrom]
  ·obtain ⟨b,o,f,rfl,hf⟩:=h5 (by omega)
   have ha:=ha (by omega)
   subst ha
   simp only [Option.map_some,zbb]
   have look:∀ i e,((es.drop off).take len)[i]? = some e→es[off + i]? = some e:=by
    intro i e he
    rw [List.getElem?_take] at he
    split at he
    ·rwa [List.getElem?_drop] at he
    ·simp at he
   exact zpw (fun i j=>f (off + i) j) hn (fun e he=>h4 e (List.mem_of_mem_drop (List.mem_of_mem_take he))) (fun i j e c he hc=>by
    have:=hf (off + i) j e c (look i e he) hc
    rw [Nat.add_mul,← Nat.add_assoc] at this
    exact this)
theorem src_str {w:World} {G:Gh} {l:List UInt8}:Src P 1 (l.map byteT) w G (.string ⟨l.toArray⟩):=by
 refine ⟨by simp [Builtin.lenOf,ByteArray.size], ?_⟩
 obtain ⟨us,_,h2,h3⟩:=zpx (P:=P) (w:=w) G.rd l
 refine ⟨us,fun w' _=>?_,h2,h3⟩
 obtain ⟨us',g1,g2,_⟩:=zpx (P:=P) (w:=w') G.rd l
 have:us'=us:=by
  apply List.ext_getElem?
  intro k
  have e1:=g2.1
  have e2:=h2.1
  simp at e1 e2
  rcases Nat.lt_or_ge k l.length with hk | hk
  ·have he:(l.map byteT)[k]? = some (byteT l[k]):=by simp [List.getElem?_eq_getElem hk]
   obtain ⟨v1,a1,b1,_⟩:=g2.2 k 0 _ (byteT l[k]) he rfl
   obtain ⟨v2,a2,b2,_⟩:=h2.2 k 0 _ (byteT l[k]) he rfl
   simp at a1 a2
   rw [a1,a2,zkR.1 b1,zkR.1 b2]
  ·rw [List.getElem?_eq_none (by omega),List.getElem?_eq_none (by omega)]
 rw [this] at g1
 simpa using g1
theorem zCK {H:List Ob} {G G1:Gh} {id:Nat} {l l':Loc} (h:G.loc id=some l) (e:G1.loc=G.loc:=by rfl):Dom H G (G1.withLoc id l'):=by
 intro j _ hj
 simp only [Gh.withLoc]
 rw [if_neg (fun hx=>by subst hx; rw [h] at hj; simp at hj),e]
 exact hj
theorem zct {o:Oper} {x y:Operand} {t u:TypeId} (hop:o.op=.call { callee:=.builtin .append,args:=#[x,y],argTypes:=#[t,u] }) {a:Act} {w w':World} {v:Value}
  (h:(Builtin.append_ #[t,u] o.type #[a.eval x,a.eval y]).run P w=.ok v w'):(execOp a.eval o).run P w=.ok (.value v) w':=by
 unfold execOp; rw [hop]
 simp only [resolve,Sem.run_bind,Sem.run_pure,Result.andThen,invoke,builtin]
 have:(#[x,y]:Array Operand).map a.eval = #[a.eval x,a.eval y]:=by simp
 rw [this,h]
theorem zhj {o:Oper} {x y:Operand} {t u e:TypeId} {d:TypeDesc} {i:TypeInfo} (hop:o.op=.call { callee:=.builtin .append,args:=#[x,y],argTypes:=#[t,u] })
  (ht:P.underlying t=some (.slice e)) (hu:P.underlying u=some d) (hd:(∃ e',d=.slice e')∨d=.string) (hi:P.info? e=some i) (hz:zsz i=true) (heb:i.bytes≤2 ^ 20)
  {ρ:Operand→AV} {ms:List T} {H:List Ob} {K:AV→List Ob→Prop}
  (hsrc:(∀ e∈ms,e.cells.length=i.size)→∀ (a:Act) (w:World) (G:Gh),Inv w G H→RepA G (ρ y) (a.eval y)→Src P i.size ms w G (a.eval y)) (h:zaz i.size i.bytes (ρ x) ms H K) :
  ∃ r H',K r H'∧Does P o ρ r H H':=by
 obtain ⟨z,hzz,hzs⟩:∃ z,i.zero=some z∧z.cells.size=i.size:=by
  unfold zsz at hz
  split at hz
  ·rename_i z hz'; exact ⟨z,hz',by simpa using hz⟩
  ·simp at hz
 have memx:x∈o.op.operands:=by rw [hop]; simp [Op.operands,Call.operands]
 have memy:y∈o.op.operands:=by rw [hop]; simp [Op.operands,Call.operands]
 have hzc:∀ k,(Builtin.zeroCells z.cells k).size=k * i.size:=by intro k; simp [Builtin.zeroCells,hzs]
 -- a new block that holds all
 have fresh:∀ {rd:Rd} {es:List T} {vs us:List Value} {c':Nat} {w w':World} {G:Gh},Inv w G H→G.rd=rd→Flat rd i.size es vs→Flat rd i.size ms us→zbv i.size i.bytes es ms→es.length + ms.length≤c' →
   w'.heap=w.heap.push (.cells (vs.toArray++us.toArray++Builtin.zeroCells z.cells (c' - (es.length + ms.length))) e) →
   ∃ (cs:Array Value) (r:Nat→Option Value),w'.heap=w.heap.push (.cells cs e)∧(∀ o c,r o=some c→cs[o]? = some c)∧c' * i.size≤cs.size∧(∀ k,(es.length + ms.length) * i.size≤k→r k=none) ∧
    ∀ rd',(∀ b o c,rd b o=some c→rd' b o=some c)→(∀ o,rd' w.heap.size o=r o)→RepT rd' (.slice (es++ms)) (.slice (some ⟨w.heap.size,0,none⟩) (es.length + ms.length) c'):=by
  intro rd es vs us c' w w' G hinv hrd f1 f2 hap hc hh
  refine ⟨_,fun k=>if k < (es.length + ms.length) * i.size then (vs.toArray++us.toArray++Builtin.zeroCells z.cells (c' - (es.length + ms.length)))[k]? else none,hh,fun k c hk=>?_, ?_,fun k hk=>?_,fun rd' hmono hnew=>?_⟩
  ·simp only [] at hk
   split at hk
   ·exact hk
   ·simp at hk
  ·simp only [Array.size_append,List.size_toArray,hzc,f1.1,f2.1]
   rw [← Nat.add_mul,← Nat.add_mul]
   exact Nat.mul_le_mul_right _ (by omega)
  ·simp only []
   rw [if_neg (by omega)]
  ·have hf:=(f1.append f2).mono hmono
   have:=hf.rep (b:=w.heap.size) (o:=0) (cap:=c') (fun e he=>by
     rcases List.mem_append.1 he with h | h
     ·exact hap.1 e h
     ·exact hap.2.1 e h) (fun k v hk=>by
     have hlt:k < (es.length + ms.length) * i.size:=by
      have:=(List.getElem?_eq_some_iff.1 hk).1
      simp [f1.1,f2.1] at this
      rw [Nat.add_mul]; exact this
     rw [Nat.zero_add,hnew]
     simp only [if_pos hlt]
     rw [Array.getElem?_append_left (by simp [f1.1,f2.1]; rw [← Nat.add_mul]; exact hlt)]
     simpa using hk) (by
     have h3:=hap.2.2
     have:es.length + ms.length≤(es.length + ms.length) * (i.bytes + 1):=Nat.le_mul_of_pos_right _ (by omega)
     simp only [List.length_append]
     unfold maxLen
     omega) (by simpa using hc)
   simpa using this
 unfold zaz at h
 split at h
 ·-- a slice whose capacity is its length
  rename_i es hx0
  split at h
  ·-- a row that is to be written
   obtain ⟨⟨rfl,hap⟩,hk⟩:=h
   refine ⟨_,_,hk,zcE fun a w G hinv hx=>?_⟩
   have rx:=hx x memx
   obtain ⟨hlen,us,hus,fu,hsc⟩:=hsrc hap.2.1 a w G hinv (hx y memy)
   rw [hx0] at rx
   obtain ⟨ad,ev⟩:∃ ad,a.eval x=.slice ad 0 0:=by
    generalize a.eval x=v at rx
    cases rx with
    | full _ ad h=>exact ⟨ad,rfl⟩
   by_cases hm:ms.length=0
   ·have hms:ms=[]:=List.eq_nil_of_length_eq_zero hm
    subst hms
    have hus0:us=[]:=List.eq_nil_of_length_eq_zero (by simpa using fu.1)
    subst hus0
    have hrun:=zcV (P:=P) (ty:=o.type) ht hu hd hi (a:=ad) (n:=0) (cap:=0) (m:=0) (x:=a.eval y) (w:=w) (w':=w) (us:=[]) hlen (Nat.le_refl _) (hus w rfl)
     (by cases ad <;> rfl)
    obtain ⟨i1,s1⟩:=zm0 hinv (.mrow ad 0 0 i.size) (.mrow 0 i.size []) (by cases ad <;> simp [Loc.blk]) ⟨⟨rfl,rfl,Nat.le_refl _,by simp⟩,fun h=>absurd h (Nat.lt_irrefl _)⟩
    refine ⟨.slice ad 0 0,w,_,zct hop (by rw [ev]; exact hrun), ?_,⟨i1,s1⟩,fun id hid h=>by simp only [Gh.withLoc]; rw [if_neg (by omega)]; exact h⟩
    exact .msl _ 0 i.size 0 0 ad ad ad 0 0 0 0 (by simp [Gh.withLoc]) (Nat.le_refl _) (fun _=>⟨rfl,rfl⟩) (Nat.le_refl _) (Nat.zero_le _) (fun h=>absurd h (Nat.lt_irrefl _)) rfl (fun h=>absurd h (Nat.lt_irrefl _))
   ·obtain ⟨c',hc',hrun⟩:=zgv (P:=P) (ty:=o.type) ht hu hd hi hzz (a:=ad) (n:=0) (cap:=0) (m:=ms.length) (x:=a.eval y) (w:=w) (vs:=[]) (us:=us) hlen (by omega) (by simpa using hap.2.2) heb
     (fun w' _=>by cases ad <;> simp [Builtin.firstCells,loadCells,loadCellsFrom]) hus
    have hh:({ w with heap:=w.heap.push (.cells (([]:List Value).toArray++us.toArray++Builtin.zeroCells z.cells (c' - (0 + ms.length))) e),drawn:=w.drawn + 1 }:World).heap=w.heap.push (.cells (([]:List Value).toArray++us.toArray++Builtin.zeroCells z.cells (c' - (0 + ms.length))) e):=rfl
    generalize hcs:([]:List Value).toArray++us.toArray++Builtin.zeroCells z.cells (c' - (0 + ms.length))=cs at hrun hh
    have hcsz:c' * i.size≤cs.size:=by
     rw [← hcs]
     simp only [Array.size_append,List.size_toArray,hzc,fu.1]
     simp only [List.length_nil,Nat.zero_add]
     rw [← Nat.add_mul]
     exact Nat.mul_le_mul_right _ (by omega)
    have hl:Holds { w with heap:=w.heap.push (.cells cs e),drawn:=w.drawn + 1 } ((G.withRd w.heap.size (fun _=>none)).withLoc H.length (.mrow (some ⟨w.heap.size,0,none⟩) c' 0 i.size)) (.mrow (some ⟨w.heap.size,0,none⟩) c' 0 i.size) (.mrow 0 i.size ms):=by
     refine ⟨⟨rfl,rfl,by omega,hap.2.1⟩,fun _=>⟨w.heap.size,0,rfl,⟨cs,e,by simp,by omega,fun k j e' c he hc=>?_⟩,fun o'=>by simp [Gh.withLoc,Gh.withRd]⟩⟩
     obtain ⟨v,g1,g2,g3⟩:=fu.2 k j e' c he hc
     have hget:cs.getD (0 + k * i.size + j) undef=v:=by
      rw [← hcs,Array.getD_eq_getD_getElem?,Array.getElem?_append_left (by
       have:=(List.getElem?_eq_some_iff.1 g1).1
       simp; omega)]
      simp [g1]
     rw [hget]
     exact ⟨g2.mono (fun b o c e=>by
      have:=hinv.rd_lt e
      simp only [Gh.withLoc,Gh.withRd]
      rw [if_neg (by omega)]
      exact e),g3⟩
    obtain ⟨i1,s1⟩:=zqm hinv hh ⟨rfl,rfl,rfl,Nat.le_succ _⟩ (fun _=>none) (fun _ _ h=>by simp at h) (.mrow (some ⟨w.heap.size,0,none⟩) c' 0 i.size) (.mrow 0 i.size ms) (fun b hb=>by
     simp only [Loc.blk] at hb
     split at hb
     ·simpa using hb.symm
     ·simp at hb) hl
    refine ⟨_,_,_,zct hop (by rw [ev]; exact hrun), ?_,⟨i1,s1⟩,zsI _ _ _⟩
    rw [Nat.zero_add]
    refine .msl _ 0 i.size 0 ms.length (some ⟨w.heap.size,0,none⟩) (some ⟨w.heap.size,0,none⟩) _ c' c' 0 c' (by simp only [Gh.withLoc,if_true]) (Nat.le_refl _) (fun _=>⟨rfl,rfl⟩) (by omega) ?_ (fun _=>⟨_,_,rfl⟩) rfl (fun _=>by simp [zbb])
    have h3:=hap.2.2
    simp only [List.length_nil,Nat.zero_add] at h3
    have:ms.length≤ms.length * (i.bytes + 1):=Nat.le_mul_of_pos_right _ (by omega)
    unfold maxLen
    omega
  obtain ⟨hap,hk⟩:=h
  refine ⟨_,_,hk,zcE fun a w G hinv hx=>?_⟩
  have rx:=hx x memx
  obtain ⟨hlen,us,hus,fu,hsc⟩:=hsrc hap.2.1 a w G hinv (hx y memy)
  rw [hx0] at rx
  obtain ⟨ad,ev,hr⟩:∃ ad,a.eval x=.slice ad es.length es.length∧RepT G.rd (.slice es) (.slice ad es.length es.length):=by
   generalize a.eval x=v at rx
   cases rx with
   | full _ ad h=>exact ⟨ad,rfl,h⟩
  obtain ⟨vs,hvs,fv,_⟩:=zin (P:=P) hinv hr hap.1
  by_cases hm:ms.length=0
  ·have hms:ms=[]:=List.eq_nil_of_length_eq_zero hm
   subst hms
   have hus0:us=[]:=List.eq_nil_of_length_eq_zero (by simpa using fu.1)
   subst hus0
   have hrun:=zcV (P:=P) (ty:=o.type) ht hu hd hi (a:=ad) (n:=es.length) (cap:=es.length) (m:=0) (x:=a.eval y) (w:=w) (w':=w) (us:=[]) hlen (Nat.le_refl _) (hus w rfl)
    (by cases ad <;> rfl)
   obtain ⟨i1,s1⟩:=zm0 hinv (.row ad es.length es.length i.size) (.row es.length i.size) (by cases ad <;> simp [Loc.blk]) ⟨rfl,rfl,Nat.le_refl _,fun h=>absurd h (Nat.lt_irrefl _)⟩
   refine ⟨.slice ad es.length es.length,w,_,zct hop (by rw [ev]; exact hrun), ?_,⟨by simpa using i1,s1⟩,fun id hid h=>by simp only [Gh.withLoc]; rw [if_neg (by omega)]; exact h⟩
   simp only [List.append_nil]
   exact .own _ es ad ad es.length es.length es.length i.size hr (by simp [Gh.withLoc]) (Nat.le_refl _) (fun _=>⟨rfl,rfl⟩) hap.1
  ·obtain ⟨c',hc',hrun⟩:=zgv (P:=P) (ty:=o.type) ht hu hd hi hzz (a:=ad) (n:=es.length) (cap:=es.length) (m:=ms.length) (x:=a.eval y) (w:=w) (vs:=vs) (us:=us) hlen (by omega) hap.2.2 heb hvs hus
   obtain ⟨cs,r,hh,hr1,hsz,hsp,hrep⟩:=fresh (w':={ w with heap:=w.heap.push (.cells (vs.toArray++us.toArray++Builtin.zeroCells z.cells (c' - (es.length + ms.length))) e),drawn:=w.drawn + 1 }) hinv rfl fv fu hap hc' rfl
   have hl:Holds { w with heap:=w.heap.push (.cells (vs.toArray++us.toArray++Builtin.zeroCells z.cells (c' - (es.length + ms.length))) e),drawn:=w.drawn + 1 }
     ((G.withRd w.heap.size r).withLoc H.length (.row (some ⟨w.heap.size,0,none⟩) c' (es.length + ms.length) i.size)) (.row (some ⟨w.heap.size,0,none⟩) c' (es.length + ms.length) i.size) (.row (es.length + ms.length) i.size):=by
    refine ⟨rfl,rfl,hc',fun _=>⟨w.heap.size,0,rfl,⟨cs,e,(0,0),by rw [hh]; simp,by omega⟩,fun k h1 h2=>⟨?_, ?_⟩⟩⟩
    ·unfold World.frozen?
     rw [hh]; simp
    ·simp only [Gh.withLoc,Gh.withRd,if_true,Nat.zero_add]
     exact hsp k h1
   obtain ⟨i1,s1⟩:=zqm hinv hh ⟨rfl,rfl,rfl,Nat.le_succ _⟩ r hr1 _ _ (fun b hb=>by
    simp only [Loc.blk] at hb
    split at hb
    ·simpa using hb.symm
    ·simp at hb) hl
   refine ⟨_,_,_,zct hop (by rw [ev]; exact hrun), ?_,⟨i1,s1⟩,zsI _ _ _⟩
   have hr2:=hrep _ s1.grow.rd (fun o=>by simp [Gh.withLoc,Gh.withRd])
   have hlen2:es.length + ms.length=(es++ms).length:=by simp
   rw [hlen2] at hr2 ⊢
   exact .own _ _ _ (some ⟨w.heap.size,0,none⟩) _ c' (es++ms).length i.size hr2 (by simp only [Gh.withLoc,if_true]) (Nat.le_refl _) (fun _=>⟨rfl,rfl⟩) (fun e he=>by
     rcases List.mem_append.1 he with h | h
     ·exact hap.1 e h
     ·exact hap.2.1 e h)
 ·-- a row that is written
  rename_i id ver s' len hx0
  split at h
  ·rename_i v2 s2 es hob
   obtain ⟨⟨rfl,rfl,rfl,hle⟩,hap,hk⟩:=h
   refine ⟨_,_,hk,zcE fun a w G hinv hx=>?_⟩
   have rx:=hx x memx
   obtain ⟨hlen,us,hus,fu,hsc⟩:=hsrc hap.2.1 a w G hinv (hx y memy)
   rw [hx0] at rx
   have htl:(es.take len).length=len:=by simp; omega
   have hmax:len + ms.length≤maxLen:=by
    have h3:=hap.2.2
    rw [htl] at h3
    have:len + ms.length≤(len + ms.length) * (i.bytes + 1):=Nat.le_mul_of_pos_right _ (by omega)
    unfold maxLen
    omega
   obtain ⟨ad,a0,cap,ev,hloc,hcap,had⟩:∃ ad a0 cap,a.eval x=.slice ad len cap∧G.loc id=some (.mrow a0 cap v2 i.size)∧len≤cap∧(0 < cap→ad=a0):=by
    generalize a.eval x=v at rx
    cases rx with
    | msl _ _ _ _ _ a1 a' a2 cap cap' ver' c2 hl hn he hc hm hz h2 ha =>
     obtain ⟨rfl,_⟩:=zi2 hinv (.inl hob) hl
     obtain ⟨rfl,rfl⟩:=he rfl
     refine ⟨a2,a1,cap,by rw [h2,Nat.sub_zero],hl,by omega,fun h=>?_⟩
     rw [ha h]
     obtain ⟨b,o',rfl⟩:=hz h
     simp [zbb]
   obtain ⟨_,_,h3,h4,h5⟩:=zi2 hinv (.inl hob) hloc
   have hsizes:∀ e∈es.take len++ms,e.cells.length=i.size:=fun e he=>by
    rcases List.mem_append.1 he with h | h
    ·exact hap.1 e h
    ·exact hap.2.1 e h
   have dom:∀ l',Dom H G (G.withLoc id l'):=fun l' j hj h=>by
    simp only [Gh.withLoc]
    rw [if_neg (fun e=>by subst e; rw [hloc] at h; simp at h)]
    exact h
   have mk:∀ (G':Gh) (ad':Option Addr) (c':Nat),G'.loc id=some (.mrow ad' c' (v2 + 1) i.size)→len + ms.length≤c'→(0 < c'→∃ b o,ad'=some ⟨b,o,none⟩)→∀ ad2,(0 < c'→ad2=ad')→RepA G' (.msl id (v2 + 1) i.size 0 (len + ms.length)) (.slice ad2 (len + ms.length) c'):=by
    intro G' ad' c' hl hc hz ad2 h2
    refine .msl id (v2 + 1) i.size 0 _ ad' ad' ad2 c' c' (v2 + 1) c' hl (Nat.le_refl _) (fun _=>⟨rfl,rfl⟩) (by omega) hmax hz rfl (fun h=>?_)
    rw [h2 h]
    obtain ⟨b,o',rfl⟩:=hz h
    simp [zbb]
   obtain ⟨ob,ho2,hh2⟩:=hinv.obj id _ hloc
   rw [hob] at ho2; simp at ho2; subst ho2
   obtain ⟨_,hh3⟩:=hh2
   by_cases hm:ms.length=0
   ·have hms:ms=[]:=List.eq_nil_of_length_eq_zero hm
    subst hms
    have hus0:us=[]:=List.eq_nil_of_length_eq_zero (by simpa using fu.1)
    subst hus0
    have hrun:=zcV (P:=P) (ty:=o.type) ht hu hd hi (a:=ad) (n:=len) (cap:=cap) (m:=0) (x:=a.eval y) (w:=w) (w':=w) (us:=[]) hlen hcap (hus w rfl)
     (by cases ad <;> rfl)
    obtain ⟨i1,s1⟩:=zBW hinv (a':=a0) (cap':=cap) (v':=v2 + 1) (es':=es.take len++[]) hloc (Nat.lt_succ_self _) (Same.refl w) (Nat.le_refl _) (fun _ _ _=>rfl) (fun b hb=>.inl (by simp only [Gh.blk,hloc,Option.bind_some]; cases a0 <;> exact hb)) hinv.rd hinv.tab (by
     refine ⟨⟨rfl,rfl,by simp; omega,hsizes⟩,fun hc=>?_⟩
     obtain ⟨b,o',e1,⟨cs,ty,e2,e3,e4⟩,e5⟩:=hh3 hc
     refine ⟨b,o',e1,⟨cs,ty,e2,e3,fun k j e c he hc=>e4 k j e c ?_ hc⟩,e5⟩
     rw [List.append_nil,List.getElem?_take] at he
     split at he
     ·exact he
     ·simp at he)
    exact ⟨_,w,_,zct hop (by rw [ev]; exact hrun),mk _ a0 cap (by simp [Gh.withLoc]) (by simpa using hcap) (fun h=>let ⟨b,o',_,e,_⟩:=h5 h; ⟨b,o',e⟩) ad had,⟨i1,s1⟩,dom _⟩
   ·by_cases hroom:len + ms.length≤cap
    ·obtain ⟨b,o',e1,⟨cs,ty,e2,e3,e4⟩,e5⟩:=hh3 (by omega)
     have had:=had (by omega)
     subst had
     subst e1
     have hmul:(len + ms.length) * i.size≤cap * i.size:=Nat.mul_le_mul_right _ hroom
     rw [Nat.add_mul] at hmul
     have hul:us.length=ms.length * i.size:=fu.1
     have hst:=zfl (P:=P) (b:=b) (o:=o' + len * i.size) (ty:=ty) us w cs 0 e2 (by omega) hsc
     have hrun:=zcV (P:=P) (ty:=o.type) ht hu hd hi (a:=some ⟨b,o',none⟩) (n:=len) (cap:=cap) (m:=ms.length) (x:=a.eval y) (w:=w)
      (w':={ w with heap:=w.heap.setIfInBounds b (.cells (setR cs (o' + len * i.size + 0) us) ty (0,0)) }) (us:=us) hlen hroom (hus w rfl)
      (by simp only [zbb]; exact hst)
     have hwr:=zsy hinv (v':=v2 + 1) (es':=es.take len++ms) (w':={ w with heap:=w.heap.setIfInBounds b (.cells (setR cs (o' + len * i.size + 0) us) ty (0,0)) }) hloc hob (by omega) (Nat.le_succ _) e2 rfl ⟨rfl,rfl,rfl,Nat.le_refl _⟩
      (by rw [zko]; exact e3) (by simp; omega) hsizes (fun k j e c he hc=>by
       have hg:(setR cs (o' + len * i.size + 0) us).getD (o' + k * i.size + j) undef=if o' + len * i.size≤o' + k * i.size + j∧o' + k * i.size + j < o' + len * i.size + us.length then us.getD (o' + k * i.size + j - (o' + len * i.size)) undef else cs.getD (o' + k * i.size + j) undef:=by
        rw [Array.getD_eq_getD_getElem?,zjm _ _ _ _ (by omega)]
        simp only [Nat.add_zero]
        split <;> simp [Array.getD_eq_getD_getElem?]
       rw [hg]
       have hj:j < i.size:=by
        have:=(List.getElem?_eq_some_iff.1 hc).1
        rwa [hsizes e (List.mem_of_getElem? he)] at this
       rcases Nat.lt_or_ge k len with hk' | hk'
       ·rw [List.getElem?_append_left (by omega),List.getElem?_take,if_pos hk'] at he
        have:(k + 1) * i.size≤len * i.size:=Nat.mul_le_mul_right _ hk'
        rw [Nat.add_mul] at this
        rw [if_neg (by omega)]
        exact e4 k j e c he hc
       ·rw [List.getElem?_append_right (by omega),htl] at he
        obtain ⟨v,g1,g2,g3⟩:=fu.2 (k - len) j e c he hc
        have hkl:k * i.size=len * i.size + (k - len) * i.size:=by rw [← Nat.add_mul]; congr 1; omega
        have hkm:(k - len + 1) * i.size≤ms.length * i.size:=Nat.mul_le_mul_right _ (List.getElem?_eq_some_iff.1 he).1
        rw [Nat.add_mul] at hkm
        rw [if_pos (by omega),show o' + k * i.size + j - (o' + len * i.size)=(k - len) * i.size + j by omega,List.getD_eq_getElem?_getD,g1]
        exact ⟨g2,g3⟩) e5
     exact ⟨_,_,_,zct hop (by rw [ev]; exact hrun),mk _ _ cap (by simp [Gh.withLoc]) hroom (fun _=>⟨_,_,rfl⟩) _ (fun _=>rfl),hwr,dom _⟩
    ·-- elsewhere
     obtain ⟨vs,hvs,fv,_⟩:∃ vs:List Value,(∀ w':World,w'.heap=w.heap→(Builtin.firstCells i.size len (.slice ad len cap)).run P w'=.ok vs.toArray w')∧Flat G.rd i.size (es.take len) vs ∧ ∀ u∈vs,zQ u=true:=by
      by_cases h0:len=0
      ·subst h0
       refine ⟨[],fun w' _=>?_,⟨by simp,fun i j e c he=>by simp at he⟩,by simp⟩
       cases ad with
       | none=>rfl
       | some a=>simp [Builtin.firstCells,loadCells,loadCellsFrom]
      ·obtain ⟨b,o',f,e1,hf⟩:=h5 (by omega)
       have had:=had (by omega)
       subst had
       subst e1
       exact zpw f htl hap.1 (fun k j e c he hc=>by
        rw [List.getElem?_take] at he
        split at he
        ·exact hf k j e c he hc
        ·simp at he)
     obtain ⟨c',hc',hrun⟩:=zgv (P:=P) (ty:=o.type) ht hu hd hi hzz (a:=ad) (n:=len) (cap:=cap) (m:=ms.length) (x:=a.eval y) (w:=w) (vs:=vs) (us:=us) hlen hroom (by have:=hap.2.2; rwa [htl] at this) heb hvs hus
     have fl:=fv.append fu
     generalize hcs:vs.toArray++us.toArray++Builtin.zeroCells z.cells (c' - (len + ms.length))=cs at hrun
     have hcsz:c' * i.size≤cs.size:=by
      rw [← hcs]
      simp only [Array.size_append,List.size_toArray,hzc,fu.1,fv.1,htl]
      rw [← Nat.add_mul,← Nat.add_mul]
      exact Nat.mul_le_mul_right _ (by omega)
     obtain ⟨i1,s1⟩:=zBW hinv (w':={ w with heap:=w.heap.push (.cells cs e),drawn:=w.drawn + 1 }) (a':=some ⟨w.heap.size,0,none⟩) (cap':=c') (v':=v2 + 1) (es':=es.take len++ms) hloc (Nat.lt_succ_self _) ⟨rfl,rfl,rfl,Nat.le_succ _⟩ (by simp)
      (fun k hk _=>by simp only [Array.getElem?_push]; rw [if_neg (by omega)]) (fun b hb=>.inr (by
       simp only [Loc.blk] at hb
       split at hb
       ·simp at hb; omega
       ·simp at hb)) (fun b o c e=>by
       rw [ztI (w:=w) (ob:=.cells cs _) rfl (hinv.rd_lt e)]
       exact hinv.rd b o c e) (hinv.tab.keep (fun _ _ _ e=>e) (fun k _ hk=>by simp only [Array.getElem?_push]; rw [if_neg (by omega)])) (by
      refine ⟨⟨rfl,rfl,by simp; omega,hsizes⟩,fun _=>⟨w.heap.size,0,rfl,⟨cs,e,by simp,by omega,fun k j e' c he hc=>?_⟩,fun o'=>?_⟩⟩
      ·obtain ⟨v,g1,g2,g3⟩:=fl.2 k j e' c he hc
       have hget:cs.getD (0 + k * i.size + j) undef=v:=by
        have hlt:=(List.getElem?_eq_some_iff.1 g1).1
        simp at hlt
        rw [← hcs,Array.getD_eq_getD_getElem?,Array.getElem?_append_left (by simp; omega),Nat.zero_add]
        rw [show vs.toArray++us.toArray=(vs++us).toArray by simp]
        simp only [List.getElem?_toArray,g1]
        rfl
       rw [hget]
       exact ⟨g2,g3⟩
      ·show G.rd w.heap.size o'=none
       cases e6:G.rd w.heap.size o' with
       | none=>rfl
       | some c=>have:=hinv.rd_lt e6; omega)
     exact ⟨_,_,_,zct hop (by rw [ev]; exact hrun),mk _ _ c' (by simp [Gh.withLoc]) hc' (fun _=>⟨_,_,rfl⟩) _ (fun _=>rfl),⟨i1,s1⟩,dom _⟩
  ·exact h.elim
 ·-- a row of its own
  rename_i id es hx0
  split at h
  ·rename_i n s' hob
   obtain ⟨⟨rfl,rfl⟩,hap,hk⟩:=h
   refine ⟨_,_,hk,zcE fun a w G hinv hx=>?_⟩
   have rx:=hx x memx
   obtain ⟨hlen,us,hus,fu,hsc⟩:=hsrc hap.2.1 a w G hinv (hx y memy)
   rw [hx0] at rx
   obtain ⟨ad,cap,ev,hr,hloc⟩:∃ ad cap,a.eval x=.slice ad es.length cap∧RepT G.rd (.slice es) (.slice ad es.length cap)∧G.loc id=some (.row ad cap es.length i.size):=by
    generalize a.eval x=v at rx
    cases rx with
    | own _ _ ad a' cap cap' n s h hl hn he hs =>
     obtain ⟨ob,ho,hh⟩:=hinv.obj id _ hl
     rw [hob] at ho; simp at ho; subst ho
     obtain ⟨rfl,rfl,_,_⟩:=hh
     obtain ⟨rfl,rfl⟩:=he rfl
     exact ⟨ad,cap,rfl,h,hl⟩
   obtain ⟨ob,ho,hh⟩:=hinv.obj id _ hloc
   rw [hob] at ho; simp at ho; subst ho
   obtain ⟨_,_,hncap,hspare⟩:=hh
   have hidl:=hinv.loc_lt hloc
   have hsizes:∀ e∈es++ms,e.cells.length=i.size:=fun e he=>by
    rcases List.mem_append.1 he with h | h
    ·exact hap.1 e h
    ·exact hap.2.1 e h
   have hmax:es.length + ms.length≤maxLen:=by
    have h3:=hap.2.2
    have:es.length + ms.length≤(es.length + ms.length) * (i.bytes + 1):=Nat.le_mul_of_pos_right _ (by omega)
    unfold maxLen
    omega
   by_cases hm:ms.length=0
   ·have hms:ms=[]:=List.eq_nil_of_length_eq_zero hm
    subst hms
    have hus0:us=[]:=List.eq_nil_of_length_eq_zero (by simpa using fu.1)
    subst hus0
    have hrun:=zcV (P:=P) (ty:=o.type) ht hu hd hi (a:=ad) (n:=es.length) (cap:=cap) (m:=0) (x:=a.eval y) (w:=w) (w':=w) (us:=[]) hlen hncap (hus w rfl)
     (by cases ad <;> rfl)
    have hset:H.set id (.row (es.length + ([]:List T).length) i.size)=H:=by
     apply List.ext_getElem?
     intro j
     by_cases hj:id=j
     ·subst hj; simp [hidl] at hob ⊢; exact hob.symm
     ·rw [List.getElem?_set_ne hj]
    refine ⟨.slice ad es.length cap,w,G,zct hop (by rw [ev]; exact hrun), ?_,⟨by rw [hset]; exact hinv,.refl w G⟩,fun _ _ h=>h⟩
    simp only [List.append_nil]
    exact .own _ es ad ad cap cap es.length i.size hr hloc (Nat.le_refl _) (fun _=>⟨rfl,rfl⟩) hap.1
   ·by_cases hroom:es.length + ms.length≤cap
    ·obtain ⟨b,of,hb,⟨cs,ty,fr,hcs,hcz⟩,hsp⟩:=hspare (by omega)
     subst hb
     have hmul:(es.length + ms.length) * i.size≤cap * i.size:=Nat.mul_le_mul_right _ hroom
     rw [Nat.add_mul] at hmul
     have hul:us.length=ms.length * i.size:=fu.1
     have hst:=zof (P:=P) (b:=b) (o:=of + es.length * i.size) (ty:=ty) (fr:=fr) us w cs 0 hcs (by omega) hsc (fun k _ hk=>by
      have:=(hsp (es.length * i.size + k) (by omega) (by omega)).1
      unfold World.frozen? at this
      simp only [hcs] at this
      rw [← Nat.add_assoc] at this
      exact this)
     have hrun:=zcV (P:=P) (ty:=o.type) ht hu hd hi (a:=some ⟨b,of,none⟩) (n:=es.length) (cap:=cap) (m:=ms.length) (x:=a.eval y) (w:=w)
      (w':={ w with heap:=w.heap.setIfInBounds b (.cells (setR cs (of + es.length * i.size + 0) us) ty fr) }) (us:=us) hlen hroom (hus w rfl)
      (by simp only [zbb]; exact hst)
     have hgr:=zFE hinv (w':={ w with heap:=w.heap.setIfInBounds b (.cells (setR cs (of + es.length * i.size + 0) us) ty fr) }) hloc (n':=es.length + ms.length) (by omega) hroom hcs rfl ⟨rfl,rfl,rfl,Nat.le_refl _⟩ (zko _ _ _)
      (fun k hk=>by
       rw [zjm _ _ _ _ (by omega),if_neg (by rw [Nat.add_mul] at hk; omega)])
     obtain ⟨i1,s1⟩:=hgr
     refine ⟨_,_,_,zct hop (by rw [ev]; exact hrun), ?_,⟨i1,s1⟩,zCK hloc⟩
     have hlen2:es.length + ms.length=(es++ms).length:=by simp
     generalize hG:((({ G with rd:=fun b' k=>if b'=b∧of + es.length * i.size≤k∧k < of + (es.length + ms.length) * i.size then (setR cs (of + es.length * i.size + 0) us)[k]? else G.rd b' k }:Gh).withLoc id (.row (some ⟨b,of,none⟩) cap (es.length + ms.length) i.size)))=G' at s1 ⊢
     have erd:∀ k,of + es.length * i.size≤k→k < of + (es.length + ms.length) * i.size→G'.rd b k=(setR cs (of + es.length * i.size + 0) us)[k]?:=by
      intro k h1 h2
      rw [← hG]
      show (if b=b∧of + es.length * i.size≤k∧k < of + (es.length + ms.length) * i.size then _ else _)=_
      rw [if_pos ⟨rfl,h1,h2⟩]
     have eloc:G'.loc id=some (.row (some ⟨b,of,none⟩) cap (es.length + ms.length) i.size):=by rw [← hG]; simp [Gh.withLoc]
     have hnew:∀ k v,us[k]? = some v→G'.rd b (of + es.length * i.size + k)=some v:=by
      intro k v hk
      have hk':=(List.getElem?_eq_some_iff.1 hk).1
      rw [erd _ (by omega) (by rw [Nat.add_mul]; omega),zjm _ _ _ _ (by omega),if_pos (by omega)]
      rw [show of + es.length * i.size + k - (of + es.length * i.size + 0)=k by omega]
      exact hk
     have hrep:RepT G'.rd (.slice (es++ms)) (.slice (some ⟨b,of,none⟩) (es++ms).length cap):=by
      have hbase:∃ val:Nat→Nat→Value,(∀ i' j e c,es[i']? = some e→e.cells[j]? = some c→G.rd b (of + i' * i.size + j)=some (val i' j)∧RepT G.rd c (val i' j)∧zQ (val i' j)=true):=by
       by_cases h0:es=[]
       ·exact ⟨fun _ _=>undef,fun i' j e c he=>by rw [h0] at he; simp at he⟩
       ·clear hrun hst i1 s1 ev
        generalize hv:Value.slice (some ⟨b,of,none⟩) es.length cap=v at hr
        generalize hes:es=es' at hr
        cases hr with
        | nil=>exact absurd hes h0
        | slice _ b' o' cap' s'' val hs' hrd hvv hk' hl' hc' =>
         subst hes
         injection hv with e1 e2 e3
         injection e1 with e1
         injection e1 with e4 e5
         subst e4 e5
         have hne:0 < es.length:=List.length_pos_iff.2 h0
         have hss:s''=i.size:=by rw [← hs' _ (List.getElem_mem hne),hap.1 _ (List.getElem_mem hne)]
         subst hss
         exact ⟨val,fun i' j e c he hc=>⟨hrd i' j e c he hc,hvv i' j e c he hc,hk' i' j e c he hc⟩⟩
      obtain ⟨val,hval⟩:=hbase
      have look:∀ (i' j:Nat) (e c:T),(es++ms)[i']? = some e→e.cells[j]? = some c→(i' < es.length∧es[i']? = some e)∨(es.length≤i'∧ms[i' - es.length]? = some e):=by
       intro i' j e c he _
       rcases Nat.lt_or_ge i' es.length with h | h
       ·rw [List.getElem?_append_left h] at he; exact .inl ⟨h,he⟩
       ·rw [List.getElem?_append_right h] at he; exact .inr ⟨h,he⟩
      have hidx:∀ i' j,es.length≤i'→of + i' * i.size + j=of + es.length * i.size + ((i' - es.length) * i.size + j):=by
       intro i' j h
       have:i' * i.size=es.length * i.size + (i' - es.length) * i.size:=by rw [← Nat.add_mul]; congr 1; omega
       omega
      refine .slice _ b of cap i.size (fun i' j=>if i' < es.length then val i' j else us.getD ((i' - es.length) * i.size + j) undef) hsizes (fun i' j e c he hc=>?_) (fun i' j e c he hc=>?_) (fun i' j e c he hc=>?_) (by simpa using hmax) (by simpa using hroom)
      ·rcases look i' j e c he hc with ⟨h,he'⟩ | ⟨h,he'⟩
       ·simp only [h,if_true]
        exact s1.grow.rd _ _ _ (hval i' j e c he' hc).1
       ·obtain ⟨v,g1,_,_⟩:=fu.2 _ j e c he' hc
        simp only [show ¬ i' < es.length by omega,if_false]
        rw [hidx i' j h,List.getD_eq_getElem?_getD,g1]
        exact hnew _ _ g1
      ·rcases look i' j e c he hc with ⟨h,he'⟩ | ⟨h,he'⟩
       ·simp only [h,if_true]
        exact (hval i' j e c he' hc).2.1.mono s1.grow.rd
       ·obtain ⟨v,g1,g2,_⟩:=fu.2 _ j e c he' hc
        simp only [show ¬ i' < es.length by omega,if_false]
        rw [List.getD_eq_getElem?_getD,g1]
        exact g2.mono s1.grow.rd
      ·rcases look i' j e c he hc with ⟨h,he'⟩ | ⟨h,he'⟩
       ·simp only [h,if_true]
        exact (hval i' j e c he' hc).2.2
       ·obtain ⟨v,g1,_,g3⟩:=fu.2 _ j e c he' hc
        simp only [show ¬ i' < es.length by omega,if_false]
        rw [List.getD_eq_getElem?_getD,g1]
        exact g3
     rw [hlen2]
     exact .own _ _ _ (some ⟨b,of,none⟩) _ cap (es++ms).length i.size hrep (by rw [eloc,hlen2]) (Nat.le_refl _) (fun _=>⟨rfl,rfl⟩) hsizes
    ·obtain ⟨vs,hvs,fv,_⟩:=zin (P:=P) hinv hr hap.1
     obtain ⟨c',hc',hrun⟩:=zgv (P:=P) (ty:=o.type) ht hu hd hi hzz (a:=ad) (n:=es.length) (cap:=cap) (m:=ms.length) (x:=a.eval y) (w:=w) (vs:=vs) (us:=us) hlen hroom hap.2.2 heb hvs hus
     obtain ⟨cs,r,hh,hr1,hsz,hsp,hrep⟩:=fresh (w':={ w with heap:=w.heap.push (.cells (vs.toArray++us.toArray++Builtin.zeroCells z.cells (c' - (es.length + ms.length))) e),drawn:=w.drawn + 1 }) hinv rfl fv fu hap hc' rfl
     obtain ⟨i1,s1⟩:=zFT hinv hloc hh ⟨rfl,rfl,rfl,Nat.le_succ _⟩ r hr1 (cap':=c') (n':=es.length + ms.length) (by omega) hc' hsz hsp
     refine ⟨_,_,_,zct hop (by rw [ev]; exact hrun), ?_,⟨i1,s1⟩,zCK hloc⟩
     have hr2:=hrep _ s1.grow.rd (fun o=>by simp [Gh.withLoc,Gh.withRd])
     have hlen2:es.length + ms.length=(es++ms).length:=by simp
     rw [hlen2] at hr2 ⊢
     exact .own _ _ _ (some ⟨w.heap.size,0,none⟩) _ c' (es++ms).length i.size hr2 (by simp only [Gh.withLoc,if_true]) (Nat.le_refl _) (fun _=>⟨rfl,rfl⟩) hsizes
  ·exact h.elim
 ·exact h.elim
theorem zvS:∀ {xs:List AV} {l:List (Nat×Nat)},boxes xs=some l→l.length=xs.length ∧ ∀ (j:Nat) (c:Nat×Nat),l[j]? = some c→xs[j]? = some (.bptr c.1 c.2)
 | [],l,h=>by simp [boxes] at h; subst h; simp
 | x::r,l,h=>by
  unfold boxes at h
  split at h
  ·rename_i heq; simp at heq
  ·rename_i id off r' heq
   simp at heq
   obtain ⟨rfl,rfl⟩:=heq
   split at h
   ·rename_i l' hl
    simp at h
    subst h
    obtain ⟨h1,h2⟩:=zvS hl
    refine ⟨by simp [h1],fun j c hj=>?_⟩
    cases j with
    | zero=>simp at hj; subst hj; rfl
    | succ j=>simp at hj; simpa using h2 j c hj
   ·simp at h
  ·simp at h
theorem zCz {o:Oper} {f:FuncId} {first caps:Array Operand} {x:Operand} (hop:o.op=.makeFunc (.func f) first caps) (hf:first.toList=[x]) (hcp:caps.toList=[]) {ρ:Operand→AV} {H:List Ob} {K:AV→List Ob→Prop}
  (h:aBind f (ρ x) H K):∃ r H',K r H'∧Does P o ρ r H H':=by
 have ef:first = #[x]:=by apply Array.ext'; simpa using hf
 have ec:caps = #[]:=by apply Array.ext'; simpa using hcp
 subst ef ec
 unfold aBind at h
 split at h
 ·rename_i id off hx0
  refine ⟨_,_,h,zO fun a w G hinv hx=>?_⟩
  have rx:=hx x (by rw [hop]; simp [Op.operands])
  rw [hx0] at rx
  generalize hv:a.eval x=v at rx
  cases rx with
  | bptr _ _ b hl =>
   refine ⟨.func (.func f) #[a.eval x] #[], ?_,by rw [hv]; exact .bnd f id off b hl⟩
   unfold execOp; rw [hop]
   simp only [Instr.makeFunc,Sem.run_bind,Sem.run_pure,Result.andThen]
   simp
 ·exact h.elim
theorem zxo {o:Oper} {f:FuncId} {first caps:Array Operand} (hop:o.op=.makeFunc (.func f) first caps) (hf:first.toList=[]) {ρ:Operand→AV} {H:List Ob} {K:AV→List Ob→Prop}
  (h:zaA f (caps.toList.map ρ) H K):∃ r H',K r H'∧Does P o ρ r H H':=by
 have ef:first = #[]:=by apply Array.ext'; simpa using hf
 subst ef
 unfold zaA at h
 split at h
 ·rename_i c cs hmo hbx
  obtain ⟨hl,hs⟩:=zvS hbx
  refine ⟨_,_,h,zO fun a w G hinv hx=>⟨.func (.func f) #[] (caps.map a.eval), ?_,.mclo f (c::cs) _ (by simp only [Array.size_map]; rw [hl]; simp) (fun j d hj=>?_)⟩⟩
  ·unfold execOp; rw [hop]
   simp only [Instr.makeFunc,Sem.run_bind,Sem.run_pure,Result.andThen]
   simp
  ·have e:=hs j d hj
   simp only [List.getElem?_map,Option.map_eq_some_iff] at e
   obtain ⟨y,hy,ey⟩:=e
   have hj':j < caps.size:=by
    have:=(List.getElem?_eq_some_iff.1 hy).1
    simpa using this
   have hcj:caps[j]=y:=by
    rw [Array.getElem?_toList,Array.getElem?_eq_getElem hj'] at hy
    simpa using hy
   have rx:=hx y (by
    rw [hop]
    have:y∈caps:=hcj ▸ Array.getElem_mem hj'
    simp [Op.operands,this])
   rw [ey] at rx
   have ev:(caps.map a.eval).getD j undef=a.eval y:=by
    simp [Array.getD_eq_getD_getElem?,hj',hcj]
   rw [ev]
   generalize a.eval y=u at rx
   cases rx with
   | bptr _ _ b hb=>exact ⟨b,hb,rfl⟩
 obtain ⟨cs,H',hk,hl,hrest⟩:=znc _ _ _ h
 refine ⟨_,_,hk,zcE fun a w G hinv hx=>?_⟩
 obtain ⟨G',i1,s1,l1,r1⟩:=hrest w G (caps.toList.map a.eval) hinv (by simp) (fun j c v hc hv=>by
  simp only [List.getElem?_map,Option.map_eq_some_iff] at hc hv
  obtain ⟨y,hy,rfl⟩:=hc
  obtain ⟨y',hy',rfl⟩:=hv
  rw [hy] at hy'; simp at hy'; subst hy'
  refine hx y ?_
  rw [hop]
  have:y∈caps:=by
   have:=List.mem_of_getElem? hy
   simpa using this
  simp [Op.operands,this])
 refine ⟨.func (.func f) #[] (caps.map a.eval),w,G', ?_,.p _ _ (.func f cs _ (by simp [hl]) (fun j c hj=>?_)),⟨i1,s1⟩,fun id _ h=>by rw [l1]; exact h⟩
 ·unfold execOp; rw [hop]
  simp only [Instr.makeFunc,Sem.run_bind,Sem.run_pure,Result.andThen]
  simp
 ·have hj':j < caps.size:=by
   have:=(List.getElem?_eq_some_iff.1 hj).1
   simp at hl
   omega
  have hcj:caps[j]? = some caps[j]:=Array.getElem?_eq_getElem hj'
  have:=r1 j c (a.eval caps[j]) hj (by simp [hcj])
  simpa [Array.getD_eq_getD_getElem?,hcj] using this
theorem zuQ (ts:List T):(elemZ ts).cells=ts:=by
 unfold elemZ
 split
 ·rfl
 ·rename_i t h
  cases t with
  | agg cs=>exact absurd rfl (h cs)
  | _=>rfl
 ·rfl
theorem zEL {o:Oper} {t e:TypeId} {n c:Operand} (hop:o.op=.makeSlice t n c) (ht:P.underlying t=some (.slice e)) {i:TypeInfo} (hi:P.info? e=some i) {z:Value} (hz:i.zero=some z) (hzs:z.cells.size=i.size) (hpos:0 < i.size) (heb:i.bytes≤2 ^ 20)
  {a:Act} {w:World} {k k':IntKind} {m:Int} (hn:a.eval n=.int k m) (hc:a.eval c=.int k' m) (h0:0≤m) (h1:m≤2 ^ 20) :
  (execOp a.eval o).run P w=.ok (.value (.slice (some ⟨w.heap.size,0,none⟩) m.toNat m.toNat)) { w with heap:=w.heap.push (.cells ((Array.range (m.toNat * i.size)).map fun j=>z.cells.getD (j % i.size) undef) e) }:=by
 have hw:IntKind.i64.wrap m=m:=IntWalk.i64_in _ (by omega)
 have hb:(i.bytes:Int) * m≤2 ^ 40:=by
  have h2:i.bytes * m.toNat≤2 ^ 20 * 2 ^ 20:=Nat.mul_le_mul heb (by omega)
  have h3:(i.bytes:Int) * m=((i.bytes * m.toNat:Nat):Int):=by push_cast; rw [Int.toNat_of_nonneg h0]
  rw [h3]
  omega
 have hr:m.toNat * i.bytes≤2 ^ 40:=by
  have h2:m.toNat * i.bytes≤2 ^ 20 * 2 ^ 20:=Nat.mul_le_mul (by omega) heb
  omega
 have hc1:¬ ((m < 0∨2 ^ 48 < (i.bytes:Int) * m)∨m < 0):=by omega
 unfold execOp; rw [hop]
 have c1:¬ m < 0:=by omega
 have c2:¬ (281474976710656 < (i.bytes:Int) * m):=by omega
 have hzsz:z.cells.size≠0:=by omega
 by_cases hm0:m.toNat * i.size=0
 ·simp [Instr.makeSlice,zu ht,asInt,asIntOf,typeInfo,sizeOf,zeroValue,hi,hz,hw,hn,hc,askRoom,newRow,c1,c2,hm0]
  rw [show Array.range 0 = #[] from rfl,Array.map_empty,Array.map_empty]
 ·simp [Instr.makeSlice,zu ht,asInt,asIntOf,typeInfo,sizeOf,zeroValue,hi,hz,hw,hn,hc,askRoom,newRow,c1,c2,hm0]
  have e1:((Array.range (m.toNat * i.size)).map fun x=>z.cells[x % z.cells.size]!)=((Array.range (m.toNat * i.size)).map fun j=>z.cells[j % i.size]?.getD undef):=by
   apply Array.map_congr_left
   intro x _
   have hlt:x % i.size < z.cells.size:=by rw [hzs]; exact Nat.mod_lt _ hpos
   rw [hzs]
   simp [hlt]
  rw [e1]
theorem zDh {o:Oper} {t e:TypeId} {n c:Operand} (hop:o.op=.makeSlice t n c) (ht:P.underlying t=some (.slice e)) {i:TypeInfo} (hi:P.info? e=some i) (hz:zsz i=true) (hpos:0 < i.size) (heb:i.bytes≤2 ^ 20)
  {ρ:Operand→AV} {H:List Ob} {K:AV→List Ob→Prop} (h:zeroCells P e fun z=>aMake i.size z (ρ n) (ρ c) H K):∃ r H',K r H'∧Does P o ρ r H H':=by
 obtain ⟨z,hzz,hzs⟩:∃ z,i.zero=some z∧z.cells.size=i.size:=by
  unfold zsz at hz
  split at hz
  ·rename_i z hzz; exact ⟨z,hzz,by simpa using hz⟩
  ·simp at hz
 unfold zeroCells at h
 simp only [hi,hzz] at h
 split at h
 ·rename_i hsc
  unfold aMake at h
  split at h
  ·rename_i ts k m k' m' hts hn hc
   obtain ⟨⟨rfl,h0,h1,hl⟩,hk⟩:=h
   have hsp:=zmh hts
   refine ⟨_,_,hk,zcE fun a w G hinv hx=>?_⟩
   have rn:=hx n (by rw [hop]; simp [Op.operands])
   have rc:=hx c (by rw [hop]; simp [Op.operands])
   rw [hn] at rn
   rw [hc] at rc
   have en:=zd9.1 rn
   have ec:=zd9.1 rc
   have hrun:=zEL (P:=P) hop ht hi hzz hzs hpos heb en ec h0 h1 (w:=w)
   generalize hcs:(Array.range (m.toNat * i.size)).map (fun j=>z.cells.getD (j % i.size) undef)=cs at hrun
   have hcsz:cs.size=m.toNat * i.size:=by rw [← hcs]; simp
   have hcell:∀ (j:Nat) (c:T),ts[j]? = some c→RepT G.rd c (z.cells.getD j undef)∧zQ (z.cells.getD j undef)=true:=by
    intro j c hj
    have hjl:j < z.cells.size:=by
     have:=(List.getElem?_eq_some_iff.1 hj).1
     omega
    have hg:z.cells.getD j undef=z.cells[j]:=by simp [Array.getD_eq_getD_getElem?,Array.getElem?_eq_getElem hjl]
    have hm:(z.cells.toList.map zgx)[j]? = some (zgx z.cells[j]):=by simp [hjl]
    obtain ⟨x,hx1,hx2⟩:=hsp.2 j c hj
    rw [hm] at hx1; simp at hx1; subst hx1
    refine ⟨?_, ?_⟩
    ·rw [hg]
     exact (zfv G z.cells[j]).cellT hx2
    ·rw [hg]
     rw [List.all_eq_true] at hsc
     exact hsc _ (by simp)
   have hl2:Holds { w with heap:=w.heap.push (.cells cs e) } ((G.withRd w.heap.size (fun _=>none)).withLoc H.length (.mrow (some ⟨w.heap.size,0,none⟩) m.toNat 0 i.size)) (.mrow (some ⟨w.heap.size,0,none⟩) m.toNat 0 i.size) (.mrow 0 i.size (List.replicate m.toNat (elemZ ts))):=by
    refine ⟨⟨rfl,rfl,by simp,fun e he=>?_⟩,fun _=>⟨w.heap.size,0,rfl,⟨cs,e,by simp,by omega,fun k j e' c he hc=>?_⟩,fun o'=>by simp [Gh.withLoc,Gh.withRd]⟩⟩
    ·rw [List.eq_of_mem_replicate he,zuQ,hl]
    ·have hk1:=(List.getElem?_eq_some_iff.1 he).1
     simp at hk1
     have he':e'=elemZ ts:=List.eq_of_mem_replicate (List.mem_of_getElem? he)
     rw [he',zuQ] at hc
     have hj:j < i.size:=by
      have:=(List.getElem?_eq_some_iff.1 hc).1
      omega
     have hlt:k * i.size + j < m.toNat * i.size:=by
      have:(k + 1) * i.size≤m.toNat * i.size:=Nat.mul_le_mul_right _ (by omega)
      rw [Nat.add_mul] at this
      omega
     have hget:cs.getD (0 + k * i.size + j) undef=z.cells.getD j undef:=by
      rw [← hcs,Nat.zero_add,Array.getD_eq_getD_getElem?,Array.getElem?_map]
      rw [show (Array.range (m.toNat * i.size))[k * i.size + j]? = some (k * i.size + j) by simp [hlt]]
      simp only [Option.map_some,Option.getD_some]
      rw [Nat.add_comm,Nat.add_mul_mod_self_right,Nat.mod_eq_of_lt hj]
     rw [hget]
     obtain ⟨g2,g3⟩:=hcell j c hc
     exact ⟨g2.mono (fun b o c e=>by
      have:=hinv.rd_lt e
      simp only [Gh.withLoc,Gh.withRd]
      rw [if_neg (by omega)]
      exact e),g3⟩
   obtain ⟨i1,s1⟩:=zqm hinv (w':={ w with heap:=w.heap.push (.cells cs e) }) rfl ⟨rfl,rfl,rfl,Nat.le_refl _⟩ (fun _=>none) (fun _ _ h=>by simp at h) (.mrow (some ⟨w.heap.size,0,none⟩) m.toNat 0 i.size) (.mrow 0 i.size (List.replicate m.toNat (elemZ ts))) (fun b hb=>by
    simp only [Loc.blk] at hb
    split at hb
    ·simpa using hb.symm
    ·simp at hb) hl2
   refine ⟨_,_,_,hrun, ?_,⟨i1,s1⟩,zsI _ _ _⟩
   refine .msl _ 0 i.size 0 m.toNat (some ⟨w.heap.size,0,none⟩) (some ⟨w.heap.size,0,none⟩) _ m.toNat m.toNat 0 m.toNat (by simp only [Gh.withLoc,if_true]) (Nat.le_refl _) (fun _=>⟨rfl,rfl⟩) (by omega) ?_ (fun _=>⟨_,_,rfl⟩) rfl (fun _=>by simp [zbb])
   unfold maxLen
   omega
  ·exact h.elim
 ·exact h.elim
theorem zEx {o:Oper} {x y:Operand} {t u:TypeId} (hop:o.op=.call { callee:=.builtin .copy,args:=#[x,y],argTypes:=#[t,u] }) {a:Act} {w w':World} {v:Value}
  (h:(Builtin.copy_ #[t,u] o.type #[a.eval x,a.eval y]).run P w=.ok v w'):(execOp a.eval o).run P w=.ok (.value v) w':=by
 unfold execOp; rw [hop]
 simp only [resolve,Sem.run_bind,Sem.run_pure,Result.andThen,invoke,builtin]
 have:(#[x,y]:Array Operand).map a.eval = #[a.eval x,a.eval y]:=by simp
 rw [this,h]
theorem zsF {o:Oper} {x y:Operand} {t u e:TypeId} {i:TypeInfo} (hop:o.op=.call { callee:=.builtin .copy,args:=#[x,y],argTypes:=#[t,u] })
  (ht:P.underlying t=some (.slice e)) (hi:P.info? e=some i) {ρ:Operand→AV} {ms:List T} {H:List Ob} {K:AV→List Ob→Prop}
  (hsrc:0 < ms.length→(∀ e∈ms,e.cells.length=i.size)→∀ (a:Act) (w:World) (G:Gh),Inv w G H→RepA G (ρ y) (a.eval y)→Src P i.size ms w G (a.eval y)) (h:zfo i.size (ρ x) ms H K) :
  ∃ r H',K r H'∧Does P o ρ r H H':=by
 have memx:x∈o.op.operands:=by rw [hop]; simp [Op.operands,Call.operands]
 have memy:y∈o.op.operands:=by rw [hop]; simp [Op.operands,Call.operands]
 unfold zfo at h
 split at h
 ·rename_i id ver s' off len hx0
  split at h
  ·rename_i v2 s2 es hob
   obtain ⟨⟨⟨rfl,rfl,rfl⟩,⟨h0,hle,hoff⟩,hms⟩,hk⟩:=h
   refine ⟨_,_,hk,zcE fun a w G hinv hx=>?_⟩
   have rx:=hx x memx
   obtain ⟨hlen,us,hus,fu,hsc⟩:=hsrc h0 hms a w G hinv (hx y memy)
   rw [hx0] at rx
   obtain ⟨b,o',a0,cap,c2,hl,hcap,ea,ev⟩:∃ b o' a0 cap c2,G.loc id=some (.mrow a0 cap v2 i.size)∧es.length≤cap∧a0=some ⟨b,o',none⟩∧a.eval x=.slice (some ⟨b,o' + off * i.size,none⟩) len c2:=by
    generalize a.eval x=u at rx
    cases rx with
    | msl _ _ _ _ _ a a' a2 cap cap' ver' c2 hl hv he hc hm hz h2 ha =>
     obtain ⟨rfl,_,h3,h4,h5⟩:=zi2 hinv (.inl hob) hl
     obtain ⟨rfl,rfl⟩:=he rfl
     obtain ⟨b,o',f,rfl,_⟩:=h5 (by omega)
     have ha:=ha (by omega)
     subst ha
     refine ⟨b,o',_,_,c2,hl,h3,rfl,by simp [zbb]⟩
   subst ea
   obtain ⟨ob,ho,hh⟩:=hinv.obj id _ hl
   rw [hob] at ho; simp at ho; subst ho
   obtain ⟨⟨_,_,hlen2,hes⟩,hh⟩:=hh
   obtain ⟨b2,o2,e0,⟨cs,ty,e1,e2,e3⟩,e4⟩:=hh (by omega)
   simp at e0
   obtain ⟨rfl,rfl⟩:=e0
   have hul:us.length=ms.length * i.size:=fu.1
   have hm1:(off + ms.length) * i.size≤cap * i.size:=Nat.mul_le_mul_right _ (by omega)
   rw [Nat.add_mul] at hm1
   have hst:=zfl (P:=P) (b:=b) (o:=o' + off * i.size) (ty:=ty) us w cs 0 e1 (by omega) hsc
   have hrun:(Builtin.copy_ #[t,u] o.type #[a.eval x,a.eval y]).run P w=.ok (.int .i64 ms.length) { w with heap:=w.heap.setIfInBounds b (.cells (setR cs (o' + off * i.size + 0) us) ty (0,0)) }:=by
    rw [ev]
    simp [Builtin.copy_,zu ht,sizeOf,typeInfo,hi,hlen,Nat.min_eq_left hle,hus w rfl,hst,goInt]
   have hwr:=zsy hinv (v':=v2) (es':=es.take off++(ms++es.drop (off + ms.length))) (w':={ w with heap:=w.heap.setIfInBounds b (.cells (setR cs (o' + off * i.size + 0) us) ty (0,0)) }) hl hob (by omega) (Nat.le_refl _) e1 rfl ⟨rfl,rfl,rfl,Nat.le_refl _⟩
    (by rw [zko]; exact e2) (by simp; omega) (fun e he=>by
     rcases List.mem_append.1 he with h | h
     ·exact hes e (List.mem_of_mem_take h)
     rcases List.mem_append.1 h with h | h
     ·exact hms e h
     ·exact hes e (List.mem_of_mem_drop h)) (fun k j e c he hc=>by
     have hsz:∀ (q:Nat) (e':T),(es.take off++(ms++es.drop (off + ms.length)))[q]? = some e'→e'.cells.length=i.size:=fun q e' hq=>by
      rcases List.mem_append.1 (List.mem_of_getElem? hq) with h | h
      ·exact hes e' (List.mem_of_mem_take h)
      rcases List.mem_append.1 h with h | h
      ·exact hms e' h
      ·exact hes e' (List.mem_of_mem_drop h)
     have hj:j < i.size:=by
      have:=(List.getElem?_eq_some_iff.1 hc).1
      rwa [hsz k e he] at this
     have hg:(setR cs (o' + off * i.size + 0) us).getD (o' + k * i.size + j) undef=if o' + off * i.size≤o' + k * i.size + j∧o' + k * i.size + j < o' + off * i.size + us.length then us.getD (o' + k * i.size + j - (o' + off * i.size)) undef else cs.getD (o' + k * i.size + j) undef:=by
      rw [Array.getD_eq_getD_getElem?,zjm _ _ _ _ (by omega)]
      simp only [Nat.add_zero]
      split <;> simp [Array.getD_eq_getD_getElem?]
     rw [hg]
     rcases Nat.lt_or_ge k off with hk1 | hk1
     ·rw [List.getElem?_append_left (by simp; omega),List.getElem?_take,if_pos hk1] at he
      have:(k + 1) * i.size≤off * i.size:=Nat.mul_le_mul_right _ hk1
      rw [Nat.add_mul] at this
      rw [if_neg (by omega)]
      exact e3 k j e c he hc
     ·rw [List.getElem?_append_right (by simp; omega)] at he
      have htl:(es.take off).length=off:=by simp; omega
      rw [htl] at he
      have hko:k * i.size=off * i.size + (k - off) * i.size:=by rw [← Nat.add_mul]; congr 1; omega
      rcases Nat.lt_or_ge (k - off) ms.length with hk2 | hk2
      ·rw [List.getElem?_append_left hk2] at he
       obtain ⟨v,g1,g2,g3⟩:=fu.2 (k - off) j e c he hc
       have hkm:(k - off + 1) * i.size≤ms.length * i.size:=Nat.mul_le_mul_right _ hk2
       rw [Nat.add_mul] at hkm
       rw [if_pos (by omega),show o' + k * i.size + j - (o' + off * i.size)=(k - off) * i.size + j by omega,List.getD_eq_getElem?_getD,g1]
       exact ⟨g2,g3⟩
      ·rw [List.getElem?_append_right hk2,List.getElem?_drop,show off + ms.length + (k - off - ms.length)=k by omega] at he
       have:(ms.length) * i.size≤(k - off) * i.size:=Nat.mul_le_mul_right _ hk2
       rw [if_neg (by omega)]
       exact e3 k j e c he hc) e4
   exact ⟨_,_,_,zEx hop hrun,.p _ _ (.int _ _),hwr,zCK hl⟩
  ·exact h.elim
 ·exact h.elim
theorem zAd {draw:Bool} {ρ:Operand→AV} {o:Oper} {H:List Ob} {K:AV→List Ob→Prop} (hc:cls draw o.op=.eff) (h:aE P ρ o.op H K):∃ r H',K r H'∧DoesW P o ρ r H H'∧(draw=true→Does P o ρ r H H'):=by
 have strong:(∃ r H',K r H'∧Does P o ρ r H H')→∃ r H',K r H'∧DoesW P o ρ r H H'∧(draw=true→Does P o ρ r H H') :=
  fun ⟨r,H',h1,h2⟩=>⟨r,H',h1,h2.weak,fun _=>h2⟩
 obtain ⟨op,hop⟩:∃ op,o.op=op:=⟨_,rfl⟩
 rw [hop] at h
 cases op with
 | store t x v =>
  simp only [aE] at h
  split at h
  ·rename_i i hi; exact strong (zB1 hop hi h)
  ·exact h.elim
 | box t x=>exact strong (zEp hop h)
 | makeMap t r =>
  simp only [aE] at h
  split at h
  ·exact strong (zyx hop h)
  ·exact h.elim
 | lookup t x ix ok =>
  simp only [aE] at h
  split at h
  ·rename_i k e ht
   split at h
   ·rename_i d hk; exact strong (zz1 hop ht hk h)
   ·exact h.elim
  ·exact h.elim
 | mapUpdate t x ix v =>
  simp only [aE] at h
  split at h
  ·rename_i k e ht
   split at h
   ·rename_i d hk; exact strong (zAp hop ht hk h)
   ·exact h.elim
  ·exact h.elim
 | mapEntry t x ix =>
  simp only [aE] at h
  split at h
  ·rename_i k e ht
   split at h
   ·rename_i d hk; exact strong (zA9 hop ht hk h)
   ·exact h.elim
  ·exact h.elim
 | entryStore t x s v=>exact strong (ztP hop h)
 | makeSlice t n c =>
  simp only [aE] at h
  split at h
  ·rename_i e ht
   split at h
   ·rename_i i hi
    split at h
    ·rename_i hz
     simp only [Bool.and_eq_true,decide_eq_true_eq] at hz
     exact strong (zDh hop ht hi hz.1.1 hz.1.2 hz.2 h)
    ·exact h.elim
   ·exact h.elim
  ·exact h.elim
 | makeFunc fn first caps =>
  simp only [aE] at h
  split at h
  ·rename_i f
   split at h
   ·rename_i hf
    exact strong (zxo hop hf h)
   ·rename_i x hf
    split at h
    ·rename_i hcp
     exact strong (zCz hop hf hcp h)
    ·exact h.elim
   ·exact h.elim
  ·exact h.elim
 | call c =>
  obtain ⟨callee,args,argTypes⟩:=c
  cases callee with
  | value f =>
   obtain ⟨r,H',h1,h2⟩:=zCD hop h
   refine ⟨r,H',h1,h2,fun hd=>?_⟩
   rw [hop,hd] at hc
   simp [cls] at hc
  | invoke r m=>simp [aE] at h
  | builtin b =>
   cases b <;> try (simp [aE] at h; done)
   case append =>
    simp only [aE] at h
    split at h
    ·rename_i x y t u hx0 ht0
     have ea:args = #[x,y]:=by apply Array.ext'; simpa using hx0
     have et:argTypes = #[t,u]:=by apply Array.ext'; simpa using ht0
     subst ea et
     split at h
     ·rename_i e e' ht hu
      split at h
      ·rename_i i hi
       split at h
       ·rename_i hz
        simp only [Bool.and_eq_true,decide_eq_true_eq] at hz
        simp only [zH] at h
        split at h
        ·rename_i id ver s' off len hy
         split at h
         ·rename_i v2 s2 es hob
          obtain ⟨⟨rfl,rfl,hle⟩,h⟩:=h
          refine strong (zhj hop ht hu (.inl ⟨_,rfl⟩) hi hz.1 hz.2 (fun hs a w G hinv ry=>?_) h)
          rw [hy] at ry
          by_cases hl0:len=0
          ·subst hl0
           generalize a.eval y=u at ry ⊢
           cases ry with
           | msl _ _ _ _ _ a a' a2 cap cap' ver' c2 hl hv he hc hm hz h2 ha =>
            rw [List.take_zero]
            refine ⟨rfl,[],fun w' _=>?_,⟨by simp,fun i j e c he=>by simp at he⟩,by simp⟩
            cases a2 with
            | none=>rfl
            | some a=>simp [Builtin.firstCells,loadCells,loadCellsFrom]
          ·have hsz:i.size=s2:=by
            have hlt:off < es.length:=by omega
            have hm:es[off]∈(es.drop off).take len:=by
             refine List.mem_of_getElem? (i:=0) ?_
             rw [List.getElem?_take,if_pos (by omega),List.getElem?_drop,Nat.add_zero,List.getElem?_eq_getElem hlt]
            rw [← hs _ hm]
            generalize a.eval y=u at ry
            cases ry with
            | msl _ _ _ _ _ a a' a2 cap cap' ver' c2 hl hv he hc hm hz h2 ha =>
             exact (zi2 hinv (.inl hob) hl).2.2.2.1 _ (List.getElem_mem hlt)
           rw [hsz]
           exact zAg hinv (.inl hob) hle ry
         ·rename_i v2 s2 es hob
          obtain ⟨⟨rfl,rfl,hle⟩,h⟩:=h
          refine strong (zhj hop ht hu (.inl ⟨_,rfl⟩) hi hz.1 hz.2 (fun hs a w G hinv ry=>?_) h)
          rw [hy] at ry
          by_cases hl0:len=0
          ·subst hl0
           generalize a.eval y=u at ry ⊢
           cases ry with
           | msl _ _ _ _ _ a a' a2 cap cap' ver' c2 hl hv he hc hm hz h2 ha =>
            rw [List.take_zero]
            refine ⟨rfl,[],fun w' _=>?_,⟨by simp,fun i j e c he=>by simp at he⟩,by simp⟩
            cases a2 with
            | none=>rfl
            | some a=>simp [Builtin.firstCells,loadCells,loadCellsFrom]
          ·have hsz:i.size=s2:=by
            have hlt:off < es.length:=by omega
            have hm:es[off]∈(es.drop off).take len:=by
             refine List.mem_of_getElem? (i:=0) ?_
             rw [List.getElem?_take,if_pos (by omega),List.getElem?_drop,Nat.add_zero,List.getElem?_eq_getElem hlt]
            rw [← hs _ hm]
            generalize a.eval y=u at ry
            cases ry with
            | msl _ _ _ _ _ a a' a2 cap cap' ver' c2 hl hv he hc hm hz h2 ha =>
             exact (zi2 hinv (.inr hob) hl).2.2.2.1 _ (List.getElem_mem hlt)
           rw [hsz]
           exact zAg hinv (.inr hob) hle ry
         ·exact h.elim
        split at h
        ·rename_i ms hms
         exact strong (zhj hop ht hu (.inl ⟨_,rfl⟩) hi hz.1 hz.2 (fun hs a w G hinv ry=>zzg hinv (ry.elems hms) hs) h)
        ·exact h.elim
       ·exact h.elim
      ·exact h.elim
     ·rename_i e ht hu
      split at h
      ·rename_i i hi
       split at h
       ·rename_i hz
        simp only [Bool.and_eq_true,decide_eq_true_eq,beq_iff_eq] at hz
        simp only [zH] at h
        split at h
        ·rename_i l hy
         refine strong (zhj hop ht hu (.inr rfl) hi hz.1.1 hz.2 (fun hs a w G hinv ry=>?_) h)
         rw [hy] at ry
         rw [(zi1.1 ry).1,hz.1.2]
         exact src_str
        ·exact h.elim
       ·exact h.elim
      ·exact h.elim
     ·exact h.elim
    ·exact h.elim
   case copy =>
    simp only [aE] at h
    split at h
    ·rename_i x y t u hx0 ht0
     have ea:args = #[x,y]:=by apply Array.ext'; simpa using hx0
     have et:argTypes = #[t,u]:=by apply Array.ext'; simpa using ht0
     subst ea et
     split at h
     ·rename_i e e' ht hu
      split at h
      ·rename_i i hi
       simp only [aCopy] at h
       split at h
       ·rename_i id ver s' off len hy
        split at h
        ·rename_i v2 s2 es hob
         obtain ⟨⟨rfl,rfl,hle⟩,h⟩:=h
         refine strong (zsF hop ht hi (fun h0 hs a w G hinv ry=>?_) h)
         rw [hy] at ry
         have hsz:i.size=s2:=by
          have hl0:0 < len:=by simp at h0; omega
          have hlt:off < es.length:=by omega
          have hm:es[off]∈(es.drop off).take len:=by
           refine List.mem_of_getElem? (i:=0) ?_
           rw [List.getElem?_take,if_pos (by omega),List.getElem?_drop,Nat.add_zero,List.getElem?_eq_getElem hlt]
          rw [← hs _ hm]
          generalize a.eval y=u at ry
          cases ry with
          | msl _ _ _ _ _ a a' a2 cap cap' ver' c2 hl hv he hc hm hz h2 ha =>
           exact (zi2 hinv (.inl hob) hl).2.2.2.1 _ (List.getElem_mem hlt)
         rw [hsz]
         exact zAg hinv (.inl hob) hle ry
        ·exact h.elim
       split at h
       ·rename_i ms hms
        exact strong (zsF hop ht hi (fun h0 hs a w G hinv ry=>zzg hinv (ry.elems hms) hs) h)
       ·exact h.elim
      ·exact h.elim
     ·exact h.elim
    ·exact h.elim
 | _=>rw [hop] at hc; simp [cls] at hc
end Go.Abs
end

section
/- Regions: operations one behind the other; in whichever order the model draws. -/
namespace Go.Abs
variable {P:Program}
def fls:Prop:=(fun (_:Program→Prop)=>False) fun P=>aOp P false (fun _=>.top) (.move (.const undef)) [] fun _ _=>True
def zbi (t:List AV) (K:List AV→Prop):Prop :=
 (fun (_:Prop)=>List.rec (motive:=fun _=>(List AV→Prop)→Prop) (fun K=>K []) (fun x _ ih K=>ih fun r'=>K (x::r')) t K) fls
theorem zbm:∀ (t:List AV) (K:List AV→Prop),zbi t K=K t
 | [],_=>rfl
 | x::r,K=>zbm r fun r'=>K (x::r')
def ze (x:AV) (A B:Prop):Prop :=
 match x with
 | .p (.bool b)=>match b with
  | true=>A
  | false=>B
 | _=>fls
def gdst (ops:Array Oper) (j:Nat):Option Nat:=(ops[j]?).bind (·.dst)
def zaS:Op→Bool
 | .alloc _=>true
 | _=>false
def aExec (P:Program) (draw:Bool) (o:Oper) (t:List AV) (H:List Ob) (K:List AV→List Ob→Prop):Prop :=
 match draw && zaS o.op with
 | true=>K t H
 | false=>aOp P draw (rho t) o.op H fun v H'=>zbi (setD t o.dst v) fun t'=>K t' H'
def zCs (P:Program) (o:Oper) (t:List AV) (H:List Ob) (K:List AV→List Ob→Prop):Prop :=
 match zaS o.op with
 | true=>K t H
 | false=>aOpA P (rho t) o.op H fun v H'=>zbi (setD t o.dst v) fun t'=>K t' H'
def zpD (ops:Array Oper):Bool:=ops.toList.any fun o=>match o.op with
 | .mapUpdate _ _ _ _=>true
 | .mapEntry _ _ _=>true
 | .entryStore _ _ _ _=>true
 | _=>false
def zCt (P:Program) (draw m:Bool) (o:Oper) (t:List AV) (H:List Ob) (K:List AV→List Ob→Prop):Prop :=
 match draw && m with
 | true=>zCs P o t H K
 | false=>aExec P draw o t H K
def skp:AV:=.tup []
def sure (x:AV) (p:Prop):Prop :=
 match x with
 | .tup []=>p
 | _=>fls
def addSk (sk:List Nat) (d:Option Nat):List Nat :=
 match d with
 | some u=>u::sk
 | none=>sk
def aGd (sk:List Nat) (t:List AV) (d:Nat) (want:Bool) (E S:List AV→Prop):Prop :=
 match sk.contains d with
 | true=>sure (t.getD d .top) (S t)
 | false=>match want with
  | true=>ze (t.getD d .top) (zbi (t.set d (.p (.bool true))) E) (zbi (t.set d (.p (.bool false))) S)
  | false=>ze (t.getD d .top) (zbi (t.set d (.p (.bool true))) S) (zbi (t.set d (.p (.bool false))) E)
def aOps (P:Program) (draw:Bool) (ops:Array Oper):List Oper→List Nat→List AV→List Ob→(List AV→List Ob→Prop)→Prop
 | [],_,t,H,K=>K t H
 | o::r,sk,t,H,K =>
  match o.guard with
  | none=>zCt P draw (zpD ops) o t H fun t' H'=>aOps P draw ops r sk t' H' K
  | some (j,want)=>match gdst ops j with
   | some d=>aGd sk t d want (fun t=>zCt P draw (zpD ops) o t H fun t' H'=>aOps P draw ops r sk t' H' K) (fun t=>zbi (setD t o.dst skp) fun t=>aOps P draw ops r (addSk sk o.dst) t H K)
   | none=>False
def zkQ (P:Program):List Oper→List AV→List Ob→(List AV→List Ob→Prop)→Prop
 | [],t,H,K=>K t H
 | o::r,t,H,K =>
  match zaS o.op with
  | true=>match o.dst with
   | some d=>match decide (d < t.length) with
    | true=>aA P o.op fun z=>zy z H fun p H'=>zbi (t.set d p) fun t=>zkQ P r t H' K
    | false=>False
   | none=>False
  | false=>zkQ P r t H K
def preds (acc:List (List Nat)) (o:Oper):List Nat :=
 (o.after.toList.flatMap fun e=>if Region.binds .any e then e.on::acc.getD e.on [] else []).eraseDups
def masks:List Oper→List (List Nat)→List (List Nat)
 | [],acc=>acc
 | o::r,acc=>masks r (acc++[preds acc o])
def isM:Op→Bool
 | .store _ _ _=>true
 | .makeFunc _ _ _=>true
 | _=>false
def isE (op:Op):Bool:=decide (cls true op=.eff)
def isL (op:Op):Bool:=decide (cls true op=.load)
def clash (a b:Op):Bool:=(isE a && isE b) || (isM a && isL b) || (isL a && isM b)
def looks (ops:Array Oper) (o:Oper):List Nat :=
 (o.op.operands.toList.filterMap fun | .tmp u=>some u | _=>none)++(match o.guard with | some (j,_)=>(gdst ops j).toList | none=>[])
def zxA (ops:Array Oper) (m:List (List Nat)) (j:Nat) (o:Oper) (i:Nat) (o':Oper):Bool :=
 (i == j || o'.dst.isNone || o'.dst != o.dst) &&
 (match o'.dst with | some d=>!(looks ops o).contains d || (decide (i < j) && (m.getD j []).contains i) || (decide (j < i) && !zaS o'.op && (m.getD i []).contains j) | none=>true) &&
 (!(decide (i < j) && clash o'.op o.op) || (m.getD j []).contains i)
def opOk (ops:Array Oper) (m:List (List Nat)) (j:Nat) (o:Oper):Bool :=
 o.after.toList.all (fun e=>!Region.binds .any e || decide (e.on < j)) &&
 (!zaS o.op || (o.guard.isNone && o.dst.isSome)) &&
 (List.range ops.size).all fun i=>match ops[i]? with | some o'=>zxA ops m j o i o' | none=>true
def zdA (ops:Array Oper):Bool :=
 (List.range ops.size).all fun j=>match ops[j]? with | some o=>opOk ops (masks ops.toList []) j o | none=>true
theorem zkl {ρ:Operand→AV} {o:Oper} {H:List Ob} {K:AV→List Ob→Prop} (h:aOp P false ρ o.op H K) {a:Act} {w:World} {G:Gh} (hi:Inv w G H) (hx:∀ x∈o.op.operands,RepA G (ρ x) (a.eval x)) :
  ∃ r H',K r H'∧DoesW P o ρ r H H':=by
 unfold aOp at h
 split at h
 ·rename_i hc
  obtain ⟨r,_,h2,h3⟩:=zAf hc h
  exact ⟨r,H,h2 a w G H hi hx,(h3 H).weak⟩
 ·obtain ⟨r,h2,h3⟩:=zAe h
  exact ⟨r,H,h2,(h3 H (fun _ _ _ _ _=>rfl)).weak⟩
 ·rename_i hc
  obtain ⟨op,hop⟩:∃ op,o.op=op:=⟨_,rfl⟩
  rw [hop] at h
  cases op with
  | alloc t =>
   obtain ⟨z,h2,h3⟩:=zuH (ρ:=ρ) hop h
   exact ⟨_,_,h2,(h3 H).1.weak⟩
  | _=>simp [aA] at h
 ·rename_i hc
  obtain ⟨r,H',h2,h3,_⟩:=zAd hc (show aE P ρ o.op H K from h)
  exact ⟨r,H',h2,h3⟩
theorem znQ {ops:Array Oper} {j d:Nat} (hd:gdst ops j=some d) {G:Gh} {t:List AV} {tm:Array Value} (h:RepTm G t tm) {b:Bool} (hb:t.getD d .top=.p (.bool b)):yielded ops tm j=some b:=by
 have r:=h.2 d
 rw [hb] at r
 have ev:=zat.1 r
 have hlt:d < tm.size:=by
  rcases Nat.lt_or_ge d t.length with h1 | h1
  ·have:=h.1; omega
  ·rw [List.getD_eq_getElem?_getD,List.getElem?_eq_none h1] at hb; simp at hb
 unfold yielded
 unfold gdst at hd
 rw [hd]
 simp only [Option.bind_some]
 rw [Array.getD_eq_getD_getElem?,Array.getElem?_eq_getElem hlt] at ev
 rw [Array.getElem?_eq_getElem hlt]
 simp at ev
 rw [ev]
theorem zjn {t:List AV} {d:Nat} {x:AV} (h:t.getD d .top=x):t.set d x=t:=by
 apply List.ext_getElem?
 intro i
 by_cases hi:d=i
 ·subst hi
  rcases Nat.lt_or_ge d t.length with h1 | h1
  ·rw [List.getD_eq_getElem?_getD,List.getElem?_eq_getElem h1] at h
   simp at h
   simp [h1,← h]
  ·simp [h1]
 ·rw [List.getElem?_set_ne hi]
theorem zt3 {sk:List Nat} {t:List AV} {d:Nat} {want:Bool} {E S:List AV→Prop} (h:aGd sk t d want E S) :
  (t.getD d .top=.tup []∧S t) ∨ ∃ b,t.getD d .top=.p (.bool b)∧if b == want then E t else S t:=by
 have key:∀ {A B:Prop},ze (t.getD d .top) A B→∃ b,t.getD d .top=.p (.bool b)∧(b=true→A)∧(b=false→B):=by
  intro A B h
  unfold ze at h
  split at h
  ·rename_i b hb
   exact ⟨b,hb,fun e=>by subst e; exact h,fun e=>by subst e; exact h⟩
  ·exact False.elim h
 unfold aGd at h
 simp only [zbm] at h
 split at h
 ·left
  unfold sure at h
  split at h
  ·rename_i he
   exact ⟨he,h⟩
  ·exact False.elim h
 ·right
  cases want with
  | true =>
   obtain ⟨b,hb,h1,h2⟩:=key h
   refine ⟨b,hb, ?_⟩
   cases b with
   | true=>have:=h1 rfl; rw [zjn hb] at this; simpa using this
   | false=>have:=h2 rfl; rw [zjn hb] at this; simpa using this
  | false =>
   obtain ⟨b,hb,h1,h2⟩:=key h
   refine ⟨b,hb, ?_⟩
   cases b with
   | true=>have:=h1 rfl; rw [zjn hb] at this; simpa using this
   | false=>have:=h2 rfl; rw [zjn hb] at this; simpa using this
theorem zgi {G:Gh} {v:Value}:RepA G (.tup []) v↔v=undef:=by
 constructor
 ·intro h
  cases h with
  | tup _ vs hn hv=>simp [undef]; exact Array.eq_empty_of_size_eq_zero (by simpa using hn)
 ·rintro rfl
  exact .tup [] #[] rfl (fun j c hj=>by simp at hj)
theorem zqj {ops:Array Oper} {j d:Nat} (hd:gdst ops j=some d) {tm:Array Value} (h:tm.getD d undef=undef):yielded ops tm j=none:=by
 unfold yielded
 unfold gdst at hd
 rw [hd]
 simp only [Option.bind_some]
 by_cases hl:d < tm.size
 ·rw [Array.getD_eq_getD_getElem?,Array.getElem?_eq_getElem hl] at h
  rw [Array.getElem?_eq_getElem hl]
  simp at h
  rw [h]
  rfl
 ·rw [Array.getElem?_eq_none (by omega)]
theorem zgI (a:Act) (d:Option Tmp) (v:Value):(a.put d v).defers=a.defers:=by cases d <;> rfl
def Kept (ops:Array Oper) (a a':Act):Prop:=(∀ u,(∀ (k:Nat) (o:Oper),ops[k]? = some o→o.dst≠some u)→a'.tmps.getD u undef=a.tmps.getD u undef)∧a'.tmps.size=a.tmps.size
theorem Kept.refl (ops:Array Oper) (a:Act):Kept ops a a:=⟨fun _ _=>rfl,rfl⟩
theorem Kept.trans {ops:Array Oper} {a b c:Act} (h:Kept ops a b) (k:Kept ops b c):Kept ops a c:=⟨fun u hu=>(k.1 u hu).trans (h.1 u hu),k.2.trans h.2⟩
theorem Kept.put {ops:Array Oper} (a:Act) {k:Nat} {o:Oper} (ho:ops[k]? = some o) (v:Value):Kept ops a (a.put o.dst v):=by
 refine ⟨fun u hu=>?_, ?_⟩
 ·have:=hu k o ho
  cases hd:o.dst with
  | none=>rfl
  | some d =>
   have hne:d≠u:=fun h=>this (by rw [hd,h])
   simp [Act.put,Array.getD_eq_getD_getElem?,Array.getElem?_setIfInBounds_ne hne]
 ·cases hd:o.dst with
  | none=>rfl
  | some d=>simp [Act.put]
end Go.Abs
end

section
/- A region whose order is drawn: whichever order comes, it ends as the text's order does. -/
namespace Go.Abs
variable {P:Program} {m:Bool}
def refs (x:AV) (id:Nat):Prop:=(∃ off,x=.bptr id off)∨(∃ es,x=.own id es)∨(∃ v s i o,x=.mptr id v s i o)∨(∃ v s o n,x=.msl id v s o n)∨x=.mapr id
def Ob.soft (m:Bool):Ob→Bool
 | .row _ _=>true
 | .mrow _ _ _=>m
 | .mapo _=>m
 | _=>false
structure Evo (m:Bool) (op:Op) (ρ:Operand→AV) (H H':List Ob):Prop where
 len:H.length≤H'.length
 far:∀ id,id < H.length→(∀ x∈op.operands,¬ refs (ρ x) id)→H'[id]? = H[id]?
 kind:isM op=false→∀ id,id < H.length→H'[id]? = H[id]? ∨ ((∃ ob,H[id]? = some ob∧ob.soft m=true) ∧ ∃ ob,H'[id]? = some ob∧ob.soft m=true)
theorem zkE {op:Op} {ρ:Operand→AV} {H L:List Ob}:Evo m op ρ H (H++L) :=
 ⟨by simp,fun id hid _=>List.getElem?_append_left hid,fun _ id hid=>.inl (List.getElem?_append_left hid)⟩
theorem zcZ:∀ (caps:List AV) (H:List Ob) (K K':List T→List Ob→Prop),(∀ cs H',K cs H'→K' cs H')→zbn caps H K→zbn caps H K'
 | [],H,K,K',hk,h=>hk _ _ h
 | .bptr id off::r,H,K,K',hk,h=>by
  simp only [zbn] at h ⊢
  cases hob:H[id]? with
  | none=>simp [hob] at h
  | some ob =>
   cases ob with
   | box cells =>
    simp only [hob] at h ⊢
    cases hts:allT cells with
    | none=>simp [hts] at h
    | some ts =>
     simp only [hts] at h ⊢
     exact zcZ r _ _ _ (fun cs H' hh=>hk _ _ hh) h
   | fz ts =>
    simp only [hob] at h ⊢
    exact zcZ r _ _ _ (fun cs H' hh=>hk _ _ hh) h
   | _=>simp [hob] at h
 | .p (.imm ts off)::r,H,K,K',hk,h=>by
  simp only [zbn] at h ⊢
  exact zcZ r _ _ _ (fun cs H' hh=>hk _ _ hh) h
 | .p (.bool _)::_,_,_,_,_,h=>h.elim
 | .p (.int _ _)::_,_,_,_,_,h=>h.elim
 | .p (.str _)::_,_,_,_,_,h=>h.elim
 | .p (.slice _)::_,_,_,_,_,h=>h.elim
 | .p (.func _ _)::_,_,_,_,_,h=>h.elim
 | .p (.agg _)::_,_,_,_,_,h=>h.elim
 | .p (.raw _)::_,_,_,_,_,h=>h.elim
 | .full _::_,_,_,_,_,h=>h.elim
 | .own _ _::_,_,_,_,_,h=>h.elim
 | .mclo _ _::_,_,_,_,_,h=>h.elim
 | .top::_,_,_,_,_,h=>h.elim
 | .agg _::_,_,_,_,_,h=>h.elim
 | .tup _::_,_,_,_,_,h=>h.elim
theorem ziW:∀ (caps:List AV) (H:List Ob) (K:List T→List Ob→Prop),zbn caps H K→zbn caps H (fun cs H'=>K cs H'∧H'.length=H.length ∧ ∀ id,(∀ x∈caps,¬ refs x id)→H'[id]? = H[id]?)
 | [],H,K,h=>⟨h,rfl,fun _ _=>rfl⟩
 | .bptr id off::r,H,K,h=>by
  simp only [zbn] at h ⊢
  cases hob:H[id]? with
  | none=>simp [hob] at h
  | some ob =>
   cases ob with
   | box cells =>
    simp only [hob] at h ⊢
    cases hts:allT cells with
    | none=>simp [hts] at h
    | some ts =>
     simp only [hts] at h ⊢
     refine zcZ r _ _ _ (fun cs H' hh=>⟨hh.1,by simpa using hh.2.1,fun j hj=>?_⟩) (ziW r _ _ h)
     rw [hh.2.2 j (fun x hx=>hj x (by simp [hx])),List.getElem?_set_ne]
     intro e
     exact hj (.bptr id off) (by simp) (.inl ⟨off,by rw [e]⟩)
   | fz ts =>
    simp only [hob] at h ⊢
    exact zcZ r _ _ _ (fun cs H' hh=>⟨hh.1,hh.2.1,fun j hj=>hh.2.2 j (fun x hx=>hj x (by simp [hx]))⟩) (ziW r _ _ h)
   | _=>simp [hob] at h
 | .p (.imm ts off)::r,H,K,h=>by
  simp only [zbn] at h ⊢
  exact zcZ r _ _ _ (fun cs H' hh=>⟨hh.1,hh.2.1,fun j hj=>hh.2.2 j (fun x hx=>hj x (by simp [hx]))⟩) (ziW r _ _ h)
 | .p (.bool _)::_,_,_,h=>h.elim
 | .p (.int _ _)::_,_,_,h=>h.elim
 | .p (.str _)::_,_,_,h=>h.elim
 | .p (.slice _)::_,_,_,h=>h.elim
 | .p (.func _ _)::_,_,_,h=>h.elim
 | .p (.agg _)::_,_,_,h=>h.elim
 | .p (.raw _)::_,_,_,h=>h.elim
 | .full _::_,_,_,h=>h.elim
 | .own _ _::_,_,_,h=>h.elim
 | .mclo _ _::_,_,_,h=>h.elim
 | .top::_,_,_,h=>h.elim
 | .agg _::_,_,_,h=>h.elim
 | .tup _::_,_,_,h=>h.elim
theorem zqt {op:Op} {ρ:Operand→AV} {x:Operand} {H:List Ob} {id:Nat} {ob ob':Ob} (hx:x∈op.operands) (hr:refs (ρ x) id) (ho:H[id]? = some ob) (h1:ob.soft m=true) (h2:ob'.soft m=true):Evo m op ρ H (H.set id ob'):=by
 have hlt:=(List.getElem?_eq_some_iff.1 ho).1
 refine ⟨by simp,fun j hj hn=>?_,fun _ j hj=>?_⟩
 ·rw [List.getElem?_set_ne]
  intro e
  exact hn x hx (e ▸ hr)
 ·by_cases e:id=j
  ·subst e
   exact .inr ⟨⟨ob,ho,h1⟩,ob',by simp [hlt],h2⟩
  ·exact .inl (List.getElem?_set_ne e)
theorem zkc {op:Op} {ρ:Operand→AV} {s eb:Nat} {x:Operand} {ms:List T} {H:List Ob} {K:AV→List Ob→Prop} (hx:x∈op.operands) (hm:m=true∨(ρ x).wildA=false) (h:zaz s eb (ρ x) ms H K) :
  zaz s eb (ρ x) ms H fun r H'=>K r H'∧Evo m op ρ H H':=by
 unfold zaz at h ⊢
 split at h
 ·split at h
  ·exact ⟨h.1,h.2,zkE⟩
  ·exact ⟨h.1,h.2,zkE⟩
 ·rename_i id ver s' len hx0
  have hmt:m=true:=by
   rcases hm with h | h
   ·exact h
   ·rw [hx0] at h; simp [AV.wildA] at h
  split at h
  ·rename_i v2 s2 es hob
   exact ⟨h.1,h.2.1,h.2.2,zqt hx (.inr (.inr (.inr (.inl ⟨_,_,_,_,hx0⟩)))) hob hmt hmt⟩
  ·exact h.elim
 ·rename_i id es hx0
  split at h
  ·rename_i n s' hob
   exact ⟨h.1,h.2.1,h.2.2,zqt hx (.inr (.inl ⟨es,hx0⟩)) hob rfl rfl⟩
  ·exact h.elim
 ·exact h.elim
theorem zwW {op:Op} {ρ:Operand→AV} {s:Nat} {x:Operand} {ms:List T} {H:List Ob} {K:AV→List Ob→Prop} (hm:m=true) (hx:x∈op.operands) (h:zfo s (ρ x) ms H K) :
  zfo s (ρ x) ms H fun r H'=>K r H'∧Evo m op ρ H H':=by
 unfold zfo at h ⊢
 split at h
 ·rename_i id ver s' off len hx0
  split at h
  ·rename_i v2 s2 es hob
   exact ⟨h.1,h.2,zqt hx (.inr (.inr (.inr (.inl ⟨_,_,_,_,hx0⟩)))) hob hm hm⟩
  ·exact h.elim
 ·exact h.elim
theorem zFi {d:TypeDesc} {x ix:AV} {H:List Ob} {K K':Nat→T→List (T×T)→Option (Nat×T)→Prop} (hk:∀ a b c r,K a b c r→K' a b c r) (h:aKey d x ix H K):aKey d x ix H K':=by
 unfold aKey at h ⊢
 split at h
 ·rename_i id k
  generalize H[id]? = o at h ⊢
  cases o with
  | none=>exact h.elim
  | some ob =>
   cases ob with
   | mapo es =>
    dsimp only at h ⊢
    generalize zfV d k=b1 at h ⊢
    generalize zfs d k es 0=r at h ⊢
    cases b1 <;> cases r <;> first | exact h.elim | exact hk _ _ _ _ h
   | _=>exact h.elim
 ·exact h.elim
theorem zCR {ρ:Operand→AV} {op:Op} {e:TypeId} {d:TypeDesc} {ok:Bool} {x ix:AV} {H:List Ob} {K:AV→List Ob→Prop} (h:zgA P e fun z=>zex d ok z x ix H K) :
  zgA P e fun z=>zex d ok z x ix H fun r H'=>K r H'∧Evo m op ρ H H':=by
 have hev:Evo m op ρ H H:=⟨Nat.le_refl _,fun _ _ _=>rfl,fun _ _ _=>.inl rfl⟩
 have key:∀ z,zex d ok z x ix H K→zex d ok z x ix H fun r H'=>K r H'∧Evo m op ρ H H':=by
  intro z h
  cases z with
  | p zt =>
   simp only [zex] at h ⊢
   refine zFi (fun a b c r hr=>?_) h
   cases r with
   | none=>exact ⟨hr,hev⟩
   | some r=>exact ⟨hr,hev⟩
  | _=>exact h.elim
 unfold zgA at h ⊢
 split at h
 ·split at h
  ·split at h
   ·exact key _ h
   ·exact h.elim
  ·exact h.elim
 ·exact h.elim
theorem zCS {ρ:Operand→AV} {op:Op} {d:TypeDesc} {x:Operand} {ix v:AV} {H:List Ob} {K:AV→List Ob→Prop} (hm:m=true) (hx:x∈op.operands) (h:zcB d (ρ x) ix v H K) :
  zcB d (ρ x) ix v H fun r H'=>K r H'∧Evo m op ρ H H':=by
 unfold zcB at h ⊢
 split at h
 ·obtain ⟨id,k,es,r,h,hob,hf,hd,hx0,hix0⟩:=zmw h
  have hev:∀ es',Evo m op ρ H (H.set id (.mapo es')):=fun es'=>zqt hx (.inr (.inr (.inr (.inr hx0)))) hob hm hm
  simp only [aKey,hx0,hix0,hob,hd,hf]
  cases r with
  | none=>exact ⟨h,hev _⟩
  | some p=>exact ⟨h,hev _⟩
 ·exact h.elim
theorem zEA {ρ:Operand→AV} {op:Op} {e:TypeId} {d:TypeDesc} {x:Operand} {ix:AV} {H:List Ob} {K:AV→List Ob→Prop} (hm:m=true) (hx:x∈op.operands) (h:zgA P e fun z=>zg2 d z (ρ x) ix H K) :
  zgA P e fun z=>zg2 d z (ρ x) ix H fun r H'=>K r H'∧Evo m op ρ H H':=by
 have hev:Evo m op ρ H H:=⟨Nat.le_refl _,fun _ _ _=>rfl,fun _ _ _=>.inl rfl⟩
 have key:∀ z,zg2 d z (ρ x) ix H K→zg2 d z (ρ x) ix H fun r H'=>K r H'∧Evo m op ρ H H':=by
  intro z h
  cases z with
  | p zt =>
   simp only [zg2] at h ⊢
   obtain ⟨id,k,es,r,h,hob,hf,hd,hx0,hix0⟩:=zmw h
   simp only [aKey,hx0,hix0,hob,hd,hf]
   cases r with
   | none=>exact ⟨h,zqt hx (.inr (.inr (.inr (.inr hx0)))) hob hm hm⟩
   | some p=>exact ⟨h,hev⟩
  | _=>exact h.elim
 unfold zgA at h ⊢
 split at h
 ·split at h
  ·split at h
   ·exact key _ h
   ·exact h.elim
  ·exact h.elim
 ·exact h.elim
theorem zwX {ρ:Operand→AV} {op:Op} {x:Operand} {n v:AV} {H:List Ob} {K:AV→List Ob→Prop} (hm:m=true) (hx:x∈op.operands) (h:zg1 (ρ x) n v H K) :
  zg1 (ρ x) n v H fun r H'=>K r H'∧Evo m op ρ H H':=by
 unfold zg1 at h ⊢
 split at h
 ·rename_i hx0 hv
  split at h
  ·rename_i es hob
   exact ⟨h.1,h.2,zqt hx (.inr (.inr (.inr (.inr hx0)))) hob hm hm⟩
  ·exact h.elim
 ·exact h.elim
theorem evo_E {ρ:Operand→AV} {op:Op} {H:List Ob} {K:AV→List Ob→Prop} (hc:cls true op=.eff) (h:aEd (!m) ρ op (aE P ρ op H K)):aE P ρ op H fun r H'=>K r H'∧Evo m op ρ H H':=by
 have hcm:m=true∨((∀ (args:Array Operand) (ts:Array TypeId),op=.call { callee:=.builtin .append,args:=args,argTypes:=ts }→(args.toList.map ρ).any AV.wildA=false)∧(∀ t x ix v,op≠.mapUpdate t x ix v)∧(∀ t x ix,op≠.mapEntry t x ix)∧(∀ t x s v,op≠.entryStore t x s v) ∧ ∀ (args:Array Operand) (ts:Array TypeId),op≠.call { callee:=.builtin .copy,args:=args,argTypes:=ts }):=by
  cases m with
  | true=>exact .inl rfl
  | false =>
   right
   refine ⟨fun args ts e=>?_,fun t x ix v e=>?_,fun t x ix e=>?_,fun t x s v e=>?_,fun args ts e=>?_⟩
   ·subst e
    simp only [Bool.not_false,aEd,aCalm] at h
    split at h
    ·exact h.elim
    ·assumption
   all_goals (subst e; exact h.elim)
 have h:aE P ρ op H K:=by
  cases m with
  | true=>exact h
  | false =>
   simp only [Bool.not_false,aEd] at h
   split at h
   ·simp only [aCalm] at h
    split at h
    ·exact h.elim
    ·exact h
   all_goals first | exact h.elim | exact h
 cases op with
 | store t x v =>
  simp only [aE] at h ⊢
  split at h
  ·rename_i i hi
   unfold zi at h ⊢
   split at h
   ·rename_i id off hx0
    split at h
    ·rename_i cells hob
     refine ⟨h.1,h.2,⟨by simp,fun j hj hn=>?_,fun hm=>by simp [isM] at hm⟩⟩
     rw [List.getElem?_set_ne]
     intro e
     exact hn x (by simp [Op.operands]) (.inl ⟨off,by rw [hx0,e]⟩)
    ·exact h.elim
   ·rename_i id ver s' i' off hx0
    split at h
    ·rename_i v2 s2 es hob
     split at h
     ·rename_i ts hts
      refine ⟨h.1,h.2,⟨by simp,fun j hj hn=>?_,fun hm=>by simp [isM] at hm⟩⟩
      rw [List.getElem?_set_ne]
      intro e
      exact hn x (by simp [Op.operands]) (.inr (.inr (.inl ⟨ver,s',i',off,by rw [hx0,e]⟩)))
     ·refine zcZ _ _ _ _ (fun cs H1 hh=>⟨hh.1.1,hh.1.2,⟨by simp [hh.2.1],fun j hj hn=>?_,fun hm=>by simp [isM] at hm⟩⟩) (ziW _ _ _ h)
      rw [List.getElem?_set_ne]
      ·exact hh.2.2 j (fun y hy=>by simp at hy; subst hy; exact hn v (by simp [Op.operands]))
      ·intro e
       exact hn x (by simp [Op.operands]) (.inr (.inr (.inl ⟨ver,s',i',off,by rw [hx0,e]⟩)))
    ·exact h.elim
   ·exact h.elim
  ·exact h.elim
 | box t x=>exact ⟨h.1,h.2,zkE⟩
 | makeSlice t n c =>
  simp only [aE,zeroCells] at h ⊢
  split at h
  ·split at h
   ·split at h
    ·split at h
     ·split at h
      ·split at h
       ·unfold aMake at h ⊢
        split at h
        ·exact ⟨h.1,h.2,zkE⟩
        ·exact h.elim
       ·exact h.elim
      ·exact h.elim
     ·exact h.elim
    ·exact h.elim
   ·exact h.elim
  ·exact h.elim
 | makeFunc fn first caps =>
  simp only [aE] at h ⊢
  split at h
  ·rename_i f
   split at h
   ·rename_i hf
    unfold zaA at h ⊢
    split at h
    ·exact ⟨h,⟨Nat.le_refl _,fun _ _ _=>rfl,fun hm=>by simp [isM] at hm⟩⟩
    refine zcZ _ _ _ _ (fun cs H' hh=>⟨hh.1,⟨by rw [hh.2.1]; exact Nat.le_refl _,fun j hj hn=>hh.2.2 j (fun y hy=>?_),fun hm=>by simp [isM] at hm⟩⟩) (ziW _ _ _ h)
    simp only [List.mem_map] at hy
    obtain ⟨x,hx,rfl⟩:=hy
    refine hn x ?_
    have:x∈caps:=by simpa using hx
    simp [Op.operands,this]
   ·rename_i x hf
    split at h
    ·unfold aBind at h ⊢
     split at h
     ·exact ⟨h,⟨Nat.le_refl _,fun _ _ _=>rfl,fun hm=>by simp [isM] at hm⟩⟩
     ·exact h.elim
    ·exact h.elim
   ·exact h.elim
  ·exact h.elim
 | call c =>
  obtain ⟨callee,args,argTypes⟩:=c
  cases callee with
  | value f=>simp [cls] at hc
  | invoke r m=>simp [aE] at h
  | builtin b =>
   cases b <;> try (simp [aE] at h; done)
   case append =>
    simp only [aE] at h ⊢
    split at h
    ·rename_i x y t u hx0 ht0
     have memx:x∈(Op.call { callee:=.builtin .append,args:=args,argTypes:=argTypes }).operands:=by
      have:x∈args:=by
       have:x∈args.toList:=by rw [hx0]; simp
       simpa using this
      simp [Op.operands,Call.operands,this]
     have hmx:m=true∨(ρ x).wildA=false:=by
      rcases hcm with h | h
      ·exact .inl h
      ·right
       have:=h.1 args argTypes rfl
       rw [hx0] at this
       simp only [List.map_cons,List.map_nil,List.any_cons,List.any_nil,Bool.or_false,Bool.or_eq_false_iff] at this
       exact this.1
     split at h
     ·rename_i e e' ht hu
      split at h
      ·rename_i i hi
       split at h
       ·rename_i hz
        simp only [zH] at h ⊢
        split at h
        ·split at h
         ·exact ⟨h.1,zkc memx hmx h.2⟩
         ·exact ⟨h.1,zkc memx hmx h.2⟩
         ·exact h.elim
        split at h
        ·exact zkc memx hmx h
        ·exact h.elim
       ·exact h.elim
      ·exact h.elim
     ·rename_i e ht hu
      split at h
      ·rename_i i hi
       split at h
       ·rename_i hz
        simp only [zH] at h ⊢
        split at h
        ·exact zkc memx hmx h
        ·exact h.elim
       ·exact h.elim
      ·exact h.elim
     ·exact h.elim
    ·exact h.elim
   case copy =>
    simp only [aE] at h ⊢
    split at h
    ·rename_i x y t u hx0 ht0
     have memx:x∈(Op.call { callee:=.builtin .copy,args:=args,argTypes:=argTypes }).operands:=by
      have:x∈args:=by
       have:x∈args.toList:=by rw [hx0]; simp
       simpa using this
      simp [Op.operands,Call.operands,this]
     have hmx:m=true:=hcm.resolve_right fun c=>c.2.2.2.2 _ _ rfl
     split at h
     ·split at h
      ·simp only [aCopy] at h ⊢
       split at h
       ·split at h
        ·exact ⟨h.1,zwW hmx memx h.2⟩
        ·exact h.elim
       split at h
       ·exact zwW hmx memx h
       ·exact h.elim
      ·exact h.elim
     ·exact h.elim
    ·exact h.elim
 | makeMap t r =>
  simp only [aE] at h ⊢
  split at h
  ·exact ⟨h,zkE⟩
  ·exact h.elim
 | lookup t x ix ok =>
  simp only [aE] at h ⊢
  cases h1:P.underlying t with
  | none=>simp only [h1] at h
  | some d1 =>
   cases d1 with
   | map k e =>
    simp only [h1] at h ⊢
    cases h2:P.underlying k with
    | none=>simp only [h2] at h
    | some d =>
     simp only [h2] at h ⊢
     exact zCR h
   | _=>simp only [h1] at h
 | mapUpdate t x ix v =>
  simp only [aE] at h ⊢
  split at h
  ·split at h
   ·exact zCS (hcm.resolve_right fun c=>c.2.1 _ _ _ _ rfl) (by simp [Op.operands]) h
   ·exact h.elim
  ·exact h.elim
 | mapEntry t x ix =>
  simp only [aE] at h ⊢
  split at h
  ·split at h
   ·exact zEA (hcm.resolve_right fun c=>c.2.2.1 _ _ _ rfl) (by simp [Op.operands]) h
   ·exact h.elim
  ·exact h.elim
 | entryStore t x s v =>
  simp only [aE] at h ⊢
  exact zwX (hcm.resolve_right fun c=>c.2.2.2.1 _ _ _ _ rfl) (by simp [Op.operands]) h
 | _=>simp [aE] at h
def Ex (P:Program) (m:Bool) (o:Oper) (ρ:Operand→AV) (v:AV) (H H':List Ob):Prop :=
 (cls true o.op=.pure∧H'=H ∧ ∀ H2,Does P o ρ v H2 H2) ∨
 (cls true o.op=.load∧H'=H∧(m=true→∀ x∈o.op.operands,(ρ x).wild=false ∧ ∀ id off,ρ x=.bptr id off→∃ ob,H[id]? = some ob∧ob.soft true=false) ∧
  ∀ H2:List Ob,(∀ x∈o.op.operands,∀ id,sees (ρ x) id→id < H.length→H2[id]? = H[id]?)→Does P o ρ v H2 H2) ∨
 (cls true o.op=.eff∧Does P o ρ v H H'∧Evo m o.op ρ H H')
inductive Stp (P:Program) (ops:Array Oper) (o:Oper) (t:List AV) (H:List Ob):List AV→List Ob→Prop where
 | alloc (hc:zaS o.op=true):Stp P ops o t H t H
 | skip (j d:Nat) (want b:Bool) (hg:o.guard=some (j,want)) (hd:gdst ops j=some d) (hb:t.getD d .top=.p (.bool b)) (hne:(b == want)=false):Stp P ops o t H (setD t o.dst skp) H
 | skip2 (j d:Nat) (want:Bool) (hg:o.guard=some (j,want)) (hd:gdst ops j=some d) (hb:t.getD d .top=.tup []):Stp P ops o t H (setD t o.dst skp) H
 | exec (v:AV) (H':List Ob) (hc:zaS o.op=false) (hg:o.guard=none ∨ ∃ j d want,o.guard=some (j,want)∧gdst ops j=some d∧t.getD d .top=.p (.bool want)) (hx:Ex P (zpD ops) o (rho t) v H H') :
   Stp P ops o t H (setD t o.dst v) H'
theorem ld_get {ρ:Operand→AV} {op:Op} {H:List Ob} {K:AV→Prop} (h:aLD P ρ op H K) :
  (∀ x∈op.operands,(ρ x).wild=false ∧ ∀ id off,ρ x=.bptr id off→∃ ob,H[id]? = some ob∧ob.soft true=false)∧aL P ρ op H K:=by
 cases op with
 | load t x =>
  simp only [aLD] at h
  simp only [aL]
  split at h
  ·rename_i d i hd hi
   split at h
   ·rename_i hz
    have main:(ρ x).wild=false∧(∀ id off,ρ x=.bptr id off→∃ ob,H[id]? = some ob∧ob.soft true=false)∧aLoad (aggD d) i.size (ρ x) H K:=by
     generalize ρ x=y at h
     cases y with
     | mptr=>exact h.elim
     | bptr id off =>
      refine ⟨rfl,fun id' off' e=>?_,h⟩
      simp only [AV.bptr.injEq] at e
      obtain ⟨rfl,rfl⟩:=e
      simp only [zzr,aLoad] at h
      split at h
      ·rename_i cells hob; exact ⟨_,hob,rfl⟩
      ·rename_i cs hob; exact ⟨_,hob,rfl⟩
      ·exact h.elim
     | _=>exact ⟨rfl,fun _ _ e=>by simp at e,h⟩
    refine ⟨fun y hy=>?_,main.2.2⟩
    have:y=x:=by simpa [Op.operands] using hy
    subst this
    exact ⟨main.1,main.2.1⟩
   ·exact h.elim
  ·exact h.elim
 | _=>exact h.elim
theorem zyO {o:Oper} {t:List AV} {H:List Ob} {K:List AV→List Ob→Prop} (h:zCt P true m o t H K) :
  (zaS o.op=true∧K t H)∨(zaS o.op=false ∧ ∃ v H',Ex P m o (rho t) v H H'∧K (setD t o.dst v) H'):=by
 cases m with
 | true =>
  have h:zCs P o t H K:=h
  unfold zCs at h
  simp only [zbm] at h
  split at h
  ·rename_i ha; exact .inl ⟨ha,h⟩
  ·rename_i ha
   refine .inr ⟨ha, ?_⟩
   unfold aOpA at h
   split at h
   ·rename_i hc
    obtain ⟨r,h1,_,h3⟩:=zAf hc h
    exact ⟨r,H,.inl ⟨hc,rfl,h3⟩,h1 rfl⟩
   ·rename_i hc
    obtain ⟨hq,h⟩:=ld_get h
    obtain ⟨r,h2,h3⟩:=zAe h
    exact ⟨r,H,.inr (.inl ⟨hc,rfl,fun _=>hq,h3⟩),h2⟩
   ·rename_i hc
    exfalso
    cases hop:o.op <;> simp [hop,aA,zaS] at h ha
   ·rename_i hc
    obtain ⟨r,H',h2,_,h3⟩:=zAd hc (evo_E (m:=true) hc h)
    exact ⟨r,H',.inr (.inr ⟨hc,h3 rfl,h2.2⟩),h2.1⟩
 | false =>
  have h:aExec P true o t H K:=h
  unfold aExec at h
  simp only [Bool.true_and,zbm] at h
  split at h
  ·rename_i ha; exact .inl ⟨ha,h⟩
  ·rename_i ha
   refine .inr ⟨by simpa using ha, ?_⟩
   unfold aOp at h
   split at h
   ·rename_i hc
    obtain ⟨r,h1,_,h3⟩:=zAf hc h
    exact ⟨r,H,.inl ⟨hc,rfl,h3⟩,h1 rfl⟩
   ·rename_i hc
    obtain ⟨r,h2,h3⟩:=zAe h
    exact ⟨r,H,.inr (.inl ⟨hc,rfl,fun e=>by simp at e,h3⟩),h2⟩
   ·rename_i hc
    exfalso
    cases hop:o.op <;> simp [hop,aA,zaS] at h ha
   ·rename_i hc
    obtain ⟨r,H',h2,_,h3⟩:=zAd hc (evo_E (m:=false) hc h)
    exact ⟨r,H',.inr (.inr ⟨hc,h3 rfl,h2.2⟩),h2.1⟩
theorem trace {ops:Array Oper}:∀ (l:List Oper) (sk:List Nat) (t:List AV) (H:List Ob) (K:List AV→List Ob→Prop),aOps P true ops l sk t H K →
  ∃ (Tk:Nat→List AV) (Hk:Nat→List Ob),Tk 0=t∧Hk 0=H∧K (Tk l.length) (Hk l.length) ∧ ∀ (k:Nat) (o:Oper),l[k]? = some o→Stp P ops o (Tk k) (Hk k) (Tk (k + 1)) (Hk (k + 1))
 | [],sk,t,H,K,h=>⟨fun _=>t,fun _=>H,rfl,rfl,h,fun k o hk=>by simp at hk⟩
 | o::r,sk,t,H,K,h=>by
  have step:∃ sk' t1 H1,Stp P ops o t H t1 H1∧aOps P true ops r sk' t1 H1 K:=by
   simp only [aOps,zbm] at h
   cases hg:o.guard with
   | none =>
    simp only [hg] at h
    rcases zyO h with ⟨ha,h1⟩ | ⟨ha,v,H',h1,h2⟩
    ·exact ⟨_,t,H,.alloc ha,h1⟩
    ·exact ⟨_,_,H',.exec v H' ha (.inl hg) h1,h2⟩
   | some g =>
    obtain ⟨j,want⟩:=g
    simp only [hg] at h
    cases hd:gdst ops j with
    | none=>simp [hd] at h
    | some d =>
     simp only [hd] at h
     rcases zt3 h with ⟨hb,h'⟩ | ⟨b,hb,h'⟩
     ·exact ⟨_,_,H,.skip2 j d want hg hd hb,h'⟩
     ·cases hbw:b == want with
      | true =>
       rw [hbw,if_pos rfl] at h'
       have:b=want:=by simpa using hbw
       subst this
       rcases zyO h' with ⟨ha,h1⟩ | ⟨ha,v,H',h1,h2⟩
       ·exact ⟨_,t,H,.alloc ha,h1⟩
       ·exact ⟨_,_,H',.exec v H' ha (.inr ⟨j,d,b,hg,hd,hb⟩) h1,h2⟩
      | false =>
       rw [hbw,if_neg (by simp)] at h'
       exact ⟨_,_,H,.skip j d want b hg hd hb hbw,h'⟩
  obtain ⟨sk',t1,H1,hs,hr⟩:=step
  obtain ⟨Tk,Hk,e1,e2,e3,e4⟩:=trace r sk' t1 H1 K hr
  refine ⟨fun k=>match k with | 0=>t | k + 1=>Tk k,fun k=>match k with | 0=>H | k + 1=>Hk k,rfl,rfl,e3,fun k o' hk=>?_⟩
  cases k with
  | zero=>simp at hk; subst hk; simp only [e1,e2]; exact hs
  | succ k=>simp at hk; exact e4 k o' hk
end Go.Abs
end

section
/- The reordering. -/
namespace Go.Abs
variable {P:Program}
def ztC (ops:Array Oper) (S:Nat→Prop):Prop:=∀ j o,S j→ops[j]? = some o→∀ e∈o.after,Region.binds .any e=true→S e.on
theorem zxp {ops:Array Oper} {S:Nat→Prop} (hS:ztC ops S):∀ (l:List Oper) (acc:List (List Nat)),(∀ j,l[j]? = ops[acc.length + j]?) →
  (∀ j o,j < acc.length→ops[j]? = some o→(∀ e∈o.after,Region.binds .any e=true→S e.on)→∀ i∈acc.getD j [],S i) →
  ∀ j o,j < acc.length + l.length→ops[j]? = some o→(∀ e∈o.after,Region.binds .any e=true→S e.on)→∀ i∈(masks l acc).getD j [],S i
 | [],acc,_,h=>by simpa [masks] using h
 | o::r,acc,hl,h=>by
  intro j o' hj ho' hp i hi
  rw [masks] at hi
  have hk:ops[acc.length]? = some o:=by have:=hl 0; simpa using this.symm
  refine zxp hS r (acc++[preds acc o]) (fun j=>?_) (fun j o2 hj2 ho2 hp2 i hi2=>?_) j o' (by simp at hj ⊢; omega) ho' hp i hi
  ·have:=hl (j + 1)
   simp at this ⊢
   rw [this]; congr 1; omega
  ·rcases Nat.lt_or_ge j acc.length with h1 | h1
   ·rw [List.getD_eq_getElem?_getD,List.getElem?_append_left h1,← List.getD_eq_getElem?_getD] at hi2
    exact h j o2 h1 ho2 hp2 i hi2
   ·have e:j=acc.length:=by simp at hj2; omega
    subst e
    rw [hk] at ho2; simp at ho2; subst ho2
    rw [List.getD_eq_getElem?_getD,List.getElem?_append_right (Nat.le_refl _)] at hi2
    simp [preds,List.mem_eraseDups] at hi2
    obtain ⟨e,he,hi3⟩:=hi2
    obtain ⟨hb,hi3⟩:=hi3
    have hon:=hp2 e (by simpa using he) hb
    rcases hi3 with rfl | hi3
    ·exact hon
    ·rcases Nat.lt_or_ge e.on acc.length with h2 | h2
     ·have hlt:e.on < ops.size:=by
       have:=(Array.getElem?_eq_some_iff.1 hk).1
       omega
      exact h e.on ops[e.on] h2 (Array.getElem?_eq_getElem hlt) (fun e' he' hb'=>hS e.on _ hon (Array.getElem?_eq_getElem hlt) e' he' hb') i (by rw [List.getD_eq_getElem?_getD]; exact hi3)
     ·rw [List.getElem?_eq_none h2] at hi3; simp at hi3
theorem zFm {w w':World} {G:Gh} {H:List Ob} (hi:Inv w G H) {cs:Array Value} {ty:TypeId} (hh:w'.heap=w.heap.push (.cells cs ty (0,0))) (hs:Same w w') {id:Nat} {cells:List AV} (hn:G.loc id=none) (ho:H[id]? = some (.box cells)) (hr:RepCs G cells cs) :
  Inv w' ((G.withRd w.heap.size fun _=>none).withLoc id (.box w.heap.size)) H∧Step w G w' ((G.withRd w.heap.size fun _=>none).withLoc id (.box w.heap.size)):=by
 obtain ⟨i1,s1⟩:=zif hi hh hs (fun _=>none) (fun o c h=>by simp at h)
 have hsz:w'.heap.size=w.heap.size + 1:=by rw [hh]; simp
 generalize hG:(G.withRd w.heap.size fun _=>none).withLoc id (.box w.heap.size)=G'
 have erd:G'.rd=(G.withRd w.heap.size fun _=>none).rd:=by rw [← hG]; rfl
 have eloc:∀ j,G'.loc j=if j=id then some (.box w.heap.size) else G.loc j:=by intro j; rw [← hG]; rfl
 have hgl:∀ j l,G.loc j=some l→G'.loc j=some l:=by
  intro j l e
  rw [eloc]
  split
  ·rename_i h; subst h; rw [hn] at e; simp at e
  ·exact e
 have hg:Grow G G':=⟨fun b o c e=>by rw [erd]; exact s1.grow.rd b o c e,fun j l e=>⟨l,hgl j l e,.refl l⟩⟩
 have hg1:Grow (G.withRd w.heap.size fun _=>none) G':=⟨fun b o c e=>by rw [erd]; exact e,fun j l e=>⟨l,hgl j l e,.refl l⟩⟩
 have hcase:∀ j b,G'.blk j=some b→(j=id∧b=w.heap.size)∨(j≠id∧G.blk j=some b):=by
  intro j b e
  unfold Gh.blk at e
  rw [eloc] at e
  split at e
  ·rename_i h; simp [Loc.blk] at e; exact .inl ⟨h,e.symm⟩
  ·rename_i h; exact .inr ⟨h,e⟩
 refine ⟨⟨fun b o c e=>i1.rd b o c (by rw [← erd]; exact e),fun j l e=>?_,fun i j b e1 e2=>?_,by rw [erd]; exact i1.tab⟩,fun m=>⟨hs.os,hs.tape,hs.output,hs.drawn,by omega,(s1 m).keep,hg.rd,fun b o c e=>(s1 m).rdn b o c (by rw [← erd]; exact e),fun j _ l e=>hg.loc j l e,fun j b e=>?_⟩⟩
 ·rw [eloc] at e
  split at e
  ·rename_i h
   subst h
   simp at e; subst e
   exact ⟨.box cells,ho,cs,ty,by rw [hh]; simp,hr.1,fun k c hk=>⟨(hr.2 k c hk).1.mono hg,(hr.2 k c hk).2⟩,fun o=>by rw [erd]; simp [Gh.withRd]⟩
  ·obtain ⟨ob,ho',hl'⟩:=i1.obj j l e
   exact ⟨ob,ho',hl'.keep hg1 (Nat.le_refl _) (fun b _=>⟨rfl,fun o h=>by rw [erd]; exact h⟩)⟩
 ·rcases hcase i b e1 with ⟨h1,h2⟩ | ⟨h1,h2⟩ <;> rcases hcase j b e2 with ⟨h3,h4⟩ | ⟨h3,h4⟩
  ·omega
  ·have:=hi.blk_lt h4; omega
  ·have:=hi.blk_lt h2; omega
  ·exact hi.dis i j b h2 h4
 ·rcases hcase j b e with ⟨_,h2⟩ | ⟨_,h2⟩
  ·exact .inl (by omega)
  ·exact .inr ⟨j,h2⟩
theorem zqv (t:List AV) (d:Option Nat) (v:AV) (u:Nat):(setD t d v).getD u .top=if d=some u∧u < t.length then v else t.getD u .top:=by
 cases d with
 | none=>simp [setD]
 | some i =>
  simp only [setD,List.getD_eq_getElem?_getD,List.getElem?_set]
  by_cases h:i=u
  ·subst h
   by_cases h2:i < t.length
   ·simp [h2]
   ·simp [h2]
  ·simp [h]
theorem zpG (t:List AV) (d:Option Nat) (v:AV):(setD t d v).length=t.length:=by cases d <;> simp [setD]
structure Course (P:Program) (ops:Array Oper) (Tk:Nat→List AV) (Hk:Nat→List Ob):Prop where
 ok:zdA ops=true
 stp:∀ (k:Nat) (o:Oper),ops[k]? = some o→Stp P ops o (Tk k) (Hk k) (Tk (k + 1)) (Hk (k + 1))
 news:∀ (k:Nat) (o:Oper),ops[k]? = some o→zaS o.op=true→∃ d id z,o.dst=some d∧d < (Tk 0).length∧(Tk 0).getD d .top=.bptr id 0∧(Hk 0)[id]? = some (.box z) ∧
  ∀ (a:Act) (w:World) (G:Gh),(∃ H,Inv w G H)→∃ w',(execOp a.eval o).run P w=.ok (.value (.pointer (some ⟨w.heap.size,0,none⟩))) w'∧Same w w' ∧ ∃ cs ty,w'.heap=w.heap.push (.cells cs ty (0,0))∧RepCs G z cs
 inj:∀ (k k':Nat) (o o':Oper) (d d' id:Nat),ops[k]? = some o→ops[k']? = some o'→zaS o.op=true→zaS o'.op=true→o.dst=some d→o'.dst=some d'→(Tk 0).getD d .top=.bptr id 0→(Tk 0).getD d' .top=.bptr id 0→k=k'
section
variable {ops:Array Oper} {Tk:Nat→List AV} {Hk:Nat→List Ob}
theorem ok_op (h:zdA ops=true) {j:Nat} {o:Oper} (ho:ops[j]? = some o):opOk ops (masks ops.toList []) j o=true:=by
 unfold zdA at h
 rw [List.all_eq_true] at h
 have hlt:=(Array.getElem?_eq_some_iff.1 ho).1
 have:=h j (by simpa using hlt)
 simpa [ho] using this
theorem zz4 (h:zdA ops=true) {i j:Nat} {o o':Oper} (ho:ops[j]? = some o) (ho':ops[i]? = some o'):zxA ops (masks ops.toList []) j o i o'=true:=by
 have:=ok_op h ho
 unfold opOk at this
 simp only [Bool.and_eq_true] at this
 have h2:=this.2
 rw [List.all_eq_true] at h2
 have hlt:=(Array.getElem?_eq_some_iff.1 ho').1
 have:=h2 i (by simpa using hlt)
 simpa [ho'] using this
theorem zkK (h:zdA ops=true) {i j:Nat} {o o':Oper} (ho:ops[j]? = some o) (ho':ops[i]? = some o') {d:Nat} (hd:o.dst=some d) (hd':o'.dst=some d):i=j:=by
 have:=zz4 h ho ho'
 unfold zxA at this
 simp only [Bool.and_eq_true] at this
 have h1:=this.1.1
 simp [hd,hd'] at h1
 exact h1
theorem reader (h:zdA ops=true) {i j:Nat} {o o':Oper} (ho:ops[j]? = some o) (ho':ops[i]? = some o') {d:Nat} (hd':o'.dst=some d) (hl:d∈looks ops o):(i < j∧i∈(masks ops.toList []).getD j [])∨(j < i∧zaS o'.op=false∧j∈(masks ops.toList []).getD i []):=by
 have:=zz4 h ho ho'
 unfold zxA at this
 simp only [Bool.and_eq_true] at this
 have h1:=this.1.2
 simp only [hd',Bool.or_eq_true,Bool.not_eq_true',List.contains_eq_mem,decide_eq_false_iff_not,Bool.and_eq_true,decide_eq_true_eq] at h1
 rcases h1 with (h1 | h1) | h1
 ·exact absurd hl h1
 ·exact .inl h1
 ·exact .inr ⟨h1.1.1,h1.1.2,h1.2⟩
theorem zz9 (h:zdA ops=true) {i j:Nat} {o o':Oper} (ho:ops[j]? = some o) (ho':ops[i]? = some o') (hij:i < j) (hc:clash o'.op o.op=true):i∈(masks ops.toList []).getD j []:=by
 have:=zz4 h ho ho'
 unfold zxA at this
 simp only [Bool.and_eq_true] at this
 have h1:=this.2
 simpa [hij,hc] using h1
theorem zkk {S:Nat→Prop} (hS:ztC ops S) {j:Nat} {o:Oper} (ho:ops[j]? = some o) (hp:∀ e∈o.after,Region.binds .any e=true→S e.on) {i:Nat} (hi:i∈(masks ops.toList []).getD j []):S i :=
 zxp hS ops.toList [] (fun j=>by simp) (fun j o hj=>by simp at hj) j o (by simpa using (Array.getElem?_eq_some_iff.1 ho).1) ho hp i hi
theorem Course.length (c:Course P ops Tk Hk):∀ k,k≤ops.size→(Tk k).length=(Tk 0).length
 | 0,_=>rfl
 | k + 1,h=>by
  have hk:ops[k]? = some ops[k]:=Array.getElem?_eq_getElem (by omega)
  have ih:=c.length k (by omega)
  have:=c.stp k _ hk
  generalize Tk (k + 1)=t' at this ⊢
  generalize Hk (k + 1)=H' at this
  cases this with
  | alloc=>exact ih
  | skip=>rw [zpG]; exact ih
  | skip2=>rw [zpG]; exact ih
  | exec=>rw [zpG]; exact ih
theorem Course.still (c:Course P ops Tk Hk) (u:Nat):∀ (n a:Nat),a + n≤ops.size→(∀ k o,a≤k→k < a + n→ops[k]? = some o→o.dst≠some u)→(Tk (a + n)).getD u .top=(Tk a).getD u .top
 | 0,a,_,_=>rfl
 | n + 1,a,h,hn=>by
  have ih:=c.still u n a (by omega) (fun k o h1 h2=>hn k o h1 (by omega))
  have hk:ops[a + n]? = some ops[a + n]:=Array.getElem?_eq_getElem (by omega)
  have hd:=hn (a + n) _ (by omega) (by omega) hk
  have:=c.stp (a + n) _ hk
  rw [show a + (n + 1)=a + n + 1 by omega]
  generalize Tk (a + n + 1)=t' at this ⊢
  generalize Hk (a + n + 1)=H' at this
  cases this with
  | alloc=>exact ih
  | skip=>rw [zqv,if_neg (fun h=>hd h.1)]; exact ih
  | skip2=>rw [zqv,if_neg (fun h=>hd h.1)]; exact ih
  | exec=>rw [zqv,if_neg (fun h=>hd h.1)]; exact ih
theorem Course.fin_of_free (c:Course P ops Tk Hk) {u j:Nat} (hj:j≤ops.size) (hn:∀ k o,j≤k→ops[k]? = some o→o.dst≠some u):(Tk j).getD u .top=(Tk ops.size).getD u .top:=by
 have:=c.still u (ops.size - j) j (by omega) (fun k o h1 _ h3=>hn k o h1 h3)
 rw [show j + (ops.size - j)=ops.size by omega] at this
 exact this.symm
theorem Course.free_upto (c:Course P ops Tk Hk) {u:Nat} (j:Nat) (hj:j≤ops.size) (hn:∀ k o,k < j→ops[k]? = some o→o.dst≠some u):(Tk 0).getD u .top=(Tk j).getD u .top:=by
 have:=c.still u j 0 (by omega) (fun k o _ h2 h3=>hn k o (by omega) h3)
 rw [Nat.zero_add] at this
 exact this.symm
theorem Course.fin_of_dst (c:Course P ops Tk Hk) {u j:Nat} {o:Oper} (ho:ops[j]? = some o) (hd:o.dst=some u):(Tk (j + 1)).getD u .top=(Tk ops.size).getD u .top:=by
 have hlt:=(Array.getElem?_eq_some_iff.1 ho).1
 refine c.fin_of_free (by omega) (fun k o' hk ho' hd'=>?_)
 have:=zkK c.ok ho ho' hd hd'
 omega
theorem Course.quiet (c:Course P ops Tk Hk):∀ (n a:Nat),a + n≤ops.size→(∀ k o,a≤k→k < a + n→ops[k]? = some o→isE o.op=false)→Hk (a + n)=Hk a
 | 0,a,_,_=>rfl
 | n + 1,a,h,hn=>by
  have ih:=c.quiet n a (by omega) (fun k o h1 h2=>hn k o h1 (by omega))
  have hk:ops[a + n]? = some ops[a + n]:=Array.getElem?_eq_getElem (by omega)
  have hd:=hn (a + n) _ (by omega) (by omega) hk
  have:=c.stp (a + n) _ hk
  rw [show a + (n + 1)=a + n + 1 by omega]
  generalize Tk (a + n + 1)=t' at this
  generalize Hk (a + n + 1)=H' at this ⊢
  cases this with
  | alloc=>exact ih
  | skip=>exact ih
  | skip2=>exact ih
  | exec v H' _ _ hx =>
   rcases hx with ⟨_,h1,_⟩ | ⟨_,h1,_⟩ | ⟨h1,_⟩
   ·rw [h1]; exact ih
   ·rw [h1]; exact ih
   ·simp [isE,h1] at hd
theorem Course.kinds (c:Course P ops Tk Hk):∀ (n a:Nat),a + n≤ops.size→(∀ k o,a≤k→k < a + n→ops[k]? = some o→isM o.op=false) →
  (Hk a).length≤(Hk (a + n)).length ∧ ∀ id,id < (Hk a).length→(Hk (a + n))[id]? = (Hk a)[id]? ∨ ((∃ ob,(Hk a)[id]? = some ob∧ob.soft (zpD ops)=true) ∧ ∃ ob,(Hk (a + n))[id]? = some ob∧ob.soft (zpD ops)=true)
 | 0,a,_,_=>⟨Nat.le_refl _,fun id _=>.inl rfl⟩
 | n + 1,a,h,hn=>by
  obtain ⟨l1,ih⟩:=c.kinds n a (by omega) (fun k o h1 h2=>hn k o h1 (by omega))
  have hk:ops[a + n]? = some ops[a + n]:=Array.getElem?_eq_getElem (by omega)
  have hd:=hn (a + n) _ (by omega) (by omega) hk
  have:=c.stp (a + n) _ hk
  rw [show a + (n + 1)=a + n + 1 by omega]
  generalize Tk (a + n + 1)=t' at this
  generalize Hk (a + n + 1)=H' at this ⊢
  cases this with
  | alloc=>exact ⟨l1,ih⟩
  | skip=>exact ⟨l1,ih⟩
  | skip2=>exact ⟨l1,ih⟩
  | exec v H' _ _ hx =>
   rcases hx with ⟨_,h1,_⟩ | ⟨_,h1,_⟩ | ⟨_,_,hev⟩
   ·rw [h1]; exact ⟨l1,ih⟩
   ·rw [h1]; exact ⟨l1,ih⟩
   ·refine ⟨Nat.le_trans l1 hev.len,fun id hid=>?_⟩
    rcases hev.kind hd id (by omega) with h2 | ⟨⟨n2,h2,s2⟩,n3,h3,s3⟩
    ·rcases ih id hid with h4 | ⟨h4,n5,h5,s5⟩
     ·exact .inl (h2.trans h4)
     ·exact .inr ⟨h4,n5,h2.trans h5,s5⟩
    ·rcases ih id hid with h4 | ⟨h4,_⟩
     ·exact .inr ⟨⟨n2,by rw [← h4]; exact h2,s2⟩,n3,h3,s3⟩
     ·exact .inr ⟨h4,n3,h3,s3⟩
end
end Go.Abs
end

section
/- The reordering: every order that the edges allow ends as the text's order does. -/
namespace Go.Abs
variable {P:Program}
theorem ztZ {α:Type} (p q:α→Bool):∀ (l:List α),(∀ x∈l,q x=true→p x=true)→(∃ x∈l,p x=true∧q x=false)→(l.filter q).length < (l.filter p).length
 | [],_,h=>by simp at h
 | x::l,hs,h=>by
  have hle:(l.filter q).length≤(l.filter p).length:=by
   clear h
   induction l with
   | nil=>simp
   | cons y l ih =>
    have ih:=ih (fun z hz=>hs z (by simp at hz ⊢; rcases hz with h | h <;> simp [h]))
    have hy:=hs y (by simp)
    by_cases hq:q y=true
    ·simp [hq,hy hq]; omega
    ·by_cases hp:p y=true
     ·simp [hq,hp]; omega
     ·simp [hq,hp]; omega
  by_cases hq:q x=true
  ·have hp:=hs x (by simp) hq
   have:∃ y∈l,p y=true∧q y=false:=by
    obtain ⟨y,hy,h1,h2⟩:=h
    simp at hy
    rcases hy with rfl | hy
    ·rw [hq] at h2; simp at h2
    ·exact ⟨y,hy,h1,h2⟩
   have:=ztZ p q l (fun z hz=>hs z (by simp [hz])) this
   simp [hq,hp]; omega
  ·by_cases hp:p x=true
   ·simp [hq,hp]; omega
   ·have:∃ y∈l,p y=true∧q y=false:=by
     obtain ⟨y,hy,h1,h2⟩:=h
     simp at hy
     rcases hy with rfl | hy
     ·exact absurd h1 hp
     ·exact ⟨y,hy,h1,h2⟩
    have:=ztZ p q l (fun z hz=>hs z (by simp [hz])) this
    simp [hq,hp]; omega
def left (n:Nat) (listed:Array Bool):Nat:=((List.range n).filter fun i=>!listed.getD i false).length
theorem zBw {n i:Nat} {listed:Array Bool} (hi:i < n) (hn:listed.size=n) (h:listed.getD i false=false):left n (listed.setIfInBounds i true) < left n listed:=by
 refine ztZ _ _ _ (fun x _ hq=>?_) ⟨i,by simpa using hi,by simp [h], ?_⟩
 ·simp only [Bool.not_eq_true'] at hq ⊢
  cases hx:listed.getD x false with
  | false=>rfl
  | true=>rw [getD_set_true hx] at hq; simp at hq
 ·simp [hn,hi]
theorem zy5 {n:Nat} {listed:Array Bool} (h:left n listed=0):∀ i,i < n→listed.getD i false=true:=by
 intro i hi
 unfold left at h
 have:=List.eq_nil_of_length_eq_zero h
 rw [List.filter_eq_nil_iff] at this
 have:=this i (by simpa using hi)
 simpa using this
section
variable {ops:Array Oper} {Tk:Nat→List AV} {Hk:Nat→List Ob}
theorem zvP (h:zdA ops=true) {listed:Array Bool} (hn:listed.size=ops.size) (hr:Region.ready .any ops listed=[]):∀ j,j < ops.size→listed.getD j false=true:=by
 intro j
 induction j using Nat.strongRecOn with
 | _ j ih =>
  intro hj
  cases hc:listed.getD j false with
  | true=>rfl
  | false =>
   exfalso
   have ho:ops[j]? = some ops[j]:=Array.getElem?_eq_getElem hj
   have:j∈Region.ready .any ops listed:=by
    rw [mem_ready]
    refine ⟨?_,_,ho,fun e he hb=>?_⟩
    ·have hl:j < listed.size:=by omega
     simp [hl] at hc ⊢
     exact hc
    ·have:=ok_op h ho
     unfold opOk at this
     simp only [Bool.and_eq_true] at this
     have h1:=this.1.1
     rw [List.all_eq_true] at h1
     have:=h1 e (by simpa using he)
     simp [hb] at this
     exact ih e.on this (by omega)
   rw [hr] at this
   simp at this
theorem zCL (c:Course P ops Tk Hk) {Q:Exit→Act→World→Prop} {a0:Act} {w0:World} {G0:Gh}
  (post:∀ (a':Act) (w':World) (G':Gh),Inv w' G' (Hk ops.size)→RepTm G' (Tk ops.size) a'.tmps→a'.defers=a0.defers→Kept ops a0 a'→Step w0 G0 w' G'→Q .normal a' w') :
  ∀ (fuel:Nat) (listed:Array Bool) (a:Act) (w:World) (G:Gh) (q:Nat),listed.size=ops.size→ztC ops (fun j=>listed.getD j false=true)→left ops.size listed≤fuel→Inv w G (Hk q)→q≤ops.size →
   (∀ k o,k < q→ops[k]? = some o→isE o.op=true→listed.getD k false=true)→(∀ k o,q≤k→ops[k]? = some o→isE o.op=true→listed.getD k false=false) →
   (∀ u,(∀ i o,ops[i]? = some o→o.dst=some u→listed.getD i false=true)→RepA G ((Tk ops.size).getD u .top) (a.tmps.getD u undef)) →
   (∀ u i o,ops[i]? = some o→o.dst=some u→zaS o.op=false→listed.getD i false=false→RepA G ((Tk 0).getD u .top) (a.tmps.getD u undef)) →
   a.tmps.size=(Tk 0).length→(a.defers=a0.defers∧Kept ops a0 a)→Step w0 G0 w G →
   (∀ k o d id,ops[k]? = some o→zaS o.op=true→o.dst=some d→listed.getD k false=false→(Tk 0).getD d .top=.bptr id 0→G.loc id=none∧(Hk q)[id]? = (Hk 0)[id]?) →
   wpAny P .any ops Q fuel listed a w:=by
 have fin:∀ (listed:Array Bool) (a:Act) (w:World) (G:Gh) (q:Nat),listed.size=ops.size→Inv w G (Hk q)→q≤ops.size→(∀ k o,q≤k→ops[k]? = some o→isE o.op=true→listed.getD k false=false) →
   (∀ u,(∀ i o,ops[i]? = some o→o.dst=some u→listed.getD i false=true)→RepA G ((Tk ops.size).getD u .top) (a.tmps.getD u undef))→a.tmps.size=(Tk 0).length→(a.defers=a0.defers∧Kept ops a0 a)→Step w0 G0 w G →
   Region.ready .any ops listed=[]→Q .normal a w:=by
  intro listed a w G q hn hi hq he hu hsz hd hs hr
  have hall:=zvP c.ok hn hr
  have hH:Hk q=Hk ops.size:=by
   have:=c.quiet (ops.size - q) q (by omega) (fun k o h1 h2 ho=>by
    cases hE:isE o.op with
    | false=>rfl
    | true =>
     have:=he k o h1 ho hE
     rw [hall k (Array.getElem?_eq_some_iff.1 ho).1] at this
     simp at this)
   rw [show q + (ops.size - q)=ops.size by omega] at this
   exact this.symm
  refine post a w G (hH ▸ hi) ⟨by rw [hsz,c.length _ (Nat.le_refl _)],fun u=>hu u (fun i o ho _=>hall i (Array.getElem?_eq_some_iff.1 ho).1)⟩ hd.1 hd.2 hs
 intro fuel
 induction fuel with
 | zero =>
  intro listed a w G q hn hcl hlf hi hq hE1 hE2 hu hu0 hsz hd hs hnew
  have hr:Region.ready .any ops listed=[]:=by
   cases hr:Region.ready .any ops listed with
   | nil=>rfl
   | cons j r =>
    have:j∈Region.ready .any ops listed:=by rw [hr]; simp
    rw [mem_ready] at this
    obtain ⟨h1,o,ho,_⟩:=this
    have hlt:=(Array.getElem?_eq_some_iff.1 ho).1
    have:=zy5 (Nat.le_zero.1 hlf) j hlt
    have hl:j < listed.size:=by omega
    simp [hl] at h1 this
    rw [h1] at this; simp at this
  exact ⟨hr,fin listed a w G q hn hi hq hE2 hu hsz hd hs hr⟩
 | succ fuel ih =>
  intro listed a w G q hn hcl hlf hi hq hE1 hE2 hu hu0 hsz hd hs hnew
  refine ⟨fun hr=>fin listed a w G q hn hi hq hE2 hu hsz hd hs hr,fun j hj=>?_⟩
  rw [mem_ready] at hj
  obtain ⟨hj0,o,ho,hpre⟩:=hj
  have hjlt:=(Array.getElem?_eq_some_iff.1 ho).1
  have hjun:listed.getD j false=false:=by
   have hl:j < listed.size:=by omega
   simp [hl] at hj0 ⊢
   exact hj0
  have hpre':∀ {i},i∈(masks ops.toList []).getD j []→listed.getD i false=true:=fun hi=>zkk hcl ho hpre hi
  have hF:(Tk ops.size).length=(Tk 0).length:=c.length _ (Nat.le_refl _)
  have hTj:(Tk j).length=(Tk 0).length:=c.length _ (by omega)
  -- the slots that the operation looks at stand as they stood in the text's order
  have slot:∀ u,u∈looks ops o→True∧RepA G ((Tk j).getD u .top) (a.tmps.getD u undef):=by
   intro u hul
   refine ⟨trivial, ?_⟩
   by_cases hlate:∃ i o',ops[i]? = some o'∧o'.dst=some u∧j < i∧zaS o'.op=false∧j∈(masks ops.toList []).getD i []
   ·obtain ⟨i,o',ho',hd',hji,hna,hmem⟩:=hlate
    have hil:listed.getD i false=false:=by
     cases hl:listed.getD i false with
     | false=>rfl
     | true =>
      have:=zkk hcl ho' (fun e he hb'=>hcl i o' hl ho' e he hb') hmem
      rw [hjun] at this; simp at this
    have e:(Tk 0).getD u .top=(Tk j).getD u .top:=c.free_upto j (by omega) (fun k o2 hk ho2 hd2=>by
     have:=zkK c.ok ho2 ho' hd2 hd'
     omega)
    rw [← e]
    exact hu0 u i o' ho' hd' hna hil
   ·have early:∀ i o',ops[i]? = some o'→o'.dst=some u→i < j∧i∈(masks ops.toList []).getD j []:=fun i o' ho' hd'=>by
     rcases reader c.ok ho ho' hd' hul with h | h
     ·exact h
     ·exact absurd ⟨i,o',ho',hd',h.1,h.2.1,h.2.2⟩ hlate
    have e:(Tk j).getD u .top=(Tk ops.size).getD u .top:=c.fin_of_free (by omega) (fun k o' hk ho' hd'=>by
     have:=(early k o' ho' hd').1
     omega)
    rw [e]
    exact hu u (fun i o' ho' hd'=>hpre' (early i o' ho' hd').2)
  have operand:∀ x∈o.op.operands,RepA G (rho (Tk j) x) (a.eval x):=by
   intro x hx
   cases x with
   | tmp u =>
    refine (slot u ?_).2
    simp only [looks,List.mem_append,List.mem_filterMap]
    exact .inl ⟨.tmp u,by simpa using hx,rfl⟩
   | const v=>exact zfv G v
   | func f=>exact .p _ _ (.func f [] #[] rfl (by simp))
   | global g=>exact .top _
  have guardSlot:∀ g want d,o.guard=some (g,want)→gdst ops g=some d→∀ b,(Tk j).getD d .top=.p (.bool b)→yielded ops a.tmps g=some b:=by
   intro g want d hg hgd b hb
   have hl:d∈looks ops o:=by simp [looks,hg,hgd]
   have r:=(slot d hl).2
   rw [hb] at r
   have ev:=zat.1 r
   have hlt:d < a.tmps.size:=by
    rcases Nat.lt_or_ge d (Tk j).length with h1 | h1
    ·omega
    ·rw [List.getD_eq_getElem?_getD,List.getElem?_eq_none h1] at hb; simp at hb
   unfold yielded
   unfold gdst at hgd
   rw [hgd]
   simp only [Option.bind_some]
   rw [Array.getD_eq_getD_getElem?,Array.getElem?_eq_getElem hlt] at ev
   rw [Array.getElem?_eq_getElem hlt]
   simp at ev
   rw [ev]
  -- how the rest goes on
  have go:∀ (v:Value) (r:AV) (w':World) (G':Gh) (q':Nat),Tk (j + 1)=setD (Tk j) o.dst r∨(∃ d,o.dst=some d∧(Tk ops.size).getD d .top=r)→RepA G' r v→Inv w' G' (Hk q')→q'≤ops.size→Step w G w' G' →
    (∀ k o',k < q'→ops[k]? = some o'→isE o'.op=true→(listed.setIfInBounds j true).getD k false=true)→(∀ k o',q'≤k→ops[k]? = some o'→isE o'.op=true→(listed.setIfInBounds j true).getD k false=false) →
    (∀ k o' d id,k≠j→ops[k]? = some o'→zaS o'.op=true→o'.dst=some d→listed.getD k false=false→(Tk 0).getD d .top=.bptr id 0→G'.loc id=none∧(Hk q')[id]? = (Hk 0)[id]?) →
    wpAny P .any ops Q fuel (listed.setIfInBounds j true) (a.put o.dst v) w':=by
   intro v r w' G' q' hT hr hi' hq' hst h1 h2 h3
   have hval:∀ u,o.dst=some u→u < (Tk 0).length→(Tk ops.size).getD u .top=r:=by
    intro u hdu hul
    rcases hT with hT | ⟨d,hd1,hd2⟩
    ·rw [← c.fin_of_dst ho hdu,hT,zqv,if_pos ⟨hdu,by rw [hTj]; exact hul⟩]
    ·rw [hdu] at hd1; simp at hd1; subst hd1; exact hd2
   refine ih (listed.setIfInBounds j true) _ w' G' q' (by simp [hn]) (fun k o' hk ho' e he hb=>?_) ?_ hi' hq' h1 h2 (fun u huu=>?_) (fun u i o' ho' hd' hna hil=>?_) ?_ ⟨by rw [zgI]; exact hd.1,hd.2.trans (Kept.put a ho v)⟩ (hs.trans hst) (fun k o' d id ho' ha hd' hk hid=>?_)
   ·by_cases hkj:j=k
    ·subst hkj
     rw [ho] at ho'; simp at ho'; subst ho'
     exact getD_set_true (hpre e he hb)
    ·simp only [] at hk
     rw [getD_set_ne false hkj] at hk
     exact getD_set_true (hcl k o' hk ho' e he hb)
   ·have:=zBw (n:=ops.size) hjlt hn hjun
    omega
   ·by_cases hdu:o.dst=some u
    ·rcases Nat.lt_or_ge u (Tk 0).length with hul | hul
     ·rw [hval u hdu hul]
      have:(a.put o.dst v).tmps.getD u undef=v:=by
       rw [hdu]
       simp [Act.put,hsz,hul]
      rw [this]; exact hr
     ·rw [List.getD_eq_getElem?_getD,List.getElem?_eq_none (by rw [hF]; exact hul)]
      exact .top _
    ·have e:(a.put o.dst v).tmps.getD u undef=a.tmps.getD u undef:=by
      cases hod:o.dst with
      | none=>rfl
      | some d =>
       have:d≠u:=fun h=>hdu (by rw [hod,h])
       simp [Act.put,Array.getD_eq_getD_getElem?,Array.getElem?_setIfInBounds_ne this]
     rw [e]
     refine (hu u (fun i o' ho' hd'=>?_)).mono hst.grow
     have:=huu i o' ho' hd'
     have hne:j≠i:=fun h=>by subst h; rw [ho] at ho'; simp at ho'; subst ho'; exact hdu hd'
     rwa [getD_set_ne false hne] at this
   ·have hne:i≠j:=by
     intro h; subst h
     simp [hn,hjlt] at hil
    rw [getD_set_ne false (Ne.symm hne)] at hil
    have hdu:o.dst≠some u:=fun h=>hne (zkK c.ok ho ho' h hd')
    have e:(a.put o.dst v).tmps.getD u undef=a.tmps.getD u undef:=by
     cases hod:o.dst with
     | none=>rfl
     | some d =>
      have:d≠u:=fun h=>hdu (by rw [hod,h])
      simp [Act.put,Array.getD_eq_getD_getElem?,Array.getElem?_setIfInBounds_ne this]
    rw [e]
    exact (hu0 u i o' ho' hd' hna hil).mono hst.grow
   ·cases hod:o.dst with
    | none=>exact hsz
    | some d=>simp [Act.put,hsz]
   ·have hne:k≠j:=by
     intro h; subst h
     simp [hn,hjlt] at hk
    rw [getD_set_ne false (Ne.symm hne)] at hk
    exact h3 k o' d id hne ho' ha hd' hk hid
  have lst:∀ k,k≠j→(listed.setIfInBounds j true).getD k false=listed.getD k false:=fun k hk=>getD_set_ne false (Ne.symm hk)
  have sameE:isE o.op=false→(∀ k o',k < q→ops[k]? = some o'→isE o'.op=true→(listed.setIfInBounds j true).getD k false=true)∧(∀ k o',q≤k→ops[k]? = some o'→isE o'.op=true→(listed.setIfInBounds j true).getD k false=false):=by
   intro hnE
   refine ⟨fun k o' hk ho' hE=>getD_set_true (hE1 k o' hk ho' hE),fun k o' hk ho' hE=>?_⟩
   have hne:k≠j:=by intro h; subst h; rw [ho] at ho'; simp at ho'; subst ho'; rw [hnE] at hE; simp at hE
   rw [lst k hne]
   exact hE2 k o' hk ho' hE
  have effE:isE o.op=true→q≤j∧Hk q=Hk j∧(∀ k o',k < j + 1→ops[k]? = some o'→isE o'.op=true→(listed.setIfInBounds j true).getD k false=true)∧(∀ k o',j + 1≤k→ops[k]? = some o'→isE o'.op=true→(listed.setIfInBounds j true).getD k false=false):=by
   intro hE
   have hqj:q≤j:=by
    rcases Nat.lt_or_ge j q with h | h
    ·have:=hE1 j o h ho hE
     rw [hjun] at this; simp at this
    ·exact h
   have hno:∀ k o',q≤k→k < j→ops[k]? = some o'→isE o'.op=false:=by
    intro k o' h1 h2 ho'
    cases hE':isE o'.op with
    | false=>rfl
    | true =>
     exfalso
     have hun:=hE2 k o' h1 ho' hE'
     have hmem:=zz9 c.ok ho ho' h2 (by simp [clash,hE,hE'])
     rw [hpre' hmem] at hun; simp at hun
   refine ⟨hqj, ?_,fun k o' hk ho' hE'=>?_,fun k o' hk ho' hE'=>?_⟩
   ·have:=c.quiet (j - q) q (by omega) (fun k o' h1 h2 ho'=>hno k o' h1 (by omega) ho')
    rw [show q + (j - q)=j by omega] at this
    exact this.symm
   ·by_cases hkj:k=j
    ·subst hkj; simp [hn,hjlt]
    ·rcases Nat.lt_or_ge k q with h | h
     ·exact getD_set_true (hE1 k o' h ho' hE')
     ·rw [hno k o' h (by omega) ho'] at hE'; simp at hE'
   ·rw [lst k (by omega)]
    exact hE2 k o' (by omega) ho' hE'
  unfold wpOp
  simp only [ho]
  have hstp:=c.stp j o ho
  generalize hT1:Tk (j + 1)=T1 at hstp
  generalize hH1:Hk (j + 1)=H1 at hstp
  cases hstp with
  | alloc hc =>
   have hok:=ok_op c.ok ho
   unfold opOk at hok
   simp only [Bool.and_eq_true] at hok
   have hga:=hok.1.2
   simp [hc] at hga
   have hw:Region.wanted o (yielded ops a.tmps)=true:=by simp [Region.wanted,hga.1]
   simp only [hw,if_true]
   left
   have hnE:isE o.op=false:=by cases hop:o.op <;> simp [hop,zaS,isE,cls] at hc ⊢
   obtain ⟨hs1,hs2⟩:=sameE hnE
   obtain ⟨d,id,z,hdd,hdl,hid,hz,hrun⟩:=c.news j o ho hc
   obtain ⟨hloc,hHq⟩:=hnew j o d id ho hc hdd hjun hid
   obtain ⟨w',e1,e2,cs,ty,e3,e4⟩:=hrun a w G ⟨_,hi⟩
   obtain ⟨i1,s1⟩:=zFm hi e3 e2 hloc (hHq.trans hz) e4
   unfold Oper.wp
   rw [e1,Oper.upon_value]
   refine go _ (.bptr id 0) w' _ q (.inr ⟨d,hdd, ?_⟩) (.bptr id 0 w.heap.size (by simp [Gh.withLoc])) i1 hq s1 hs1 hs2 (fun k o' d' id' hkj ho' ha hd' hk hid'=>?_)
   ·rw [← c.fin_of_dst ho hdd,hT1]
    have:(Tk j).getD d .top=(Tk 0).getD d .top:=by
     have:=c.still d j 0 (by omega) (fun k o' _ hk ho' hd'=>by
      have:=zkK c.ok ho ho' hdd hd'
      omega)
     simpa using this
    rw [this,hid]
   ·obtain ⟨g1,g2⟩:=hnew k o' d' id' ho' ha hd' hk hid'
    refine ⟨?_,g2⟩
    simp only [Gh.withLoc]
    rw [if_neg]
    ·exact g1
    ·intro h
     subst h
     exact hkj (c.inj k j o' o d' d id' ho' ho ha hc hd' hdd hid' hid)
  | skip g d want b hg hgd hb hne =>
   have hy:=guardSlot g want d hg hgd b hb
   have hw:Region.wanted o (yielded ops a.tmps)=false:=by simp [Region.wanted,hg,hy]; simpa using hne
   simp only [hw,Bool.false_eq_true,if_false]
   cases hE:isE o.op with
   | false =>
    obtain ⟨hs1,hs2⟩:=sameE hE
    exact go undef skp w G q (.inl hT1) (zgi.2 rfl) hi hq (.refl w G) hs1 hs2 (fun k o' d' id' _ ho' ha hd' hk hid'=>hnew k o' d' id' ho' ha hd' hk hid')
   | true =>
    obtain ⟨hqj,hHj,hs1,hs2⟩:=effE hE
    refine go undef skp w G (j + 1) (.inl hT1) (zgi.2 rfl) (by rw [hH1,← hHj]; exact hi) (by omega) (.refl w G) hs1 hs2 (fun k o' d' id' _ ho' ha hd' hk hid'=>?_)
    rw [hH1,← hHj]
    exact hnew k o' d' id' ho' ha hd' hk hid'
  | skip2 g d want hg hgd hb =>
   have hy:yielded ops a.tmps g=none:=by
    have hl:d∈looks ops o:=by simp [looks,hg,hgd]
    have r:=(slot d hl).2
    rw [hb] at r
    exact zqj hgd (zgi.1 r)
   have hw:Region.wanted o (yielded ops a.tmps)=false:=by simp [Region.wanted,hg,hy]
   simp only [hw,Bool.false_eq_true,if_false]
   cases hE:isE o.op with
   | false =>
    obtain ⟨hs1,hs2⟩:=sameE hE
    exact go undef skp w G q (.inl hT1) (zgi.2 rfl) hi hq (.refl w G) hs1 hs2 (fun k o' d' id' _ ho' ha hd' hk hid'=>hnew k o' d' id' ho' ha hd' hk hid')
   | true =>
    obtain ⟨hqj,hHj,hs1,hs2⟩:=effE hE
    refine go undef skp w G (j + 1) (.inl hT1) (zgi.2 rfl) (by rw [hH1,← hHj]; exact hi) (by omega) (.refl w G) hs1 hs2 (fun k o' d' id' _ ho' ha hd' hk hid'=>?_)
    rw [hH1,← hHj]
    exact hnew k o' d' id' ho' ha hd' hk hid'
  | exec v H' hc hg hx =>
   have hw:Region.wanted o (yielded ops a.tmps)=true:=by
    rcases hg with hg | ⟨g,d,want,hg,hgd,hb⟩
    ·simp [Region.wanted,hg]
    ·simp [Region.wanted,hg,guardSlot g want d hg hgd want hb]
   simp only [hw,if_true]
   left
   have hidlt:∀ (k:Nat) (o':Oper) (d' id':Nat),ops[k]? = some o'→zaS o'.op=true→o'.dst=some d'→(Tk 0).getD d' .top=.bptr id' 0→(Hk q)[id']? = (Hk 0)[id']?→id' < (Hk q).length:=by
    intro k o' d' id' ho' ha hd' hid' he
    obtain ⟨d2,id2,z,h1,_,h2,h3,_⟩:=c.news k o' ho' ha
    rw [hd'] at h1; simp at h1; subst h1
    rw [hid'] at h2; simp at h2; subst h2
    rw [h3] at he
    exact (List.getElem?_eq_some_iff.1 he).1
   rcases hx with ⟨hcl',_,hdo⟩ | ⟨hcl',_,hlq,hdo⟩ | ⟨hcl',hdo,hev⟩
   ·have hnE:isE o.op=false:=by simp [isE,hcl']
    obtain ⟨hs1,hs2⟩:=sameE hnE
    refine hdo (Hk q) a w G hi operand _ _ (fun v' w' G' hr' hi' hs' hdom=>?_)
    refine go v' v w' G' q (.inl hT1) hr' hi' hq hs' hs1 hs2 (fun k o' d' id' hkj ho' ha hd' hk hid'=>?_)
    obtain ⟨g1,g2⟩:=hnew k o' d' id' ho' ha hd' hk hid'
    exact ⟨hdom id' (hidlt k o' d' id' ho' ha hd' hid' g2) g1,g2⟩
   ·have hnE:isE o.op=false:=by simp [isE,hcl']
    have hL:isL o.op=true:=by simp [isL,hcl']
    obtain ⟨hs1,hs2⟩:=sameE hnE
    have hME:∀ op,isM op=true→isE op=true:=by intro op h; cases op <;> simp [isM,isE,cls] at h ⊢
    have agree:∀ x∈o.op.operands,∀ id,sees (rho (Tk j) x) id→id < (Hk j).length→(Hk q)[id]? = (Hk j)[id]?:=by
     intro x hx id hxe hidl
     have rx:=operand x hx
     obtain ⟨l0,hb,hbn⟩:∃ l,G.loc id=some l ∧ ∀ a c n s,l≠.row a c n s:=by
      generalize a.eval x=v at rx
      rcases hxe with ⟨off,hxe⟩ | ⟨v1,s1,i1,o1,hxe⟩ <;> rw [hxe] at rx
      ·cases rx with
       | bptr _ _ b hl=>exact ⟨_,hl,by simp⟩
      ·cases rx with
       | mptr _ _ _ _ _ b o a a' cap cap' ver' hl hn he hi ha=>exact ⟨_,hl,by simp⟩
     obtain ⟨ob,ho2,hh2⟩:=hi.obj id _ hb
     -- a soft object is not looked into
     have no:(∃ ob',(Hk j)[id]? = some ob'∧ob'.soft (zpD ops)=true)→(∃ ob',(Hk q)[id]? = some ob'∧ob'.soft (zpD ops)=true)→False:=by
      rintro ⟨o1,h1,k1⟩ ⟨o2,h2,k2⟩
      cases hm:zpD ops with
      | true =>
       obtain ⟨hwl,hob⟩:=hlq hm x hx
       rcases hxe with ⟨off,hxe⟩ | ⟨v1,s1,i1,o1',hxe⟩
       ·obtain ⟨o3,h3,k3⟩:=hob id off hxe
        rw [h1] at h3; simp at h3; subst h3
        rw [hm] at k1
        rw [k1] at k3; simp at k3
       ·rw [hxe] at hwl; simp [AV.wild] at hwl
      | false =>
       rw [ho2] at h2; simp at h2; subst h2
       rw [hm] at k2
       cases l0 with
       | row a c n s=>exact hbn _ _ _ _ rfl
       | box b=>cases ob <;> first | (simp [Ob.soft] at k2; done) | exact hh2.elim
       | mrow a c v s=>cases ob <;> first | (simp [Ob.soft] at k2; done) | exact hh2.elim
     rcases Nat.lt_or_ge j q with hjq | hjq
     ·obtain ⟨_,hk⟩:=c.kinds (q - j) j (by omega) (fun k o' h1 h2 ho'=>by
       cases hM:isM o'.op with
       | false=>rfl
       | true =>
        exfalso
        have hne:k≠j:=by
         intro h; subst h; rw [ho] at ho'; simp at ho'; subst ho'
         rw [hME _ hM] at hnE; simp at hnE
        have hli:=hE1 k o' (by omega) ho' (hME _ hM)
        have hmem:=zz9 c.ok ho' ho (by omega) (by simp [clash,hM,hL])
        have:=zkk hcl ho' (fun e he hb'=>hcl k o' hli ho' e he hb') hmem
        rw [hjun] at this; simp at this)
      rw [show j + (q - j)=q by omega] at hk
      rcases hk id hidl with h | ⟨h,h'⟩
      ·exact h
      ·exact (no h h').elim
     ·obtain ⟨_,hk⟩:=c.kinds (j - q) q (by omega) (fun k o' h1 h2 ho'=>by
       cases hM:isM o'.op with
       | false=>rfl
       | true =>
        exfalso
        have hun:=hE2 k o' h1 ho' (hME _ hM)
        have hmem:=zz9 c.ok ho ho' (by omega) (by simp [clash,hM,hL])
        rw [hpre' hmem] at hun; simp at hun)
      rw [show q + (j - q)=j by omega] at hk
      rcases hk id (hi.loc_lt hb) with h | ⟨h,h'⟩
      ·exact h.symm
      ·exact (no h' h).elim
    refine hdo (Hk q) agree a w G hi operand _ _ (fun v' w' G' hr' hi' hs' hdom=>?_)
    refine go v' v w' G' q (.inl hT1) hr' hi' hq hs' hs1 hs2 (fun k o' d' id' hkj ho' ha hd' hk hid'=>?_)
    obtain ⟨g1,g2⟩:=hnew k o' d' id' ho' ha hd' hk hid'
    exact ⟨hdom id' (hidlt k o' d' id' ho' ha hd' hid' g2) g1,g2⟩
   ·have hE:isE o.op=true:=by simp [isE,hcl']
    obtain ⟨hqj,hHj,hs1,hs2⟩:=effE hE
    rw [hHj] at hi
    refine hdo a w G hi operand _ _ (fun v' w' G' hr' hi' hs' hdom=>?_)
    refine go v' v w' G' (j + 1) (.inl hT1) hr' (by rw [hH1]; exact hi') (by omega) hs' hs1 hs2 (fun k o' d' id' hkj ho' ha hd' hk hid'=>?_)
    obtain ⟨g1,g2⟩:=hnew k o' d' id' ho' ha hd' hk hid'
    have hlt:=hidlt k o' d' id' ho' ha hd' hid' g2
    rw [hHj] at hlt g2
    refine ⟨hdom id' hlt g1, ?_⟩
    rw [hH1,hev.far id' hlt (fun x hx hr=>?_)]
    ·exact g2
    ·have rx:=operand x hx
     rcases hr with ⟨off,e⟩ | ⟨es,e⟩ | ⟨v1,s1,i1,o1,e⟩ | ⟨v1,s1,o1,n1,e⟩ | e
     ·rw [e] at rx
      generalize a.eval x=v at rx
      cases rx with
      | bptr _ _ b hl=>rw [g1] at hl; simp at hl
     ·rw [e] at rx
      generalize a.eval x=v at rx
      cases rx with
      | own _ _ _ _ _ _ _ _ _ hl=>rw [g1] at hl; simp at hl
     ·rw [e] at rx
      generalize a.eval x=v at rx
      cases rx with
      | mptr _ _ _ _ _ b o a a' cap cap' ver' hl hn he hi ha=>rw [g1] at hl; simp at hl
     ·rw [e] at rx
      generalize a.eval x=v at rx
      cases rx with
      | msl _ _ _ _ _ _ _ _ _ _ _ _ hl=>rw [g1] at hl; simp at hl
     ·rw [e] at rx
      generalize a.eval x=v at rx
      cases rx with
      | mapr _ b hl=>rw [g1] at hl; simp at hl
end
end Go.Abs
end

section
/- Truths that are reckoned in part ('and', 'or') come together again in one value. -/
namespace Go.Abs
variable {P:Program}
def zek (t:List AV):List Nat→List AV
 | []=>t
 | k::ks=>zek (t.set k .top) ks
theorem zgf:∀ (ks:List Nat) (t:List AV),(zek t ks).length=t.length
 | [],t=>rfl
 | k::ks,t=>by rw [zek,zgf]; simp
theorem zsT (t:List AV) (k u:Nat) (x:AV):(t.set k x).getD u .top=if k=u∧u < t.length then x else t.getD u .top:=by
 simp only [List.getD_eq_getElem?_getD,List.getElem?_set]
 by_cases h:k=u
 ·subst h
  by_cases h2:k < t.length <;> simp [h2]
 ·simp [h]
theorem zkF (u:Nat) (p:AV→Prop) (htop:p .top):∀ (ks:List Nat) (t:List AV),(u ∉ ks→p (t.getD u .top))→p ((zek t ks).getD u .top)
 | [],t,h=>h (by simp)
 | k::ks,t,h=>by
  rw [zek]
  refine zkF u p htop ks _ (fun hu=>?_)
  rw [zsT]
  split
  ·exact htop
  ·rename_i hk
   by_cases e:k=u
   ·subst e
    have:¬ k < t.length:=fun hl=>hk ⟨rfl,hl⟩
    rw [List.getD_eq_getElem?_getD,List.getElem?_eq_none (by omega)]
    exact htop
   ·exact h (by simp only [List.mem_cons,not_or]; exact ⟨fun h'=>e h'.symm,hu⟩)
def zxe (d:Nat) (want:Bool):Op→Option Operand
 | .pick (.tmp u) a b=>match u == d with
  | true=>match want with
   | true=>match b with
    | .const (.bool false)=>some a
    | _=>none
   | false=>match a with
    | .const (.bool true)=>some b
    | _=>none
  | false=>none
 | _=>none
def zxX (j:Nat) (want:Bool) (ins:List Nat) (o:Oper):Bool :=
 match o.guard with
 | some (i,w)=>(i == j && w == want) || ins.contains i
 | none=>false
def zp9 (j:Nat) (want:Bool):Nat→List Nat→List Oper→Nat
 | _,_,[]=>0
 | k,ins,o::r=>match zxX j want ins o with
  | true=>zp9 j want (k + 1) (k::ins) r + 1
  | false=>0
def dsts (l:List Oper):List Nat:=l.filterMap (·.dst)
def pOk (ops:Array Oper) (t:List AV) (p:Oper):Bool :=
 match p.guard with
 | none=>true
 | some (i,w)=>match gdst ops i with
  | none=>false
  | some u=>match t.getD u .top with
   | .p (.bool b)=>b == w
   | _=>false
def zD2 (ops:Array Oper) (t:List AV) (j d:Nat) (want:Bool) (k:Nat) (l:List Oper):Option (List Oper×Operand×Oper×List Oper) :=
 match l.drop (zp9 j want k [] l) with
 | []=>none
 | p::rest=>match zxe d want p.op with
  | none=>none
  | some x=>match (dsts (l.take (zp9 j want k [] l))).contains d,pOk ops (zek t (dsts (l.take (zp9 j want k [] l)))) p with
   | false,true=>some (l.take (zp9 j want k [] l),x,p,rest)
   | _,_=>none
def zz2 (mg:Bool) (ops:Array Oper) (t:List AV) (j d:Nat) (want:Bool) (k:Nat) (l:List Oper):Option (List Oper×Operand×Oper×List Oper) :=
 match mg with
 | true=>zD2 ops t j d want k l
 | false=>none
def zm (want:Bool) (x:AV) (E:(AV→Prop)→Prop) (K:AV→Prop):Prop :=
 match x with
 | .p (.bool b)=>∃ c:Bool,(b=want→E fun v=>v=.p (.bool c))∧K (.p (.bool (cond want (b && c) (b || c))))
 | _=>False
def isLen:Op→Bool
 | .call { callee:=.builtin .len,.. }=>true
 | _=>false
def aLenS (isStr:Bool) (x:AV) (K:AV→Prop):Prop :=
 match isStr with
 | true=>match x with
  | .p (.str s)=>K (.p (.int .i64 s.length))
  | _=>False
 | false=>match x with
  | .msl _ _ _ _ len=>K (.p (.int .i64 len))
  | x=>match x.elems with
   | some es=>K (.p (.int .i64 es.length))
   | none=>False
def zFj (P:Program) (ρ:Operand→AV):Op→(AV→Prop)→Prop
 | .call { callee:=.builtin .len,args,argTypes },K=>match args.toList,argTypes.toList with
  | [x],[t]=>match P.underlying t with
   | some .string=>aLenS true (ρ x) K
   | some (.slice _)=>aLenS false (ρ x) K
   | _=>False
  | _,_=>False
 | _,_=>False
def zvL (P:Program) (seg:Bool) (o:Oper) (t:List AV) (H:List Ob) (K:List AV→List Ob→Prop):Prop :=
 match seg && isLen o.op with
 | true=>zFj P (rho t) o.op fun v=>zbi (setD t o.dst v) fun t'=>K t' H
 | false=>aOp P false (rho t) o.op H fun v H'=>zbi (setD t o.dst v) fun t'=>K t' H'
def zAj (t:List Oper) (K:List Oper→Prop):Prop :=
 (fun (_:Prop)=>List.rec (motive:=fun _=>(List Oper→Prop)→Prop) (fun K=>K []) (fun x _ ih K=>ih fun r'=>K (x::r')) t K) fls
theorem zxQ:∀ (t:List Oper) (K:List Oper→Prop),zAj t K=K t
 | [],_=>rfl
 | x::r,K=>zxQ r fun r'=>K (x::r')
def mOps (P:Program) (mg:Bool) (ops:Array Oper):Nat→Bool→Nat→List Oper→List Nat→List AV→List Ob→(List AV→List Ob→Prop)→Prop
 | 0,_,_,_,_,_,_,_=>False
 | _ + 1,_,_,[],_,t,H,K=>K t H
 | f + 1,seg,k,o::r,sk,t,H,K=>match o.guard with
  | none=>zvL P seg o t H fun t' H'=>mOps P mg ops f seg (k + 1) r sk t' H' K
  | some (j,want)=>match gdst ops j with
   | none=>False
   | some d=>match zz2 mg ops t j d want k (o::r) with
    | some (S,x,p,rest)=>zAj S fun S=>zAj rest fun rest=>zm want (t.getD d .top) (fun Q=>zbi (t.set d (.p (.bool want))) fun t=>mOps P mg ops f true k S sk t H fun t' H'=>H'=H∧Q (rho t' x))
      (fun v=>zbi (setD (zek t (dsts S)) p.dst v) fun t=>mOps P mg ops f seg (k + S.length + 1) rest sk t H K)
    | none=>aGd sk t d want (fun t=>zvL P seg o t H fun t' H'=>mOps P mg ops f seg (k + 1) r sk t' H' K) (fun t=>zbi (setD t o.dst skp) fun t=>mOps P mg ops f seg (k + 1) r (addSk sk o.dst) t H K)
def zad (P:Program) (ops:Array Oper) (draw:Bool) (t:List AV) (H:List Ob) (K:List AV→List Ob→Prop):Prop :=
 match draw with
 | false=>mOps P true ops (ops.size + 1) false 0 ops.toList [] t H K
 | true=>match zdA ops with
  | true=>zkQ P ops.toList t H fun t1 H1=>aOps P true ops ops.toList [] t1 H1 K
  | false=>False
def KeptL (l:List Oper) (a a':Act):Prop:=(∀ u,(∀ o∈l,o.dst≠some u)→a'.tmps.getD u undef=a.tmps.getD u undef)∧a'.tmps.size=a.tmps.size
theorem KeptL.refl (l:List Oper) (a:Act):KeptL l a a:=⟨fun _ _=>rfl,rfl⟩
theorem KeptL.trans {l:List Oper} {a b c:Act} (h:KeptL l a b) (k:KeptL l b c):KeptL l a c:=⟨fun u hu=>(k.1 u hu).trans (h.1 u hu),k.2.trans h.2⟩
theorem KeptL.sub {l l':List Oper} {a b:Act} (h:KeptL l a b) (hs:∀ o∈l,o∈l'):KeptL l' a b:=⟨fun u hu=>h.1 u (fun o ho=>hu o (hs o ho)),h.2⟩
theorem KeptL.put {l:List Oper} (a:Act) {o:Oper} (ho:o∈l) (v:Value):KeptL l a (a.put o.dst v):=by
 refine ⟨fun u hu=>?_, ?_⟩
 ·have hd:=hu o ho
  cases hod:o.dst with
  | none=>rfl
  | some d =>
   have:d≠u:=fun h=>hd (by rw [hod,h])
   simp [Act.put,Array.getD_eq_getD_getElem?,Array.getElem?_setIfInBounds_ne this]
 ·cases hod:o.dst with
  | none=>rfl
  | some d=>simp [Act.put]
theorem KeptL.kept {l:List Oper} {ops:Array Oper} {a b:Act} (h:KeptL l a b) (hs:∀ o∈l,∃ k:Nat,ops[k]? = some o):Kept ops a b :=
 ⟨fun u hu=>h.1 u (fun o ho=>let ⟨k,hk⟩:=hs o ho; hu k o hk),h.2⟩
theorem zrH {want:Bool} {x:AV} {E:(AV→Prop)→Prop} {K:AV→Prop} (h:zm want x E K) :
  ∃ b c:Bool,x=.p (.bool b)∧(b=want→E fun v=>v=.p (.bool c))∧K (.p (.bool (cond want (b && c) (b || c)))):=by
 unfold zm at h
 split at h
 ·rename_i b
  obtain ⟨c,h1,h2⟩:=h
  exact ⟨b,c,rfl,h1,h2⟩
 ·exact h.elim
theorem zzq {seg:Bool} {o:Oper} {t:List AV} {H:List Ob} {K:List AV→List Ob→Prop} (h:zvL P seg o t H K):aOp P false (rho t) o.op H fun v H'=>K (setD t o.dst v) H':=by
 unfold zvL at h
 simp only [zbm] at h
 split at h
 ·generalize o.op=op at h
  unfold zFj at h
  split at h
  ·rename_i args argTypes
   split at h
   ·rename_i x ty hargs htys
    have hc:cls false (.call { callee:=.builtin .len,args:=args,argTypes:=argTypes })=.pure:=rfl
    unfold aOp
    rw [hc]
    simp only [aP,hargs,htys]
    split at h
    ·rename_i hu
     simp only [hu]
     unfold aLenS at h
     simp only [aLen] at h ⊢
     split at h
     ·rename_i s hs; simp only [hs]; exact fun _=>h
     ·exact h.elim
    ·rename_i e hu
     simp only [hu]
     unfold aLenS at h
     simp only [aLen] at h ⊢
     split at h
     ·rename_i hs; simp only [hs]; exact fun _=>h
     ·split at h
      ·rename_i es hs; simp only [hs]; exact fun _=>h
      ·exact h.elim
    ·exact h.elim
   ·exact h.elim
  ·exact h.elim
 ·exact h
def SegP (j:Nat) (want:Bool):Nat→List Nat→List Oper→Prop
 | _,_,[]=>True
 | k,ins,o::r=>zxX j want ins o=true∧SegP j want (k + 1) (k::ins) r
theorem zze {j:Nat} {want:Bool}:∀ (l:List Oper) (k:Nat) (ins:List Nat),SegP j want k ins (l.take (zp9 j want k ins l))
 | [],k,ins=>by simp [SegP]
 | o::r,k,ins=>by
  unfold zp9
  split
  ·rename_i h
   rw [List.take_succ_cons]
   exact ⟨h,zze r (k + 1) (k::ins)⟩
  ·simp [SegP]
theorem zvg {ops:Array Oper} {a:Act} {d:Option Tmp} (i:Nat):yielded ops (a.put d undef).tmps i=yielded ops a.tmps i∨yielded ops (a.put d undef).tmps i=none:=by
 cases d with
 | none=>exact .inl rfl
 | some d =>
  unfold yielded
  cases hg:(ops[i]?).bind (·.dst) with
  | none=>left; rfl
  | some u =>
   simp only [Option.bind_some,Act.put]
   by_cases h:d=u
   ·subst h
    right
    by_cases hl:d < a.tmps.size
    ·simp [hl,undef]
    ·simp [hl]
   ·left
    rw [Array.getElem?_setIfInBounds_ne h]
theorem zAF {ops:Array Oper} {a:Act} {k:Nat} {o:Oper} (ho:ops[k]? = some o):yielded ops (a.put o.dst undef).tmps k=none:=by
 unfold yielded
 rw [ho]
 simp only [Option.bind_some]
 cases hd:o.dst with
 | none=>rfl
 | some d =>
  simp only [Option.bind_some,Act.put]
  by_cases hl:d < a.tmps.size
  ·simp [hl,undef]
  ·simp [hl]
theorem zBX {ops:Array Oper} {Q:Exit→Act→World→Prop} {j:Nat} {want:Bool}:∀ (S:List Oper) (k:Nat) (ins:List Nat) (is:List Nat) (a:Act) (w:World),(∀ i,i < S.length→S[i]? = ops[k + i]?)→SegP j want k ins S →
  yielded ops a.tmps j≠some want→(∀ i∈ins,yielded ops a.tmps i=none)→(∀ a1,KeptL S a a1→a1.defers=a.defers→wpOps P ops Q is a1 w)→wpOps P ops Q (List.range' k S.length++is) a w
 | [],k,ins,is,a,w,_,_,_,_,h=>by simpa using h a (.refl _ _) rfl
 | o::r,k,ins,is,a,w,hl,hs,hj,hin,h=>by
  have hk:ops[k]? = some o:=by have:=hl 0 (by simp); simpa using this.symm
  rw [List.length_cons,List.range'_succ,List.cons_append,wpOps_cons]
  unfold wpOp
  simp only [hk]
  obtain ⟨hu,hs'⟩:=hs
  have hw:Region.wanted o (yielded ops a.tmps)=false:=by
   unfold zxX at hu
   unfold Region.wanted
   cases hg:o.guard with
   | none=>simp [hg] at hu
   | some g =>
    obtain ⟨i,w'⟩:=g
    simp only [hg,Bool.or_eq_true,Bool.and_eq_true,beq_iff_eq,List.contains_iff_mem] at hu ⊢
    rcases hu with ⟨rfl,rfl⟩ | hu
    ·simpa using hj
    ·rw [hin i hu]; rfl
  simp only [hw,Bool.false_eq_true,if_false]
  refine zBX r (k + 1) (k::ins) is _ w (fun i hi=>by have:=hl (i + 1) (by simpa using hi); simp at this; rw [this]; congr 1; omega) hs' ?_ (fun i hi=>?_) (fun a1 h1 h2=>h a1 (((KeptL.put a (List.mem_cons_self) undef)).trans (h1.sub (fun o ho=>List.mem_cons_of_mem _ ho))) (by rw [h2]; cases o.dst <;> rfl))
  ·rcases zvg (ops:=ops) (a:=a) (d:=o.dst) j with e | e <;> rw [e]
   ·exact hj
   ·simp
  ·rcases List.mem_cons.1 hi with rfl | hi
   ·exact zAF hk
   ·rcases zvg (ops:=ops) (a:=a) (d:=o.dst) i with e | e <;> rw [e]
    exact hin i hi
theorem zFS {l:List Oper} {u:Nat}:u∈dsts l ↔ ∃ o∈l,o.dst=some u:=by simp [dsts]
theorem zC1 {G G':Gh} (g:Grow G G') {t:List AV} {a a':Act} {S:List Oper} (ht:RepTm G t a.tmps) (hk:KeptL S a a'):RepTm G' (zek t (dsts S)) a'.tmps:=by
 refine ⟨by rw [zgf,hk.2]; exact ht.1,fun u=>?_⟩
 refine zkF u (fun v=>RepA G' v (a'.tmps.getD u undef)) (.top _) _ _ (fun hu=>?_)
 rw [hk.1 u (fun o ho hd=>hu (zFS.2 ⟨o,ho,hd⟩))]
 exact (ht.2 u).mono g
theorem zDb {d:Nat} {want:Bool} {op:Op} {x:Operand} (h:zxe d want op=some x):∃ pa pb,op=.pick (.tmp d) pa pb∧((want=true∧pa=x∧pb=.const (.bool false))∨(want=false∧pa=.const (.bool true)∧pb=x)):=by
 cases op with
 | pick c pa pb =>
  cases c with
  | tmp u =>
   simp only [zxe] at h
   split at h
   ·rename_i hu
    have hu:u=d:=by simpa using hu
    subst hu
    cases want with
    | true =>
     simp only at h
     split at h
     ·simp at h; exact ⟨pa,_,rfl,.inl ⟨rfl,h,rfl⟩⟩
     ·simp at h
    | false =>
     simp only at h
     split at h
     ·simp at h; exact ⟨_,pb,rfl,.inr ⟨rfl,rfl,h⟩⟩
     ·simp at h
   ·simp at h
  | _=>simp [zxe] at h
 | _=>simp [zxe] at h
theorem zip {mg:Bool} {ops:Array Oper} {Q:Exit→Act→World→Prop}:∀ (f:Nat) (seg:Bool) (k:Nat) (l:List Oper) (sk:List Nat) (t:List AV) (H:List Ob) (K:List AV→List Ob→Prop),(∀ j,j < l.length→l[j]? = ops[k + j]?)→mOps P mg ops f seg k l sk t H K →
  ∀ (is:List Nat) (a:Act) (w:World) (G:Gh),Inv w G H→RepTm G t a.tmps →
   (∀ (a':Act) (w':World) (G':Gh) (t':List AV) (H':List Ob),K t' H'→Inv w' G' H'→RepTm G' t' a'.tmps→a'.defers=a.defers→KeptL l a a'→Step w G w' G'→wpOps P ops Q is a' w') →
   wpOps P ops Q (List.range' k l.length++is) a w
 | 0,seg,k,l,sk,t,H,K,_,h,is,a,w,G,hi,ht,hq=>by simp [mOps] at h
 | f + 1,seg,k,[],sk,t,H,K,_,h,is,a,w,G,hi,ht,hq=>by
  simp only [mOps] at h
  simpa using hq a w G t H h hi ht rfl (.refl _ _) (.refl w G)
 | f + 1,seg,k,o::r,sk,t,H,K,hl,h,is,a,w,G,hi,ht,hq=>by
  have hk:ops[k]? = some o:=by have:=hl 0 (by simp); simpa using this.symm
  have hr:∀ j,j < r.length→r[j]? = ops[k + 1 + j]?:=fun j hj=>by have:=hl (j + 1) (by simpa using hj); simp at this; rw [this]; congr 1; omega
  have exec:∀ (t0:List AV),RepTm G t0 a.tmps→zvL P seg o t0 H (fun t' H'=>mOps P mg ops f seg (k + 1) r sk t' H' K)→o.wp P a w (wpOps P ops Q (List.range' (k + 1) r.length++is)) Q:=by
   intro t0 ht0 h0
   have h0:=zzq h0
   obtain ⟨v,H',h1,h2⟩:=zkl h0 hi (fun x _=>ht0.rho x)
   refine h2 a w G hi (fun x _=>ht0.rho x) _ _ (fun v' w' G' hr' hi' hs'=>?_)
   refine zip f seg (k + 1) r sk _ H' K hr h1 is _ w' G' hi' ((ht0.mono hs'.grow).put o.dst hr') (fun a' w2 G2 t' H2 hk2 hi2 ht2 hd2 hkp hs2=>?_)
   exact hq a' w2 G2 t' H2 hk2 hi2 ht2 (by rw [hd2,zgI]) ((KeptL.put a List.mem_cons_self v').trans (hkp.sub fun o ho=>List.mem_cons_of_mem _ ho)) (hs'.trans hs2)
  have skipped:∀ (t0:List AV),RepTm G t0 a.tmps→mOps P mg ops f seg (k + 1) r (addSk sk o.dst) (setD t0 o.dst skp) H K→wpOps P ops Q (List.range' (k + 1) r.length++is) (a.put o.dst undef) w:=by
   intro t0 ht0 h'
   refine zip f seg (k + 1) r _ _ H K hr h' is _ w G hi (ht0.put o.dst (zgi.2 rfl)) (fun a' w2 G2 t' H2 hk2 hi2 ht2 hd2 hkp hs2=>?_)
   exact hq a' w2 G2 t' H2 hk2 hi2 ht2 (by rw [hd2,zgI]) ((KeptL.put a List.mem_cons_self undef).trans (hkp.sub fun o ho=>List.mem_cons_of_mem _ ho)) hs2
  have one:wpOp P ops Q k (wpOps P ops Q (List.range' (k + 1) r.length++is)) a w→wpOps P ops Q (List.range' k (o::r).length++is) a w:=by
   intro h1
   rw [List.length_cons,List.range'_succ,List.cons_append,wpOps_cons]
   exact h1
  simp only [mOps,zbm,zxQ] at h
  cases hg:o.guard with
  | none =>
   simp only [hg] at h
   refine one ?_
   unfold wpOp
   simp only [hk]
   have:Region.wanted o (yielded ops a.tmps)=true:=by simp [Region.wanted,hg]
   simp only [this,if_true]
   exact .inl (exec t ht h)
  | some g =>
   obtain ⟨j,want⟩:=g
   simp only [hg] at h
   cases hd:gdst ops j with
   | none=>simp [hd] at h
   | some d =>
    simp only [hd] at h
    cases hm:zz2 mg ops t j d want k (o::r) with
    | none =>
     simp only [hm] at h
     refine one ?_
     unfold wpOp
     simp only [hk]
     rcases zt3 h with ⟨hb,h'⟩ | ⟨b,hb,h'⟩
     ·have hy:yielded ops a.tmps j=none:=zqj hd (by have r:=ht.2 d; rw [hb] at r; exact zgi.1 r)
      have hw:Region.wanted o (yielded ops a.tmps)=false:=by simp [Region.wanted,hg,hy]
      simp only [hw,Bool.false_eq_true,if_false]
      exact skipped t ht h'
     ·have hy:=znQ hd ht hb
      have hw:Region.wanted o (yielded ops a.tmps)=(b == want):=by simp [Region.wanted,hg,hy]
      rw [hw]
      split
      ·rename_i hbw
       rw [if_pos hbw] at h'
       exact .inl (exec t ht h')
      ·rename_i hbw
       rw [if_neg hbw] at h'
       exact skipped t ht h'
    | some m =>
     obtain ⟨S,x,p,rest⟩:=m
     simp only [hm] at h
     obtain ⟨b,c,hb,hE,hK⟩:=zrH h
     -- the parts
     unfold zz2 at hm
     cases mg with
     | false=>simp at hm
     | true =>
     simp only at hm
     unfold zD2 at hm
     split at hm
     ·simp at hm
     ·rename_i p' rest' hdrop
      split at hm
      ·simp at hm
      ·rename_i x' hpick
       split at hm
       ·rename_i hdS hpok
        simp only [Option.some.injEq,Prod.mk.injEq] at hm
        obtain ⟨hS,rfl,rfl,rfl⟩:=hm
        rw [hS] at hdS hpok
        have hseg:SegP j want k [] S:=hS ▸ zze (o::r) k []
        have hl0:o::r=S++p'::rest':=by
         have:=List.take_append_drop (zp9 j want k [] (o::r)) (o::r)
         rw [hdrop,hS] at this
         exact this.symm
        clear hdrop hS
        have hlen:(o::r).length=S.length + (1 + rest'.length):=by rw [hl0]; simp; omega
        have hSl:∀ i,i < S.length→S[i]? = ops[k + i]?:=fun i hi'=>by
         rw [← hl i (by omega),hl0,List.getElem?_append_left hi']
        have hpk:ops[k + S.length]? = some p':=by
         rw [← hl S.length (by omega),hl0]
         simp
        have hrl:∀ i,i < rest'.length→rest'[i]? = ops[k + S.length + 1 + i]?:=fun i hi'=>by
         have:=hl (S.length + 1 + i) (by omega)
         rw [hl0,List.getElem?_append_right (by omega)] at this
         rw [show k + S.length + 1 + i=k + (S.length + 1 + i) by omega,← this,show S.length + 1 + i - S.length=i + 1 by omega]
         simp
        have hrange:List.range' k (o::r).length++is=List.range' k S.length++((k + S.length)::(List.range' (k + S.length + 1) rest'.length++is)):=by
         rw [hlen,← List.range'_append_1,List.append_assoc,Nat.add_comm 1,List.range'_succ]
         rfl
        rw [hrange]
        have hdS':d ∉ dsts S:=by simpa using hdS
        -- from the 'pick' on
        have fin:∀ (a1:Act) (w1:World) (G1:Gh),Inv w1 G1 H→KeptL S a a1→a1.defers=a.defers→Step w G w1 G1→(b=want→RepA G1 (.p (.bool c)) (a1.eval x')) →
          wpOps P ops Q ((k + S.length)::(List.range' (k + S.length + 1) rest'.length++is)) a1 w1:=by
         intro a1 w1 G1 hi1 hkS hd1 hs1 hxr
         have ht1:=zC1 hs1.grow ht hkS
         have hfd:(zek t (dsts S)).getD d .top=.p (.bool b):=by
          have key:∀ (ks:List Nat) (t:List AV),d ∉ ks→(zek t ks).getD d .top=t.getD d .top:=by
           intro ks
           induction ks with
           | nil=>intro t _; rfl
           | cons k ks ih =>
            intro t hk
            rw [zek,ih _ (fun h=>hk (List.mem_cons_of_mem _ h)),zsT,if_neg (fun h=>hk (by rw [h.1]; exact List.mem_cons_self))]
          rw [key _ _ hdS',hb]
         have hdv:RepA G1 (.p (.bool b)) (a1.eval (.tmp d)):=by
          have:=ht1.2 d
          rw [hfd] at this
          exact this
         rw [wpOps_cons]
         unfold wpOp
         simp only [hpk]
         have hw:Region.wanted p' (yielded ops a1.tmps)=true:=by
          unfold pOk at hpok
          unfold Region.wanted
          cases hpg:p'.guard with
          | none=>rfl
          | some g =>
           obtain ⟨i,w'⟩:=g
           simp only [hpg] at hpok
           cases hgi:gdst ops i with
           | none=>simp [hgi] at hpok
           | some u =>
            simp only [hgi] at hpok
            split at hpok
            ·rename_i b' hb'
             have:=znQ hgi ht1 hb'
             simp only [this]
             have:b'=w':=by simpa using hpok
             simp [this]
            ·simp at hpok
         simp only [hw,if_true]
         left
         -- what it picks
         obtain ⟨pa,pb,hop,hpick'⟩:∃ pa pb,p'.op=.pick (.tmp d) pa pb∧((want=true∧pa=x'∧pb=.const (.bool false))∨(want=false∧pa=.const (.bool true)∧pb=x')):=by
          obtain ⟨op,hop⟩:∃ op,p'.op=op:=⟨_,rfl⟩
          rw [hop] at hpick ⊢
          exact zDb hpick
         have hxr':=hxr
         let ρ:Operand→AV:=fun y=>match y with
          | .tmp u=>match u == d with
           | true=>.p (.bool b)
           | false=>match b == want with
            | true=>(match x' with | .tmp u'=>(match u == u' with | true=>.p (.bool c) | false=>.top) | _=>.top)
            | false=>.top
          | y=>rho t y
         have hρ:∀ y,RepA G1 (ρ y) (a1.eval y):=by
          intro y
          cases y with
          | tmp u =>
           simp only [ρ]
           split
           ·rename_i hu; have:u=d:=by simpa using hu
            subst this; exact hdv
           ·split
            ·rename_i hbw
             split
             ·split
              ·rename_i hu
               simp only [beq_iff_eq] at hu hbw
               subst hu
               exact (by assumption:b=want→RepA G1 (.p (.bool c)) (a1.eval (.tmp u))) hbw
              ·exact .top _
             ·exact .top _
            ·exact .top _
          | const v=>exact zfv _ v
          | func f=>exact .p _ _ (.func f [] #[] rfl (by simp))
          | global g=>exact .top _
         have hx:b=want→ρ x'=.p (.bool c):=by
          intro hbw
          have hxr:=hxr hbw
          cases x' with
          | tmp u =>
           simp only [ρ]
           split
           ·rename_i hu
            have:u=d:=by simpa using hu
            subst this
            have e1:=zat.1 hxr
            have e2:=zat.1 hdv
            rw [e1] at e2
            simp at e2
            rw [e2]
           ·simp [hbw]
          | const v =>
           have e1:v=.bool c:=zat.1 hxr
           subst e1
           rfl
          | func f =>
           have e1:=zat.1 hxr
           simp [Act.eval] at e1
          | global g =>
           have e1:=zat.1 hxr
           simp [Act.eval] at e1
         have hcd:ρ (.tmp d)=.p (.bool b):=by simp [ρ]
         have hval:aOp P false ρ p'.op H fun v H'=>v=.p (.bool (cond want (b && c) (b || c)))∧H'=H:=by
          rw [hop]
          simp only [aOp,cls,aP]
          rw [hcd]
          rcases hpick' with ⟨rfl,rfl,rfl⟩ | ⟨rfl,rfl,rfl⟩
          ·cases b with
           | true=>simp [aPick,hx rfl]
           | false=>simp [aPick,ρ,rho,zgx,zmB]
          ·cases b with
           | true=>simp [aPick,ρ,rho,zgx,zmB]
           | false=>simp [aPick,hx rfl]
         obtain ⟨v,H',⟨rfl,rfl⟩,h2⟩:=zkl hval hi1 (fun y _=>hρ y)
         refine h2 a1 w1 G1 hi1 (fun y _=>hρ y) _ _ (fun v' w' G' hr' hi' hs'=>?_)
         refine zip f seg (k + S.length + 1) rest' _ _ _ K hrl hK is _ w' G' hi' ((ht1.mono hs'.grow).put p'.dst hr') (fun a' w2 G2 t' H2 hk2 hi2 ht2 hd2 hkp hs2=>?_)
         refine hq a' w2 G2 t' H2 hk2 hi2 ht2 (by rw [hd2,zgI]; exact hd1) ?_ (hs1.trans (hs'.trans hs2))
         rw [hl0]
         exact (hkS.sub (fun o ho=>by simp [ho])).trans ((KeptL.put a1 (by simp) v').trans (hkp.sub (fun o ho=>by simp [ho])))
        have hev:a.eval (.tmp d)=.bool b:=by have:=ht.2 d; rw [hb] at this; exact zat.1 this
        by_cases hbw:b=want
        ·have hE:=hE hbw
         refine zip f true k S _ _ H _ hSl hE _ a w G hi (by rw [zjn (hbw ▸ hb)]; exact ht) (fun a' w' G' t' H' hk' hi' ht' hd' hkp hs'=>?_)
         obtain ⟨rfl,hx⟩:=hk'
         exact fin a' w' G' hi' hkp hd' hs' (fun _=>hx ▸ ht'.rho x')
        ·have hy:yielded ops a.tmps j≠some want:=by rw [znQ hd ht hb]; simpa using hbw
         refine zBX S k [] _ a w hSl hseg hy (fun i hi=>by simp at hi) (fun a1 hkS hd1=>?_)
         exact fin a1 w G hi hkS hd1 (.refl w G) (fun h=>absurd h hbw)
       ·simp at hm
end Go.Abs
end

section
/- Regions, all of them. -/
namespace Go.Abs
variable {P:Program}
structure Pre (P:Program) (l:List Oper) (t:List AV) (H:List Ob) (t1:List AV) (H1:List Ob):Prop where
 len:t1.length=t.length
 slot:∀ u,(∀ (k:Nat) (o:Oper),l[k]? = some o→zaS o.op=true→o.dst≠some u)→t1.getD u .top=t.getD u .top
 app:∃ L,H1=H++L
 new:∀ (k:Nat) (o:Oper),l[k]? = some o→zaS o.op=true→(∀ (k':Nat) (o':Oper),l[k']? = some o'→o'.dst=o.dst→k'=k)→∃ d id z,o.dst=some d∧d < t.length∧t1.getD d .top=.bptr id 0∧H1[id]? = some (.box z)∧H.length≤id ∧
  ∀ (a:Act) (w:World) (G:Gh),(∃ H,Inv w G H)→∃ w',(execOp a.eval o).run P w=.ok (.value (.pointer (some ⟨w.heap.size,0,none⟩))) w'∧Same w w' ∧ ∃ cs ty,w'.heap=w.heap.push (.cells cs ty (0,0))∧RepCs G z cs
 inj:∀ (k k':Nat) (o o':Oper) (d d' id:Nat),l[k]? = some o→l[k']? = some o'→zaS o.op=true→zaS o'.op=true→o.dst=some d→o'.dst=some d' →
  (∀ (i:Nat) (x:Oper),l[i]? = some x→x.dst=some d→i=k)→(∀ (i:Nat) (x:Oper),l[i]? = some x→x.dst=some d'→i=k')→t1.getD d .top=.bptr id 0→t1.getD d' .top=.bptr id 0→k=k'
theorem zDt:∀ (l:List Oper) (t:List AV) (H:List Ob) (K:List AV→List Ob→Prop),zkQ P l t H K→∃ t1 H1,K t1 H1∧Pre P l t H t1 H1
 | [],t,H,K,h=>⟨t,H,h,⟨rfl,fun _ _=>rfl,⟨[],by simp⟩,fun k o hk=>by simp at hk,fun k k' o o' d d' id hk=>by simp at hk⟩⟩
 | o::r,t,H,K,h=>by
  simp only [zkQ,zy] at h
  split at h
  ·rename_i ha
   split at h
   ·rename_i d hd
    split at h
    ·rename_i hdl
     have hdl:d < t.length:=by simpa using hdl
     obtain ⟨ty,hop⟩:∃ ty,o.op=.alloc ty:=by cases hop:o.op <;> simp [hop,zaS] at ha ⊢
     rw [hop] at h
     obtain ⟨z,h1,h2⟩:=zuH (ρ:=rho t) hop h
     obtain ⟨t1,H1,hk,hp⟩:=zDt r _ _ K ((zbm _ _).mp h1)
     obtain ⟨L,hL⟩:=hp.app
     have hget:H1[H.length]? = some (.box z):=by rw [hL]; simp
     have hslot:(∀ (k:Nat) (o':Oper),r[k]? = some o'→o'.dst≠some d)→t1.getD d .top=.bptr H.length 0:=by
      intro hn
      rw [hp.slot d (fun k o' hk' _=>hn k o' hk')]
      simp [List.getD_eq_getElem?_getD,hdl]
     have hnew0:∀ (k:Nat) (o':Oper),r[k]? = some o'→zaS o'.op=true→(∀ (i:Nat) (x:Oper),r[i]? = some x→x.dst=o'.dst→i=k)→∃ d' id,o'.dst=some d'∧t1.getD d' .top=.bptr id 0∧H.length < id:=by
      intro k o' hk' ha' hu
      obtain ⟨d',id,z',e1,_,e2,_,e3,_⟩:=hp.new k o' hk' ha' hu
      exact ⟨d',id,e1,e2,by simp at e3; omega⟩
     refine ⟨t1,H1,hk,⟨by rw [hp.len]; simp,fun u hu=>?_,⟨[.box z]++L,by rw [hL]; simp⟩,fun k o' hk' ha' huniq=>?_,fun k k' o1 o2 d1 d2 id hk1 hk2 ha1 ha2 hd1 hd2 hu1 hu2 he1 he2=>?_⟩⟩
     ·rw [hp.slot u (fun k o' hk'=>hu (k + 1) o' (by simpa using hk'))]
      have:d≠u:=fun h=>hu 0 o rfl ha (by rw [hd,h])
      simp [List.getD_eq_getElem?_getD,List.getElem?_set_ne this]
     ·cases k with
      | zero =>
       simp at hk'; subst hk'
       refine ⟨d,H.length,z,hd,hdl,hslot (fun k o' hk' hd'=>?_),hget,Nat.le_refl _,fun a w G ⟨H2,hi⟩=>?_⟩
       ·have:=huniq (k + 1) o' (by simpa using hk') (by rw [hd',hd])
        omega
       ·obtain ⟨w',g1,g2,g3,g4,g4d,cs,ty',g5,g6⟩:=(h2 H2).2 a w G hi
        exact ⟨w',g1,⟨g2,g3,g4,g4d⟩,cs,ty',g5,g6⟩
      | succ k =>
       simp at hk'
       obtain ⟨d',id,z',e1,e2,e3,e4,e5,e6⟩:=hp.new k o' hk' ha' (fun i x hx hxd=>by
        have:=huniq (i + 1) x (by simpa using hx) hxd
        omega)
       exact ⟨d',id,z',e1,by simpa using e2,e3,e4,by simp at e5; omega,e6⟩
     ·have un1:∀ {k:Nat} {d1:Nat},(∀ (i:Nat) (x:Oper),(o::r)[i]? = some x→x.dst=some d1→i=k + 1)→∀ (i:Nat) (x:Oper),r[i]? = some x→x.dst=some d1→i=k:=by
       intro k d1 hu i x hx hxd
       have:=hu (i + 1) x (by simpa using hx) hxd
       omega
      cases k with
      | zero =>
       cases k' with
       | zero=>rfl
       | succ k' =>
        exfalso
        simp at hk1 hk2
        subst hk1
        rw [hd] at hd1; simp at hd1; subst hd1
        rw [hslot (fun i x hx hxd=>by
         have:=hu1 (i + 1) x (by simpa using hx) hxd
         omega)] at he1
        simp at he1
        obtain ⟨d',id',e1,e2,e3⟩:=hnew0 k' o2 hk2 ha2 (fun i x hx hxd=>un1 hu2 i x hx (by rw [hxd]; exact hd2))
        rw [hd2] at e1; simp at e1; subst e1
        rw [he2] at e2; simp at e2
        omega
      | succ k =>
       cases k' with
       | zero =>
        exfalso
        simp at hk1 hk2
        subst hk2
        rw [hd] at hd2; simp at hd2; subst hd2
        rw [hslot (fun i x hx hxd=>by
         have:=hu2 (i + 1) x (by simpa using hx) hxd
         omega)] at he2
        simp at he2
        obtain ⟨d',id',e1,e2,e3⟩:=hnew0 k o1 hk1 ha1 (fun i x hx hxd=>un1 hu1 i x hx (by rw [hxd]; exact hd1))
        rw [hd1] at e1; simp at e1; subst e1
        rw [he1] at e2; simp at e2
        omega
       | succ k' =>
        simp at hk1 hk2
        have:=hp.inj k k' o1 o2 d1 d2 id hk1 hk2 ha1 ha2 hd1 hd2 (un1 hu1) (un1 hu2) he1 he2
        omega
    ·exact h.elim
   ·exact h.elim
  ·rename_i ha
   have ha':zaS o.op=false:=by simpa using ha
   obtain ⟨t1,H1,hk,hp⟩:=zDt r t H K h
   have un1:∀ {k:Nat} {d1:Nat},(∀ (i:Nat) (x:Oper),(o::r)[i]? = some x→x.dst=some d1→i=k + 1)→∀ (i:Nat) (x:Oper),r[i]? = some x→x.dst=some d1→i=k:=by
    intro k d1 hu i x hx hxd
    have:=hu (i + 1) x (by simpa using hx) hxd
    omega
   refine ⟨t1,H1,hk,⟨hp.len,fun u hu=>hp.slot u (fun k o' hk'=>hu (k + 1) o' (by simpa using hk')),hp.app,fun k o' hk' hao huniq=>?_,fun k k' o1 o2 d1 d2 id hk1 hk2 ha1 ha2 hd1 hd2 hu1 hu2 he1 he2=>?_⟩⟩
   ·cases k with
    | zero=>simp at hk'; subst hk'; rw [ha'] at hao; simp at hao
    | succ k =>
     simp at hk'
     exact hp.new k o' hk' hao (fun i x hx hxd=>by
      have:=huniq (i + 1) x (by simpa using hx) hxd
      omega)
   ·cases k with
    | zero=>simp at hk1; subst hk1; rw [ha'] at ha1; simp at ha1
    | succ k =>
     cases k' with
     | zero=>simp at hk2; subst hk2; rw [ha'] at ha2; simp at ha2
     | succ k' =>
      simp at hk1 hk2
      have:=hp.inj k k' o1 o2 d1 d2 id hk1 hk2 ha1 ha2 hd1 hd2 (un1 hu1) (un1 hu2) he1 he2
      omega
theorem ztF {ops:Array Oper} {t:List AV} {H:List Ob} {K:List AV→List Ob→Prop} (hok:zdA ops=true) (h:zkQ P ops.toList t H fun t1 H1=>aOps P true ops ops.toList [] t1 H1 K) {Q:Exit→Act→World→Prop} {a:Act} {w:World} {G:Gh} (hi:Inv w G H) (ht:RepTm G t a.tmps)
  (hq:∀ (a':Act) (w':World) (G':Gh) (t':List AV) (H':List Ob),K t' H'→Inv w' G' H'→RepTm G' t' a'.tmps→a'.defers=a.defers→Kept ops a a'→Step w G w' G'→Q .normal a' w') :
  wpAny P .any ops Q ops.size (Array.replicate ops.size false) a { w with drawn:=w.drawn + 1 }:=by
 obtain ⟨t1,H1,h1,hp⟩:=zDt _ _ _ _ h
 obtain ⟨Tk,Hk,e1,e2,hk,hst⟩:=trace _ _ _ _ _ h1
 have hlist:∀ (k:Nat),ops.toList[k]? = ops[k]?:=fun k=>by simp
 have huniq:∀ (k:Nat) (o:Oper) (d:Nat),ops[k]? = some o→o.dst=some d→∀ (i:Nat) (x:Oper),ops.toList[i]? = some x→x.dst=some d→i=k:=fun k o d ho hd i x hx hxd=>zkK hok ho (by rw [← hlist]; exact hx) hd hxd
 obtain ⟨L,hL⟩:=hp.app
 have c:Course P ops Tk Hk:=by
  refine ⟨hok,fun k o hk'=>hst k o (by rw [hlist]; exact hk'),fun k o ho ha=>?_,fun k k' o o' d d' id hk1 hk2 ha1 ha2 hd1 hd2 he1 he2=>?_⟩
  ·rw [e1,e2]
   have hdst:∃ d,o.dst=some d:=by
    have:=ok_op hok ho
    unfold opOk at this
    simp only [Bool.and_eq_true] at this
    have:=this.1.2
    simp [ha] at this
    exact Option.isSome_iff_exists.1 this.2
   obtain ⟨d0,hd0⟩:=hdst
   obtain ⟨d,id,z,g1,g2,g3,g4,_,g6⟩:=hp.new k o (by rw [hlist]; exact ho) ha (fun k' o' hk' hd'=>huniq k o d0 ho hd0 k' o' hk' (by rw [hd',hd0]))
   exact ⟨d,id,z,g1,by rw [hp.len]; exact g2,g3,g4,g6⟩
  ·rw [e1] at he1 he2
   exact hp.inj k k' o o' d d' id (by rw [hlist]; exact hk1) (by rw [hlist]; exact hk2) ha1 ha2 hd1 hd2 (huniq k o d hk1 hd1) (huniq k' o' d' hk2 hd2) he1 he2
 have hi':Inv { w with drawn:=w.drawn + 1 } G (Hk 0):=by
  have:=zs0 (w':={ w with drawn:=w.drawn + 1 }) hi rfl
  refine ⟨this.rd,fun j l e=>?_,this.dis,this.tab⟩
  obtain ⟨ob,ho,hl⟩:=this.obj j l e
  exact ⟨ob,by rw [e2,hL,List.getElem?_append_left (hi.loc_lt e)]; exact ho,hl⟩
 have hst0:Step w G { w with drawn:=w.drawn + 1 } G:=zus ⟨rfl,rfl,rfl,Nat.le_succ _⟩ rfl
 have hlen0:(Tk 0).length=t.length:=by rw [e1,hp.len]
 refine zCL c (a0:=a) (w0:=w) (G0:=G) (fun a' w' G' hi2 ht2 hd2 hkp hs2=>?_) ops.size (Array.replicate ops.size false) a { w with drawn:=w.drawn + 1 } G 0 (by simp) (fun j o hj=>?_) ?_ hi' (Nat.zero_le _) (fun k o hk'=>by omega) (fun k o _ ho _=>?_) (fun u hu=>?_) (fun u i o ho hd hna _=>?_) (by rw [hlen0]; exact ht.1) ⟨rfl,.refl _ _⟩ hst0 (fun k o d id ho ha hd _ hid=>?_)
 ·have hkk:K (Tk ops.size) (Hk ops.size):=by simpa using hk
  exact hq a' w' G' _ _ hkk hi2 ht2 hd2 hkp hs2
 ·simp only [] at hj
  by_cases hlt:j < ops.size <;> simp [hlt] at hj
 ·unfold left
  have:=List.length_filter_le (fun i=>!(Array.replicate ops.size false).getD i false) (List.range ops.size)
  simpa using this
 ·by_cases hlt:k < ops.size <;> simp [hlt]
 ·have hfree:∀ (k:Nat) (o:Oper),ops[k]? = some o→o.dst≠some u:=by
   intro k o ho hd
   have:=hu k o ho hd
   by_cases hlt:k < ops.size <;> simp [hlt] at this
  have h1:=c.fin_of_free (u:=u) (j:=0) (Nat.zero_le _) (fun k o _ ho=>hfree k o ho)
  rw [← h1,e1,hp.slot u (fun k o hk' _=>hfree k o (by rw [← hlist]; exact hk'))]
  exact ht.2 u
 ·rw [e1,hp.slot u (fun k o' hk' hao hd'=>by
   have:=huniq i o u ho hd k o' hk' hd'
   subst this
   rw [hlist,ho] at hk'
   simp at hk'
   subst hk'
   rw [hna] at hao; simp at hao)]
  exact ht.2 u
 ·rw [e1] at hid
  refine ⟨?_,rfl⟩
  obtain ⟨d',id',z,g1,_,g3,_,g5,_⟩:=hp.new k o (by rw [hlist]; exact ho) ha (fun k' o' hk' hd'=>huniq k o d ho hd k' o' hk' (by rw [hd',hd]))
  rw [hd] at g1; simp at g1; subst g1
  rw [hid] at g3; simp at g3; subst g3
  exact hi.loc_none g5
theorem zrt {mg:Bool} {id:Nat} {ops:Array Oper} {t:List AV} {H:List Ob} {K:List AV→List Ob→Prop} (h:mOps P mg ops (ops.size + 1) false 0 ops.toList [] t H K) {Q:Exit→Act→World→Prop} {a:Act} {w:World} {G:Gh} (hi:Inv w G H) (ht:RepTm G t a.tmps)
  (hq:∀ (a':Act) (w':World) (G':Gh) (t':List AV) (H':List Ob),K t' H'→Inv w' G' H'→RepTm G' t' a'.tmps→a'.defers=a.defers→Kept ops a a'→Step w G w' G'→Q .normal a' w'):(Code.region id ops false).wp P Q a w:=by
 refine wp_region ?_
 have:=zip (P:=P) (ops:=ops) (Q:=Q) _ false 0 ops.toList [] t H K (fun j _=>by simp) h [] a w G hi ht (fun a' w' G' t' H' hk hi' ht' hd hkp hs=>hq a' w' G' t' H' hk hi' ht' hd (hkp.kept (fun o ho=>?_)) hs)
 ·rw [List.range_eq_range']
  simpa using this
 ·obtain ⟨k,hk⟩:=List.getElem?_of_mem ho
  exact ⟨k,by simpa using hk⟩
theorem zdN (hm:P.follows .mixedOrders=true) {id:Nat} {ops:Array Oper} {draw:Bool} {t:List AV} {H:List Ob} {K:List AV→List Ob→Prop} (h:zad P ops draw t H K) {Q:Exit→Act→World→Prop} {a:Act} {w:World} {G:Gh} (hi:Inv w G H) (ht:RepTm G t a.tmps)
  (hq:∀ (a':Act) (w':World) (G':Gh) (t':List AV) (H':List Ob),K t' H'→Inv w' G' H'→RepTm G' t' a'.tmps→a'.defers=a.defers→Kept ops a a'→Step w G w' G'→Q .normal a' w'):(Code.region id ops draw).wp P Q a w:=by
 cases draw with
 | false =>
  exact zrt h hi ht hq
 | true =>
  simp only [zad] at h
  split at h
  ·rename_i hok
   exact wp_region_any hm (ztF hok h hi ht hq)
  ·exact h.elim
end Go.Abs
end

section
/- A drawn region whose last operation waits for all others: it may be taken by itself, behind them. -/
namespace Go.Abs
variable {P:Program}
def zFJ (ops:Array Oper):Bool :=
 match ops[ops.size - 1]? with
 | some o=>decide (0 < ops.size) && o.guard.isNone && ops.toList.all (fun o=>match o.guard with | some (j,_)=>decide (j < ops.size - 1) | none=>true) && o.after.toList.all (fun e=>!Region.binds .any e || decide (e.on < ops.size - 1)) && (List.range (ops.size - 1)).all (fun i=>((masks ops.toList []).getD (ops.size - 1) []).contains i)
 | none=>false
def zoK (P:Program):Nat→Array Oper→List AV→List Ob→(List AV→List Ob→Prop)→Prop
 | 0,ops,t,H,K=>match zdA ops with
  | true=>zkQ P ops.toList t H fun t1 H1=>aOps P true ops ops.toList [] t1 H1 K
  | false=>False
 | n + 1,ops,t,H,K=>match zFJ ops && zdA ops.pop with
  | true=>zoK P n ops.pop t H fun t2 H2=>match ops[ops.size - 1]? with
   | some o=>aExec P false o t2 H2 K
   | none=>False
  | false=>False
theorem zE3 {o:Oper} {a:Act} {w:World} {K K':Act→World→Prop} {Q Q':Exit→Act→World→Prop} (h:∀ a w,K a w→K' a w) (hQ:∀ e a w,Q e a w→e≠.normal→Q' e a w)
  (hh:o.wp P a w K Q):o.wp P a w K' Q':=by
 unfold Oper.wp at *
 generalize (execOp a.eval o).run P w=r at *
 have hl:LetsOut Q→LetsOut Q':=fun ⟨a,w,h⟩=>⟨a,w,hQ _ a w h (by simp)⟩
 cases r with
 | ok n w' =>
  cases n <;> simp only [Oper.upon] at hh ⊢ <;>
   first
    | exact h _ _ hh
    | exact Calls.mono hh (fun e w'' he=>by cases e <;> first | exact h _ _ he | exact hQ _ _ _ he (by simp) | exact hl he)
    | exact Rows.mono hh (fun _ _ he=>h _ _ he)
 | halt x w'=>cases x <;> simp only [Oper.upon] at hh ⊢ <;> first | exact hh | exact hQ _ _ _ hh (by simp)
theorem zzl {ops ops':Array Oper} {i:Nat} {a:Act} {w:World} {K K':Act→World→Prop} {Q Q':Exit→Act→World→Prop} (ho:ops[i]? = ops'[i]?) (hy:∀ o j want,ops[i]? = some o→o.guard=some (j,want)→ops[j]? = ops'[j]?)
  (h:∀ a w,K a w→K' a w) (hQ:∀ e a w,Q e a w→e≠.normal→Q' e a w) (hh:wpOp P ops Q i K a w):wpOp P ops' Q' i K' a w:=by
 unfold wpOp at *
 rw [← ho]
 cases hi:ops[i]? with
 | none=>simp only [hi] at hh ⊢; exact h _ _ hh
 | some o =>
  simp only [hi] at hh ⊢
  have hw:Region.wanted o (yielded ops' a.tmps)=Region.wanted o (yielded ops a.tmps):=by
   unfold Region.wanted
   cases hg:o.guard with
   | none=>rfl
   | some g =>
    obtain ⟨j,want⟩:=g
    have:=hy o j want hi hg
    simp only [yielded,this]
  rw [hw]
  split
  ·rename_i hc
   simp only [hc,if_true] at hh
   exact hh.imp (zE3 h hQ) (fun ⟨h1,a,w,h2⟩=>⟨h1,a,w,hQ _ _ _ h2 (by simp)⟩)
  ·rename_i hc
   simp only [hc] at hh
   exact h _ _ hh
theorem znB {α:Type} {ops:Array α} {m i:Nat} (hs:ops.size=m + 1) (hi:i < m):ops.pop[i]? = ops[i]?:=by
 rw [Array.getElem?_pop]
 rw [if_pos (by omega)]
theorem zqA {listed:Array Bool} {i:Nat}:(listed.push false).getD i false=listed.getD i false:=by
 simp only [Array.getD_eq_getD_getElem?,Array.getElem?_push]
 split
 ·rename_i h
  subst h
  simp
 ·rfl
theorem zzb {listed:Array Bool} {i:Nat} (h:i < listed.size):(listed.push false).getD i true=listed.getD i true:=by
 simp only [Array.getD_eq_getD_getElem?,Array.getElem?_push]
 rw [if_neg (by omega)]
theorem zsg {ops:Array Oper} {m i:Nat} (hs:ops.size=m + 1) {listed:Array Bool} (hn:listed.size=m) (hi:i < m):i∈Region.ready .any ops (listed.push false)↔i∈Region.ready .any ops.pop listed:=by
 rw [mem_ready,mem_ready,zzb (by omega),znB hs hi]
 simp only [zqA]
theorem zpN {ops:Array Oper} {listed:Array Bool} {i:Nat} (h:i∈Region.ready .any ops listed):i < ops.size:=by
 rw [mem_ready] at h
 obtain ⟨_,o,ho,_⟩:=h
 exact (Array.getElem?_eq_some_iff.1 ho).1
theorem zE7 {ops:Array Oper} {m:Nat} (hs:ops.size=m + 1) (hok:zdA ops.pop=true) {o:Oper} (ho:ops[m]? = some o) (hafter:∀ e∈o.after,Region.binds .any e=true→e.on < m)
  (hlast:∀ i,i < m→i∈(masks ops.toList []).getD m []) (hgd:∀ (i:Nat) (o:Oper) (j:Nat) (want:Bool),ops[i]? = some o→o.guard=some (j,want)→j < m) {Q:Exit→Act→World→Prop} :
  ∀ (fuel:Nat) (listed:Array Bool) (a:Act) (w:World),listed.size=m→ztC ops.pop (fun j=>listed.getD j false=true)→left m listed≤fuel →
   wpAny P .any ops.pop (fun e a w=>e=.normal∧wpOp P ops Q m (fun a w=>Q .normal a w) a w) fuel listed a w→wpAny P .any ops Q (fuel + 1) (listed.push false) a w:=by
 have hps:ops.pop.size=m:=by simp [hs]
 have mready:∀ (listed:Array Bool),listed.size=m→(∀ i,i < m→listed.getD i false=true)→m∈Region.ready .any ops (listed.push false):=by
  intro listed hn hall
  rw [mem_ready]
  refine ⟨by subst hn; simp,o,ho,fun e he hb=>?_⟩
  rw [zqA]
  exact hall _ (hafter e he hb)
 have nready:∀ (listed:Array Bool),listed.size=m→(∀ i,i < m→listed.getD i false=true)→Region.ready .any ops ((listed.push false).setIfInBounds m true)=[]:=by
  intro listed hn hall
  cases hr:Region.ready .any ops ((listed.push false).setIfInBounds m true) with
  | nil=>rfl
  | cons j r =>
   exfalso
   have hj:j∈Region.ready .any ops ((listed.push false).setIfInBounds m true):=by rw [hr]; simp
   have hlt:=zpN hj
   rw [mem_ready] at hj
   have h0:=hj.1
   by_cases hjm:m=j
   ·subst hjm
    simp [hn] at h0
   ·have h1:=hall j (by omega)
    have h2:j < listed.size:=by omega
    have h3:¬ j=listed.size:=by omega
    simp only [Array.getD_eq_getD_getElem?,Array.getElem?_setIfInBounds_ne hjm,Array.getElem?_push,if_neg h3,Array.getElem?_eq_getElem h2] at h0 h1
    simp at h0 h1
    rw [h1] at h0; simp at h0
 have lastStep:∀ (listed:Array Bool) (a:Act) (w:World),listed.size=m→(∀ i,i < m→listed.getD i false=true)→wpOp P ops Q m (fun a w=>Q .normal a w) a w→∀ f,wpOp P ops Q m (wpAny P .any ops Q f ((listed.push false).setIfInBounds m true)) a w:=by
  intro listed a w hn hall hw f
  refine wpOp_mono (fun a w hq=>?_) hw
  have hr:=nready listed hn hall
  cases f with
  | zero=>exact ⟨hr,hq⟩
  | succ f=>exact ⟨fun _=>hq,fun i hi=>by rw [hr] at hi; simp at hi⟩
 have lastAll:∀ (listed:Array Bool),listed.size=m→ztC ops.pop (fun j=>listed.getD j false=true)→m∈Region.ready .any ops (listed.push false)→∀ i,i < m→listed.getD i false=true:=by
  intro listed hn hcl hm i hi
  rw [mem_ready] at hm
  obtain ⟨_,o',ho',hp⟩:=hm
  rw [ho] at ho'; simp at ho'; subst ho'
  have hS:ztC ops (fun j=>(listed.push false).getD j false=true):=by
   intro j o1 hj ho1 e he hb
   simp only [zqA] at hj ⊢
   have hjm:j < m:=by
    rcases Nat.lt_or_ge j m with h | h
    ·exact h
    ·rw [Array.getD_eq_getD_getElem?,Array.getElem?_eq_none (by omega)] at hj; simp at hj
   exact hcl j o1 hj (by rw [znB hs hjm]; exact ho1) e he hb
  have:=zkk hS ho hp (hlast i hi)
  rwa [zqA] at this
 have allOf:∀ (listed:Array Bool),listed.size=m→left m listed≤0→∀ i,i < m→listed.getD i false=true:=fun listed hn hl=>zy5 (Nat.le_zero.1 hl)
 have noneIn:∀ (listed:Array Bool),listed.size=m→(∀ i,i < m→listed.getD i false=true)→∀ i,i < m→i ∉ Region.ready .any ops (listed.push false):=by
  intro listed hn hall i hi hm
  rw [mem_ready,zzb (by omega)] at hm
  have h1:=hall i hi
  have h2:i < listed.size:=by omega
  have h0:=hm.1
  simp only [Array.getD_eq_getD_getElem?,Array.getElem?_eq_getElem h2] at h0 h1
  simp at h0 h1
  rw [h1] at h0; simp at h0
 have hyp:∀ i,i < m→∀ (o1:Oper) (j:Nat) (want:Bool),ops.pop[i]? = some o1→o1.guard=some (j,want)→j < m→ops.pop[j]? = ops[j]?:=fun i hi o1 j want _ _ hj=>znB hs hj
 intro fuel
 induction fuel with
 | zero =>
  intro listed a w hn hcl hl h
  have hall:=allOf listed hn hl
  obtain ⟨_,_,hw⟩:=h
  refine ⟨fun hr=>?_,fun i hi=>?_⟩
  ·have:=mready listed hn hall
   rw [hr] at this; simp at this
  ·have hlt:=zpN hi
   rcases Nat.lt_or_ge i m with him | him
   ·exact absurd hi (noneIn listed hn hall i him)
   ·have:i=m:=by omega
    subst this
    exact lastStep listed a w hn hall hw 0
 | succ fuel ih =>
  intro listed a w hn hcl hl h
  obtain ⟨hnil,hstep⟩:=h
  refine ⟨fun hr=>?_,fun i hi=>?_⟩
  ·have hr2:Region.ready .any ops.pop listed=[]:=by
    cases hr2:Region.ready .any ops.pop listed with
    | nil=>rfl
    | cons j r =>
     have hj:j∈Region.ready .any ops.pop listed:=by rw [hr2]; simp
     have hlt:=zpN hj
     rw [← zsg hs hn (by omega),hr] at hj
     simp at hj
   have hall:=zvP hok (by rw [hn,hps]) hr2
   rw [hps] at hall
   have:=mready listed hn hall
   rw [hr] at this; simp at this
  ·have hlt:=zpN hi
   rcases Nat.lt_or_ge i m with him | him
   ·have hi':=(zsg hs hn him).1 hi
    have hh:=hstep i hi'
    have hun:listed.getD i false=false:=by
     rw [mem_ready] at hi'
     have h0:=hi'.1
     have h2:i < listed.size:=by omega
     simp only [Array.getD_eq_getD_getElem?,Array.getElem?_eq_getElem h2] at h0 ⊢
     simpa using h0
    refine zzl (znB hs him) (fun o1 j want h1 h2=>?_) (fun a' w' hk=>?_) (fun e a w he hne=>absurd he.1 hne) hh
    ·rcases Nat.lt_or_ge j m with hj | hj
     ·exact znB hs hj
     ·rw [znB hs him] at h1
      have:=hgd i o1 j want h1 h2
      omega
    ·have e:(listed.push false).setIfInBounds i true=(listed.setIfInBounds i true).push false:=by
      apply Array.ext_getElem?
      intro j
      rw [Array.getElem?_setIfInBounds]
      simp only [Array.getElem?_push,Array.size_setIfInBounds,Array.size_push]
      rw [Array.getElem?_setIfInBounds]
      by_cases h1:i=j
      ·subst h1
       rw [if_pos rfl,if_pos rfl,if_pos (by omega),if_neg (by omega),if_pos (by omega)]
      ·rw [if_neg h1,if_neg h1]
     rw [e]
     refine ih (listed.setIfInBounds i true) a' w' (by simp [hn]) (fun k o1 hk' ho1 e' he hb=>?_) ?_ hk
     ·by_cases hki:i=k
      ·subst hki
       have:=mem_ready.1 hi'
       obtain ⟨_,o2,ho2,hp2⟩:=this
       rw [ho1] at ho2; simp at ho2; subst ho2
       exact getD_set_true (hp2 e' he hb)
      ·simp only [getD_set_ne false hki] at hk'
       exact getD_set_true (hcl k o1 hk' ho1 e' he hb)
     ·have:=zBw him hn hun
      omega
   ·have:i=m:=by omega
    subst this
    have hall:=lastAll listed hn hcl hi
    have hr2:Region.ready .any ops.pop listed=[]:=by
     cases hr2:Region.ready .any ops.pop listed with
     | nil=>rfl
     | cons j r =>
      exfalso
      have hj:j∈Region.ready .any ops.pop listed:=by rw [hr2]; simp
      have hlt2:=zpN hj
      exact noneIn listed hn hall j (by omega) ((zsg hs hn (by omega)).2 hj)
    exact lastStep listed a w hn hall (hnil hr2).2 _
theorem zvQ {t:List AV} {H:List Ob} {Q:Exit→Act→World→Prop} {a:Act} {w:World} {G:Gh}:∀ (n:Nat) (ops:Array Oper) {K:List AV→List Ob→Prop},zoK P n ops t H K→Inv w G H→RepTm G t a.tmps →
  (∀ (a':Act) (w':World) (G':Gh) (t':List AV) (H':List Ob),K t' H'→Inv w' G' H'→RepTm G' t' a'.tmps→a'.defers=a.defers→Kept ops a a'→Step w G w' G'→Q .normal a' w') →
  wpAny P .any ops Q ops.size (Array.replicate ops.size false) a { w with drawn:=w.drawn + 1 }
 | 0,ops,K,h,hi,ht,hq=>by
  simp only [zoK] at h
  split at h
  ·rename_i hok
   exact ztF hok h hi ht hq
  ·exact h.elim
 | n + 1,ops,K,h,hi,ht,hq=>by
  simp only [zoK] at h
  split at h
  ·rename_i hok
   simp only [Bool.and_eq_true] at hok
   obtain ⟨hlo,hok⟩:=hok
   unfold zFJ at hlo
   split at hlo
   ·rename_i o ho
    simp only [Bool.and_eq_true,decide_eq_true_eq] at hlo
    obtain ⟨⟨⟨⟨hpos,hgn⟩,hgs⟩,haf⟩,hms⟩:=hlo
    obtain ⟨m,hs⟩:∃ m,ops.size=m + 1:=⟨ops.size - 1,by omega⟩
    have hm1:ops.size - 1=m:=by omega
    rw [hm1] at ho haf hms hgs h
    simp only [ho] at h
    have hafter:∀ e∈o.after,Region.binds .any e=true→e.on < m:=by
     intro e he hb
     rw [List.all_eq_true] at haf
     have:=haf e (by simpa using he)
     simpa [hb] using this
    have hlast:∀ i,i < m→i∈(masks ops.toList []).getD m []:=by
     intro i hi
     rw [List.all_eq_true] at hms
     have:=hms i (by simpa using hi)
     simpa using this
    have hgd:∀ (i:Nat) (o:Oper) (j:Nat) (want:Bool),ops[i]? = some o→o.guard=some (j,want)→j < m:=by
     intro i o1 j want h1 h2
     rw [List.all_eq_true] at hgs
     have:=hgs o1 (by simpa using Array.mem_of_getElem? h1)
     simpa [h2] using this
    have hkeep:∀ {a a':Act},Kept ops.pop a a'→Kept ops a a':=by
     intro a a' hk
     refine ⟨fun u hu=>hk.1 u (fun k o1 h1=>?_),hk.2⟩
     have hlt:=(Array.getElem?_eq_some_iff.1 h1).1
     simp [hs] at hlt
     exact hu k o1 (by rw [← znB hs hlt]; exact h1)
    have e:Array.replicate ops.size false=(Array.replicate m false).push false:=by rw [hs,Array.replicate_succ]
    rw [e,hs]
    refine zE7 hs hok ho hafter hlast hgd m (Array.replicate m false) a _ (by simp) (fun j o1 hj=>?_) ?_ ?_
    ·simp only [] at hj
     by_cases hlt:j < m <;> simp [hlt] at hj
    ·unfold left
     have:=List.length_filter_le (fun i=>!(Array.replicate m false).getD i false) (List.range m)
     simpa using this
    ·have hps:ops.pop.size=m:=by simp [hs]
     have:=zvQ (Q:=fun e a w=>e=.normal∧wpOp P ops Q m (fun a w=>Q .normal a w) a w) n ops.pop h hi ht (fun a1 w1 G1 t1 H1 hk hi1 ht1 hd1 hkp1 hs1=>⟨rfl, ?_⟩)
     ·rw [hps] at this; exact this
     ·have h0:aOp P false (rho t1) o.op H1 fun v H'=>K (setD t1 o.dst v) H':=by
       have:=hk
       simp only [aExec,Bool.false_and,zbm] at this
       exact this
      obtain ⟨v,H',h1,h2⟩:=zkl h0 hi1 (fun x _=>ht1.rho x)
      unfold wpOp
      simp only [ho]
      have hw:Region.wanted o (yielded ops a1.tmps)=true:=by
       unfold Region.wanted
       cases hg:o.guard with
       | none=>rfl
       | some g=>rw [hg] at hgn; simp at hgn
      rw [if_pos hw]
      refine .inl (h2 a1 w1 G1 hi1 (fun x _=>ht1.rho x) _ _ (fun v' w' G' hr' hi' hs'=>?_))
      exact hq _ w' G' _ H' h1 hi' ((ht1.mono hs'.grow).put o.dst hr') (by rw [zgI]; exact hd1) ((hkeep hkp1).trans (Kept.put a1 ho v')) (hs1.trans hs')
   ·simp at hlo
  ·exact h.elim
end Go.Abs
end

section
/- A drawn region, order by order: what no other operation touches is taken first; else each that may come next. -/
namespace Go.Abs
variable {P:Program}
def takes:Op→Bool
 | .move _=>true
 | .assign _=>true
 | .nilCheck _=>true
 | .fieldAddr _ _ _=>true
 | .indexAddr _ _ _=>true
 | .extract _ _=>true
 | .call { callee:=.builtin .len,.. }=>true
 | _=>false
def zB3 (ops:Array Oper) (listed:Array Bool) (i:Nat):Bool :=
 match ops[i]? with
 | some o=>o.guard.isNone && (takes o.op && Region.free .any ops listed i)
 | none=>false
def allL:List Nat→(Nat→Prop)→Prop
 | [],_=>True
 | [i],f=>f i
 | i::j::r,f=>f i∧allL (j::r) f
def aNext (P:Program) (ops:Array Oper) (i:Nat) (t:List AV) (H:List Ob) (K:List AV→List Ob→Prop):Prop :=
 match ops[i]? with
 | some o=>match o.guard with
  | none=>aExec P false o t H K
  | some (j,want)=>match gdst ops j with
   | some d=>aGd [] t d want (fun t=>aExec P false o t H K) (fun t=>zbi (setD t o.dst skp) fun t=>K t H)
   | none=>False
 | none=>False
def aAny (P:Program) (ops:Array Oper):Nat→Array Bool→List AV→List Ob→(List AV→List Ob→Prop)→Prop
 | 0,listed,t,H,K=>match Region.ready .any ops listed with
  | []=>K t H
  | _::_=>False
 | f + 1,listed,t,H,K=>match Region.ready .any ops listed with
  | []=>K t H
  | r=>match r.find? (zB3 ops listed) with
   | some i=>match ops[i]? with
    | some o=>aP P true (rho t) o.op fun v=>zbi (setD t o.dst v) fun t'=>aAny P ops f (listed.setIfInBounds i true) t' H K
    | none=>False
   | none=>allL r fun i=>aNext P ops i t H fun t' H'=>aAny P ops f (listed.setIfInBounds i true) t' H' K
def zBQ (ops:Array Oper):Bool:=Region.noSelect ops
def aAnyR (P:Program) (ops:Array Oper) (t:List AV) (H:List Ob) (K:List AV→List Ob→Prop):Prop :=
 match zBQ ops with
 | true=>aAny P ops ops.size (Array.replicate ops.size false) t H K
 | false=>False
def zsB (P:Program) (flag:List Nat) (ops:Array Oper) (draw:Bool) (t:List AV) (H:List Ob) (K:List AV→List Ob→Prop):Prop :=
 match flag with
 | []=>zad P ops draw t H K
 | n::_=>match draw with
  | false=>mOps P false ops (ops.size + 1) false 0 ops.toList [] t H K
  | true=>match Nat.ble 1000 n with
   | true=>aAnyR P ops t H K
   | false=>zoK P n ops t H K
theorem zAO {f:Nat→Prop}:∀ {l:List Nat},allL l f→∀ i∈l,f i
 | [],_,i,hi=>by simp at hi
 | [j],h,i,hi=>by simp at hi; subst hi; exact h
 | j::k::r,h,i,hi=>by
  rcases List.mem_cons.1 hi with rfl | hi
  ·exact h.1
  ·exact zAO h.2 i hi
theorem zB2 {o:Oper} (ht:takes o.op=true) {ρ:Operand→AV} {K:AV→Prop} (h:aP P true ρ o.op K) {a:Act} {G:Gh} (hx:∀ x∈o.op.operands,RepA G (ρ x) (a.eval x)) :
  ∃ r,K r ∧ ∃ v,(∀ w,(execOp a.eval o).run P w=.ok (.value v) w)∧RepA G r v:=by
 obtain ⟨op,hop⟩:∃ op,o.op=op:=⟨_,rfl⟩
 have mem:∀ x,x∈op.operands→x∈o.op.operands:=fun x hx=>hop ▸ hx
 rw [hop] at h ht
 cases op with
 | move x =>
  refine ⟨_,h,a.eval x,fun w=>?_,hx x (mem x (by simp [Op.operands]))⟩
  unfold execOp; rw [hop]; rfl
 | assign x =>
  refine ⟨_,h,a.eval x,fun w=>?_,hx x (mem x (by simp [Op.operands]))⟩
  unfold execOp; rw [hop]; rfl
 | nilCheck x =>
  have rx:=hx x (mem x (by simp [Op.operands]))
  have key:((∃ ad,a.eval x=.pointer (some ad)) ∨ ∃ g fs vs,a.eval x=.func (.func g) fs vs)→∃ v,(∀ w,(execOp a.eval o).run P w=.ok (.value v) w)∧RepA G (ρ x) v:=by
   intro hv
   refine ⟨a.eval x,fun w=>?_,rx⟩
   unfold execOp; rw [hop]
   rcases hv with ⟨ad,ev⟩ | ⟨g,fs,vs,ev⟩ <;> simp only [ev] <;> rfl
  simp only [aP,zbz] at h
  split at h <;> (try exact h.elim)
  all_goals
   rename_i hb
   refine ⟨_,h, ?_⟩
   refine key ?_
   rw [hb] at rx
   generalize a.eval x=v at rx
   first
    | (cases rx; first | exact .inl ⟨_,rfl⟩ | exact .inr ⟨_,_,_,rfl⟩)
    | (have rx:=zbp.1 rx; cases rx; first | exact .inl ⟨_,rfl⟩ | exact .inr ⟨_,_,_,rfl⟩)
 | fieldAddr s x f =>
  simp only [aP] at h
  split at h
  ·rename_i fs hs
   split at h
   ·rename_i fl hf
    split at h
    ·rename_i i hi
     split at h
     ·exact h.elim
     ·rename_i hz
      obtain ⟨r,hk,hr⟩:=zrp hs hf hi (by simpa using hz) h
      obtain ⟨v,h1,h2⟩:=hr G _ (hx x (mem x (by simp [Op.operands])))
      refine ⟨r,hk,v,fun w=>?_,h2⟩
      unfold execOp; rw [hop]
      simp only [Sem.run_bind,Result.andThen,h1]; rfl
    ·exact h.elim
   ·exact h.elim
  ·exact h.elim
 | indexAddr t x ix =>
  simp only [aP] at h
  split at h
  ·rename_i e ht
   split at h
   ·rename_i j hj
    obtain ⟨r,hk,hr⟩:=zrq ht hj h
    obtain ⟨v,h1,h2⟩:=hr G _ _ (hx x (mem x (by simp [Op.operands]))) (hx ix (mem ix (by simp [Op.operands])))
    refine ⟨r,hk,v,fun w=>?_,h2⟩
    unfold execOp; rw [hop]
    simp only [Sem.run_bind,Result.andThen,h1]; rfl
   ·exact h.elim
  ·exact h.elim
 | extract x i =>
  obtain ⟨r,hk,hr⟩:=zro (P:=P) h
  obtain ⟨v,h1,h2⟩:=hr G _ (hx x (mem x (by simp [Op.operands])))
  refine ⟨r,hk,v,fun w=>?_,h2⟩
  unfold execOp; rw [hop]
  simp only [Sem.run_bind,Result.andThen,h1]; rfl
 | call c =>
  obtain ⟨callee,args,argTypes⟩:=c
  cases callee with
  | value f=>simp [takes] at ht
  | invoke r m=>simp [takes] at ht
  | builtin b =>
   cases b <;> try (simp [takes] at ht; done)
   simp only [aP] at h
   split at h
   ·rename_i x t hx0 ht0
    have ea:args = #[x]:=by apply Array.ext'; simpa using hx0
    have et:argTypes = #[t]:=by apply Array.ext'; simpa using ht0
    subst ea et
    have rest:(∃ r,(true=true→K r) ∧ ∀ (G:Gh) (vx:Value),RepA G (ρ x) vx→K r ∧ ∃ v,(∀ w:World,(Builtin.len_ #[t] o.type #[vx]).run P w=.ok v w)∧RepA G r v) →
      ∃ r,K r ∧ ∃ v,(∀ w,(execOp a.eval o).run P w=.ok (.value v) w)∧RepA G r v:=by
     rintro ⟨r,h1,h2⟩
     obtain ⟨_,v,h3,h4⟩:=h2 G _ (hx x (mem x (by simp [Op.operands,Call.operands])))
     refine ⟨r,h1 rfl,v,fun w=>?_,h4⟩
     unfold execOp; rw [hop]
     simp only [resolve,Sem.run_bind,Sem.run_pure,Result.andThen,invoke,builtin]
     have:(#[x]:Array Operand).map a.eval = #[a.eval x]:=by simp
     rw [this,h3]
    split at h
    ·rename_i ht; exact rest (zrr ht h)
    ·rename_i e ht; exact rest (zs5 ht h)
    ·exact h.elim
   ·exact h.elim
 | _=>simp [takes] at ht
theorem zsx {ops:Array Oper} {Q Q':Exit→Act→World→Prop} (hn:∀ a w,Q .normal a w→Q' .normal a w) (hQ:∀ e a w,Q e a w→e≠.normal→Q' e a w):∀ (fuel:Nat) (listed:Array Bool) (a:Act) (w:World),
  wpAny P .any ops Q fuel listed a w→wpAny P .any ops Q' fuel listed a w
 | 0,_,_,_,h=>⟨h.1,hn _ _ h.2⟩
 | fuel + 1,_,_,_,h=>⟨fun hr=>hn _ _ (h.1 hr),fun i hi=>zzl rfl (fun _ _ _ _ _=>rfl) (fun a w hk=>zsx hn hQ fuel _ a w hk) hQ (h.2 i hi)⟩
theorem zvI {ops:Array Oper} (hp:zBQ ops=true) {Q:Exit→Act→World→Prop}:∀ (fuel:Nat) (listed:Array Bool) (t:List AV) (H:List Ob) (K:List AV→List Ob→Prop),aAny P ops fuel listed t H K →
  ∀ (a:Act) (w:World) (G:Gh),Inv w G H→RepTm G t a.tmps →
  (∀ (a':Act) (w':World) (G':Gh) (t':List AV) (H':List Ob),K t' H'→Inv w' G' H'→RepTm G' t' a'.tmps→a'.defers=a.defers→Kept ops a a'→Step w G w' G'→Q .normal a' w') →
  wpAny P .any ops (fun e a w=>e=.normal∧Q .normal a w) fuel listed a w:=by
 have hns:Region.noSelect ops=true:=hp
 have wanted:∀ (o:Oper) (a:Act),o.guard=none→Region.wanted o (yielded ops a.tmps)=true:=by
  intro o a ho
  simp [Region.wanted,ho]
 intro fuel
 induction fuel with
 | zero =>
  intro listed t H K h a w G hi ht hq
  simp only [aAny] at h
  split at h
  ·rename_i hr
   exact ⟨hr,rfl,hq a w G t H h hi ht rfl (.refl _ _) (.refl w G)⟩
  ·exact h.elim
 | succ fuel ih =>
  intro listed t H K h a w G hi ht hq
  simp only [aAny] at h
  split at h
  ·rename_i hr
   exact wpAny_done hr ⟨rfl,hq a w G t H h hi ht rfl (.refl _ _) (.refl w G)⟩ _
  ·rename_i hne
   have goOn:∀ (i:Nat) (o:Oper) (v:Value) (r:AV) (w':World) (G':Gh) (H':List Ob),ops[i]? = some o→RepA G' r v→Inv w' G' H'→Step w G w' G'→aAny P ops fuel (listed.setIfInBounds i true) (setD t o.dst r) H' K →
     wpAny P .any ops (fun e a w=>e=.normal∧Q .normal a w) fuel (listed.setIfInBounds i true) (a.put o.dst v) w':=by
    intro i o v r w' G' H' ho hr hi' hs hk
    refine ih _ _ _ _ hk (a.put o.dst v) w' G' hi' ((ht.mono hs.grow).put o.dst hr) (fun a2 w2 G2 t2 H2 hk2 hi2 ht2 hd2 hkp2 hs2=>?_)
    exact hq a2 w2 G2 t2 H2 hk2 hi2 ht2 (by rw [hd2,zgI]) ((Kept.put a ho v).trans hkp2) (hs.trans hs2)
   split at h
   ·rename_i i hf
    have hmem:=List.mem_of_find?_eq_some hf
    have htk:=List.find?_some hf
    split at h
    ·rename_i o ho
     simp only [zB3,ho,Bool.and_eq_true] at htk
     obtain ⟨r,hk,v,hv,hr⟩:=zB2 htk.2.1 h (a:=a) (G:=G) (fun x _=>ht.rho x)
     rw [zbm] at hk
     refine wpAny_take (v:=v) ho hns htk.2.2 (by simpa using hmem) (fun c a w hc=>absurd hc.1 (by simp)) (.inl ⟨wanted o a (by simpa using htk.1),hv⟩) ?_
     exact goOn i o v r w G H ho hr hi (.refl w G) hk
    ·exact h.elim
   ·rename_i hf
    refine ⟨fun hr=>absurd hr hne,fun i hi2=>?_⟩
    have hh:=zAO h i hi2
    unfold aNext at hh
    split at hh
    ·rename_i o ho
     have exec:∀ t,RepTm G t a.tmps→(aExec P false o t H fun t' H'=>aAny P ops fuel (listed.setIfInBounds i true) t' H' K)→o.wp P a w (wpAny P .any ops (fun e a w=>e=.normal∧Q .normal a w) fuel (listed.setIfInBounds i true)) (fun e a w=>e=.normal∧Q .normal a w):=by
      intro t ht this
      have h0:aOp P false (rho t) o.op H fun v H'=>aAny P ops fuel (listed.setIfInBounds i true) (setD t o.dst v) H' K:=by
       simp only [aExec,Bool.false_and,zbm] at this
       exact this
      obtain ⟨v,H',h1,h2⟩:=zkl h0 hi (fun x _=>ht.rho x)
      refine h2 a w G hi (fun x _=>ht.rho x) _ _ (fun v' w' G' hr' hi' hs'=>?_)
      refine ih _ _ _ _ h1 (a.put o.dst v') w' G' hi' ((ht.mono hs'.grow).put o.dst hr') (fun a2 w2 G2 t2 H2 hk2 hi2 ht2 hd2 hkp2 hs2=>?_)
      exact hq a2 w2 G2 t2 H2 hk2 hi2 ht2 (by rw [hd2,zgI]) ((Kept.put a ho v').trans hkp2) (hs'.trans hs2)
     unfold wpOp
     simp only [ho]
     cases hg:o.guard with
     | none =>
      simp only [hg] at hh
      rw [if_pos (wanted o a hg)]
      exact .inl (exec t ht hh)
     | some g =>
      obtain ⟨j,want⟩:=g
      simp only [hg] at hh
      cases hd:gdst ops j with
      | none=>simp [hd] at hh
      | some d =>
       simp only [hd,zbm] at hh
       rcases zt3 hh with ⟨hb,h'⟩ | ⟨b,hb,h'⟩
       ·have hy:yielded ops a.tmps j=none:=zqj hd (by have r:=ht.2 d; rw [hb] at r; exact zgi.1 r)
        have hw:Region.wanted o (yielded ops a.tmps)=false:=by simp [Region.wanted,hg,hy]
        simp only [hw,Bool.false_eq_true,if_false]
        exact goOn i o undef skp w G H ho (zgi.2 rfl) hi (.refl w G) h'
       ·have hy:=znQ hd ht hb
        have hw:Region.wanted o (yielded ops a.tmps)=(b == want):=by simp [Region.wanted,hg,hy]
        rw [hw]
        split
        ·rename_i e
         rw [if_pos e] at h'
         exact .inl (exec t ht h')
        ·rename_i e
         rw [if_neg e] at h'
         exact goOn i o undef skp w G H ho (zgi.2 rfl) hi (.refl w G) h'
    ·exact hh.elim
theorem zyG (hm:P.follows .mixedOrders=true) {id:Nat} {flag:List Nat} {ops:Array Oper} {draw:Bool} {t:List AV} {H:List Ob} {K:List AV→List Ob→Prop} (h:zsB P flag ops draw t H K) {Q:Exit→Act→World→Prop} {a:Act} {w:World} {G:Gh} (hi:Inv w G H) (ht:RepTm G t a.tmps)
  (hq:∀ (a':Act) (w':World) (G':Gh) (t':List AV) (H':List Ob),K t' H'→Inv w' G' H'→RepTm G' t' a'.tmps→a'.defers=a.defers→Kept ops a a'→Step w G w' G'→Q .normal a' w'):(Code.region id ops draw).wp P Q a w:=by
 cases flag with
 | nil=>exact zdN hm h hi ht hq
 | cons n r =>
  cases draw with
  | false=>exact zrt h hi ht hq
  | true =>
   simp only [zsB] at h
   split at h
   ·unfold aAnyR at h
    split at h
    ·rename_i hp
     have hi':Inv { w with drawn:=w.drawn + 1 } G H:=zs0 (w':={ w with drawn:=w.drawn + 1 }) hi rfl
     have hst0:Step w G { w with drawn:=w.drawn + 1 } G:=zus ⟨rfl,rfl,rfl,Nat.le_succ _⟩ rfl
     refine wp_region_any hm (zsx (fun a w h=>h.2) (fun e a w h hne=>absurd h.1 hne) _ _ _ _ (zvI (Q:=Q) hp _ _ _ _ _ h a _ G hi' ht (fun a' w' G' t' H' hk hi2 ht2 hd2 hkp hs=>?_)))
     exact hq a' w' G' t' H' hk hi2 ht2 hd2 hkp (hst0.trans hs)
    ·exact h.elim
   ·exact wp_region_any hm (zvQ n ops h hi ht hq)
end Go.Abs
end

section
/- Code: what a body does, as a proposition over trees; and that the model does it. -/
namespace Go.Abs
variable {P:Program}
inductive AExit where
 | normal
 | exit (id:Nat)
 | ret
def key:Code→Option Nat
 | .region id _ _=>some id
 | .seq a b=>match key a with
  | some i=>some i
  | none=>key b
 | .cond _ a b=>match key a with
  | some i=>some i
  | none=>key b
 | .block _ a=>key a
 | .loop a=>key a
 | .scope a=>key a
 | _=>none
def zbr:Code→List Nat
 | .region _ ops _=>ops.toList.filterMap (·.dst)
 | .seq a b=>zbr a++zbr b
 | .cond _ a b=>zbr a++zbr b
 | .block _ a=>zbr a
 | .loop a=>zbr a
 | _=>[]
inductive Gc where
 | slot (i s:Nat)
 | cell (id off s:Nat)
 | mslot (i s:Nat)
 | mcell (id off s:Nat)
 | fslot (i:Nat)
def ghost:Gc→List AV→List Ob→(List AV→List Ob→Prop)→Prop
 | .slot i s,t,H,K=>match t.getD i .top with
  | .full []=>K (t.set i (.own H.length [])) (H++[.row 0 s])
  | .full (e::es)=>(∀ x∈e::es,x.cells.length=s)∧K (t.set i (.own H.length (e::es))) (H++[.row (es.length + 1) s])
  | _=>False
 | .cell id off s,t,H,K=>match H[id]? with
  | some (.box cells)=>match cells.getD off .top with
   | .full []=>K t (H.set id (.box (cells.set off (.own H.length [])))++[.row 0 s])
   | _=>False
  | _=>False
 | .mslot i s,t,H,K=>match t.getD i .top with
  | .full []=>K (t.set i (.msl H.length 0 s 0 0)) (H++[.mrow 0 s []])
  | _=>False
 | .mcell id off s,t,H,K=>match H[id]? with
  | some (.box cells)=>match cells.getD off .top with
   | .full []=>K t (H.set id (.box (cells.set off (.msl H.length 0 s 0 0)))++[.mrow 0 s []])
   | _=>False
  | _=>False
 | .fslot i,t,H,K=>match t.getD i .top with
  | .msl id v _ off len=>match H[id]? with
   | some (.frow v2 _ es)=>(v2=v∧off + len≤es.length)∧K (t.set i (.p (.slice ((es.drop off).take len)))) H
   | _=>False
  | _=>False
def zbo:List Gc→List AV→List Ob→(List AV→List Ob→Prop)→Prop
 | [],t,H,K=>K t H
 | g::gs,t,H,K=>ghost g t H fun t' H'=>zbo gs t' H' K
def allN:Nat→(List AV→Prop)→Prop
 | 0,p=>p []
 | n + 1,p=>∀ x,allN n fun xs=>p (x::xs)
def fill (base:List AV):List Nat→List AV→List AV
 | k::ks,x::xs=>fill (base.set k x) ks xs
 | _,_=>base
def all2 {α:Type} (R:α→α→Prop):List α→List α→Prop
 | [],[]=>True
 | x::xs,y::ys=>R x y∧all2 R xs ys
 | _,_=>False
def AV.le1:AV→AV→Prop
 | _,.top=>True
 | x,.p t=>x.cellT=some t
 | x,y=>x=y
def AV.le:AV→AV→Prop
 | .agg cs,.p t=>(AV.agg cs).toT=some t
 | .agg cs,.agg ds=>all2 AV.le1 cs ds
 | x,y=>x.le1 y
def Ob.le:Ob→Ob→Prop
 | .box cs,.box ds=>all2 AV.le1 cs ds
 | .mrow v s es,.mrow v' s' es'=>v=v'∧s=s'∧es' <+: es
 | x,y=>x=y
def Back (n:Nat) (I:List AV→List Ob→Prop) (m:List AV→List Ob→Nat) (was:Nat) (xs:List AV) (H:List Ob):Prop :=
 ∃ xs' H',(all2 AV.le xs xs'∧all2 Ob.le (H.take n) H'∧n≤H.length)∧(xs'.all (AV.under n)=true∧H'.all (Ob.below n)=true)∧I xs' H'∧m xs' H' < was
def zD (k:Nat) (xs0:List AV) (H:List Ob) (body:List AV→List Ob→(List AV→List Ob→Prop)→Prop):Prop :=
 ∃ (n:Nat) (I:List AV→List Ob→Prop) (m:List AV→List Ob→Nat),(∃ gs,zbo gs xs0 H fun xs H'=>∃ xs' H2,all2 AV.le xs xs'∧all2 Ob.le H' H2∧H2.length=n∧I xs' H2) ∧
  allN k fun xs=>∀ H1,H1.length=n→I xs H1→body xs H1 fun xs' H2=>Back n I m (m xs H1) xs' H2
def aLoop (keep ws:List Nat) (body:List AV→List Ob→(AExit→List AV→List Ob→Prop)→Prop) (t:List AV) (H:List Ob) (K:AExit→List AV→List Ob→Prop):Prop :=
 zD keep.length (keep.map fun k=>t.getD k .top) H fun xs H1 B=>zbi (fill (zek t ws) keep xs) fun t1=>body t1 H1 fun e t2 H2=>match e with
  | .normal=>B (keep.map fun k=>t2.getD k .top) H2
  | e=>K e t2 H2
def lit (t:List AV) (c:Operand) (b:Bool):List AV :=
 match c with
 | .tmp u=>t.set u (.p (.bool b))
 | _=>t
inductive Mg where
 | no
 | orr (u:Nat)
 | andd (u:Nat)
def mark (ann:Nat→List Nat) (c:Code):Bool :=
 match ann ((key c).getD 0 + 1000000) with
 | []=>false
 | _=>true
def mrgT (ann:Nat→List Nat) (c:Operand) (a b:Code):Mg :=
 match c with
 | .tmp u=>match a with
  | .skip=>match mark ann b with
   | true=>.orr u
   | false=>.no
  | a=>match b with
   | .skip=>match mark ann a with
    | true=>.andd u
    | false=>.no
   | _=>.no
 | _=>.no
def kMrg (u:Nat) (H:List Ob) (Q:AV→Prop) (e:AExit) (t':List AV) (H':List Ob):Prop :=
 match e with
 | .normal=>H'=H∧Q (t'.getD u .top)
 | _=>False
def keepS (l:List Nat):Nat→List AV→List AV
 | _,[]=>[]
 | i,x::r=>(match l.contains i with
  | true=>x
  | false=>.top)::keepS l (i + 1) r
def trimS (ann:Nat→List Nat) (b:Code) (t:List AV):List AV :=
 match ann ((key b).getD 0 + 2000000) with
 | []=>t
 | l=>keepS l 0 t
theorem zs3 (l:List Nat):∀ (t:List AV) (i:Nat),(keepS l i t).length=t.length
 | [],_=>rfl
 | x::r,i=>by simp [keepS,zs3 l r]
theorem zy4 (l:List Nat) (p:AV→Prop) (htop:p .top):∀ (t:List AV) (i u:Nat),p (t.getD u .top)→p ((keepS l i t).getD u .top)
 | [],_,_,h=>h
 | x::r,i,0,h=>by
  simp only [keepS,List.getD_cons_zero] at h ⊢
  split
  ·exact h
  ·exact htop
 | x::r,i,u + 1,h=>by
  simp only [keepS,List.getD_cons_succ] at h ⊢
  exact zy4 l p htop r (i + 1) u h
theorem zEY {ann:Nat→List Nat} {b:Code} {G:Gh} {t:List AV} {tm:Array Value} (h:RepTm G t tm):RepTm G (trimS ann b t) tm:=by
 unfold trimS
 split
 ·exact h
 ·exact ⟨by rw [zs3]; exact h.1,fun i=>zy4 _ (fun v=>RepA G v (tm.getD i undef)) (.top _) t 0 i (h.2 i)⟩
def awp (P:Program) (ann:Nat→List Nat):Code→List AV→List Ob→(AExit→List AV→List Ob→Prop)→Prop
 | .skip,t,H,K=>K .normal t H
 | .region id ops draw,t,H,K=>zsB P (ann (id + 3000000)) ops draw t H fun t' H'=>K .normal t' H'
 | .seq a b,t,H,K=>awp P ann a t H fun e t' H'=>match e with
  | .normal=>zbi (trimS ann b t') fun t'=>awp P ann b t' H' K
  | e=>K e t' H'
 | .cond c a b,t,H,K=>match mrgT ann c a b with
  | .no=>ze (rho t c) (zbi (lit t c true) fun t=>awp P ann a t H K) (zbi (lit t c false) fun t=>awp P ann b t H K)
  | .orr u=>zm false (t.getD u .top) (fun Q=>zbi (t.set u (.p (.bool false))) fun t=>awp P ann b t H (kMrg u H Q)) (fun v=>zbi ((zek t (zbr b)).set u v) fun t=>K .normal t H)
  | .andd u=>zm true (t.getD u .top) (fun Q=>zbi (t.set u (.p (.bool true))) fun t=>awp P ann a t H (kMrg u H Q)) (fun v=>zbi ((zek t (zbr a)).set u v) fun t=>K .normal t H)
 | .block id a,t,H,K=>awp P ann a t H fun e t' H'=>match e with
  | .exit j=>match j == id with
   | true=>K .normal t' H'
   | false=>K (.exit j) t' H'
  | e=>K e t' H'
 | .loop a,t,H,K=>aLoop (ann ((key a).getD 0)) (zbr a) (awp P ann a) t H K
 | .exit id,t,H,K=>K (.exit id) t H
 | .ret,t,H,K=>K .ret t H
 | _,_,_,_=>False
inductive ExitRel:Exit→AExit→Prop where
 | normal:ExitRel .normal .normal
 | exit (id:Nat):ExitRel (.exit id) (.exit id)
 | ret:ExitRel .ret .ret
def Post (c:Code) (K:AExit→List AV→List Ob→Prop) (a0:Act) (w0:World) (G0:Gh) (e:Exit) (a:Act) (w:World):Prop :=
 ∃ (e':AExit) (t:List AV) (H:List Ob) (G:Gh),ExitRel e e'∧K e' t H∧Inv w G H∧RepTm G t a.tmps∧(a.defers=a0.defers∧a.tmps.size=a0.tmps.size)∧(∀ u,u ∉ zbr c→a.tmps.getD u undef=a0.tmps.getD u undef)∧Step w0 G0 w G
theorem zCh {α:Type} {c:Code} {Q:Exit→Act→World→Prop} (m:α→Nat) (I:α→Act→World→Prop)
  (round:∀ x a w,I x a w→c.wp P (Exit.then (fun a' w'=>∃ y,I y a' w'∧m y < m x) Q) a w):∀ (x:α) (a:Act) (w:World),I x a w→(Code.loop c).wp P Q a w:=by
 intro x a w h₀ b k cs
 have keyl:∀ n x a w,m x=n→I x a w→∃ e a' w',Q e a' w'∧Arrives P (lone (b.at a (.code c::.inLoop c::k)) cs w) b k cs e a' w':=by
  intro n
  induction n using Nat.strongRecOn with
  | _ n ih =>
   intro x a w hn hI
   obtain ⟨e,a₁,w₁,hq,harr⟩:=round x a w hI b (.inLoop c::k) cs
   cases e with
   | normal =>
    obtain ⟨y,hI₁,hlt⟩:=hq
    obtain ⟨e₂,a₂,w₂,hq₂,harr₂⟩:=ih (m y) (hn ▸ hlt) y a₁ w₁ rfl hI₁
    exact ⟨e₂,a₂,w₂,hq₂,.of_steps (Steps.trans harr (.one step_inLoop)) harr₂⟩
   | exit id=>exact ⟨_,a₁,w₁,hq,.pass (x:=.inLoop c) rfl (fun _ _=>.inl (by simp)) harr⟩
   | goto l=>exact ⟨_,a₁,w₁,hq,.pass (x:=.inLoop c) rfl (fun _ _=>.inl (by simp)) harr⟩
   | ret=>exact ⟨_,a₁,w₁,hq,.pass (x:=.inLoop c) rfl (fun _ _=>.inl (by simp)) harr⟩
   | panic ch=>exact ⟨_,a₁,w₁,hq,.pass (x:=.inLoop c) rfl (fun _ _=>.inl (by simp)) harr⟩
   | outgrown=>exact ⟨_,a₁,w₁,hq,.pass (x:=.inLoop c) rfl (fun _ _=>.inl (by simp)) harr⟩
 obtain ⟨e,a',w',hq,harr⟩:=keyl _ x a w rfl h₀
 exact ⟨e,a',w',hq,.of_steps (.one step_loop) harr⟩
theorem zAP:∀ (n:Nat) (p:List AV→Prop),allN n p→∀ xs:List AV,xs.length=n→p xs
 | 0,p,h,[],_=>h
 | n + 1,p,h,x::xs,hl=>zAP n _ (h x) xs (by simpa using hl)
def RepK (G:Gh) (xs:List AV) (tm:Nat→Value):Prop:=∀ (i:Nat) (x:AV),xs[i]? = some x→RepA G x (tm i)
theorem RepK.mono {G G':Gh} (g:Grow G G') {xs:List AV} {tm:Nat→Value} (h:RepK G xs tm):RepK G' xs tm:=fun i x e=>(h i x e).mono g
theorem zBY {H:List Ob} {t:List AV} {i:Nat} (hx:t.getD i .top=.full []) (y:AV) (ob:Ob) (l:Option Addr→Loc) (hb:∀ a,(l a).blk=none) (ho:∀ w G a,Holds w G (l a) ob)
  (hy:∀ G a,G.loc H.length=some (l a)→RepA G y (.slice a 0 0)) {w:World} {G:Gh} {tm:Nat→Value} (hi:Inv w G H) (ht:RepK G t tm):∃ G',Inv w G' (H++[ob])∧RepK G' (t.set i y) tm∧Step w G w G':=by
 have hil:i < t.length:=by
  rcases Nat.lt_or_ge i t.length with hl | hl
  ·exact hl
  ·rw [List.getD_eq_getElem?_getD,List.getElem?_eq_none hl] at hx; simp at hx
 have r:=ht i _ (zcR hil .top)
 rw [hx] at r
 obtain ⟨a,ev⟩:∃ a,tm i=.slice a 0 0:=by
  generalize tm i=v at r
  cases r with
  | full _ a h=>exact ⟨a,rfl⟩
 obtain ⟨i1,s1⟩:=zm0 hi (l a) ob (hb a) (ho _ _ a)
 refine ⟨_,i1,fun u x hu=>?_,s1⟩
 by_cases hui:i=u
 ·subst hui
  simp [hil] at hu
  subst hu
  rw [ev]
  exact hy _ a (by simp [Gh.withLoc])
 ·rw [List.getElem?_set_ne hui] at hu
  exact (ht u x hu).mono s1.grow
theorem zAY {H:List Ob} {id off:Nat} {cells:List AV} (hob:H[id]? = some (.box cells)) (hx:cells.getD off .top=.full []) (y:AV) (ob:Ob) (l:Option Addr→Loc) (hb:∀ a,(l a).blk=none) (ho:∀ w G a,Holds w G (l a) ob)
  (hy:∀ G a,G.loc H.length=some (l a)→RepA G y (.slice a 0 0)) {t:List AV} {w:World} {G:Gh} {tm:Nat→Value} (hi:Inv w G H) (ht:RepK G t tm):∃ G',Inv w G' (H.set id (.box (cells.set off y))++[ob])∧RepK G' t tm∧Step w G w G':=by
 cases hl:G.loc id with
 | none =>
  -- the object is known,but lies nowhere: nothing is owed
  have i0:Inv w G (H.set id (.box (cells.set off y))):=by
   refine ⟨hi.rd,fun j l e=>?_,hi.dis,hi.tab⟩
   obtain ⟨ob,ho,hh⟩:=hi.obj j l e
   have hne:id≠j:=fun he=>by subst he; rw [hl] at e; simp at e
   exact ⟨ob,by rw [List.getElem?_set_ne hne]; exact ho,hh⟩
  obtain ⟨i1,s1⟩:=zm0 i0 (l none) ob (hb none) (ho _ _ none)
  exact ⟨_,i1,ht.mono s1.grow,s1⟩
 | some l' =>
  obtain ⟨ob',ho',hh⟩:=hi.obj id l' hl
  rw [hob] at ho'; simp at ho'; subst ho'
  cases l' with
  | row=>exact hh.elim
  | mrow=>exact hh.elim
  | box b =>
   obtain ⟨cs,ty,e1,e2,e3,e4⟩:=hh
   rcases Nat.lt_or_ge off cells.length with hoff | hoff
   ·have hc:cells[off]? = some (.full []):=by
     rw [List.getD_eq_getElem?_getD,List.getElem?_eq_getElem hoff] at hx
     rw [List.getElem?_eq_getElem hoff]
     simpa using hx
    obtain ⟨r,_⟩:=e3 off _ hc
    obtain ⟨a,ev⟩:∃ a,cs.getD off undef=.slice a 0 0:=by
     generalize cs.getD off undef=v at r
     cases r with
     | full _ a h=>exact ⟨a,rfl⟩
    obtain ⟨i1,s1⟩:=zm0 hi (l a) ob (hb a) (ho _ _ a)
    have hidl:=hi.loc_lt hl
    refine ⟨_,⟨i1.rd,fun j l2 e=>?_,i1.dis,i1.tab⟩,ht.mono s1.grow,s1⟩
    obtain ⟨ob2,ho2,hh⟩:=i1.obj j l2 e
    by_cases hj:j=id
    ·subst hj
     rw [List.getElem?_append_left hidl,hob] at ho2
     simp at ho2; subst ho2
     have hl':l2=.box b:=by
      simp only [Gh.withLoc] at e
      rw [if_neg (by omega),hl] at e
      simpa using e.symm
     subst hl'
     obtain ⟨cs',ty',f1,f2,f3,f4⟩:=hh
     rw [e1] at f1
     simp at f1
     obtain ⟨rfl,rfl⟩:=f1
     refine ⟨.box (cells.set off y),by rw [List.getElem?_append_left (by simpa using hidl)]; simp [hidl],cs,ty,e1,by simpa using e2,fun k c hk=>?_,f4⟩
     by_cases hko:off=k
     ·subst hko
      simp [hoff] at hk
      subst hk
      rw [ev]
      exact ⟨hy _ a (by simp [Gh.withLoc]),rfl⟩
     ·rw [List.getElem?_set_ne hko] at hk
      exact f3 k c hk
    ·refine ⟨ob2, ?_,hh⟩
     rcases Nat.lt_or_ge j H.length with h1 | h1
     ·rw [List.getElem?_append_left h1] at ho2
      rw [List.getElem?_append_left (by simpa using h1),List.getElem?_set_ne (fun h=>hj h.symm)]
      exact ho2
     ·rw [List.getElem?_append_right h1] at ho2
      rw [List.getElem?_append_right (by simpa using h1)]
      simpa using ho2
   ·rw [List.getD_eq_getElem?_getD,List.getElem?_eq_none hoff] at hx; simp at hx
theorem zD6 {n s:Nat} (G:Gh) (a:Option Addr) (h:G.loc n=some (.row a 0 0 s)):RepA G (.own n []) (.slice a 0 0) :=
 .own n [] a a 0 0 0 s (.nil a 0) h (Nat.le_refl _) (fun _=>⟨rfl,rfl⟩) (fun e he=>by simp at he)
theorem zD3 {n s:Nat} (G:Gh) (a:Option Addr) (h:G.loc n=some (.mrow a 0 0 s)):RepA G (.msl n 0 s 0 0) (.slice a 0 0) :=
 .msl n 0 s 0 0 a a a 0 0 0 0 h (Nat.le_refl _) (fun _=>⟨rfl,rfl⟩) (Nat.le_refl _) (Nat.zero_le _) (fun h=>absurd h (Nat.lt_irrefl _)) rfl (fun h=>absurd h (Nat.lt_irrefl _))
theorem zBT (s:Nat) (a:Option Addr):(Loc.row a 0 0 s).blk=none:=by cases a <;> simp [Loc.blk]
theorem zy7 (s:Nat) (a:Option Addr):(Loc.mrow a 0 0 s).blk=none:=by cases a <;> simp [Loc.blk]
theorem zxF (s:Nat) (w:World) (G:Gh) (a:Option Addr):Holds w G (.row a 0 0 s) (.row 0 s):=⟨rfl,rfl,Nat.le_refl _,fun h=>absurd h (Nat.lt_irrefl _)⟩
theorem zu0 (s:Nat) (w:World) (G:Gh) (a:Option Addr):Holds w G (.mrow a 0 0 s) (.mrow 0 s []):=⟨⟨rfl,rfl,Nat.le_refl _,by simp⟩,fun h=>absurd h (Nat.lt_irrefl _)⟩
theorem zt0 {w:World} {G:Gh} {H:List Ob} (hi:Inv w G H) {id ver s0:Nat} {es:List T} (ho:H[id]? = some (.frow ver s0 es)) {s off len:Nat} {v:Value} (r:RepA G (.msl id ver s off len) v) (hle:off + len≤es.length):RepT G.rd (.slice ((es.drop off).take len)) v:=by
 have hn:((es.drop off).take len).length=len:=by simp; omega
 cases r with
 | msl _ _ _ _ _ a a' a2 cap cap' ver' c2 hl hv he hc hm hz h2 ha =>
  obtain ⟨ob,ho2,hh⟩:=hi.obj id _ hl
  rw [ho] at ho2; simp at ho2; subst ho2
  obtain ⟨⟨rfl,rfl,h3,h4⟩,h5⟩:=hh
  obtain ⟨rfl,rfl⟩:=he rfl
  by_cases h0:len=0
  ·subst h0
   rw [List.take_zero]
   exact .nil _ _
  ·obtain ⟨b,o,rfl,_,h7⟩:=h5 (by omega)
   have ha:=ha (by omega)
   subst ha
   simp only [Option.map_some,zbb]
   have look:∀ i e,((es.drop off).take len)[i]? = some e→es[off + i]? = some e:=by
    intro i e he
    rw [List.getElem?_take] at he
    split at he
    ·rwa [List.getElem?_drop] at he
    ·simp at he
   have hidx:∀ i j,o + (off + i) * s + j=o + off * s + i * s + j:=by intro i j; rw [Nat.add_mul]; omega
   have:=RepT.slice (rd:=G.rd) ((es.drop off).take len) b (o + off * s) c2 s (fun i j=>(G.rd b (o + (off + i) * s + j)).getD undef) (fun e he=>h4 e (List.mem_of_mem_drop (List.mem_of_mem_take he)))
    (fun i j e c he hc=>by
     obtain ⟨u,g1,_,_⟩:=h7 (off + i) j e c (look i e he) hc
     rw [← hidx,g1]; rfl)
    (fun i j e c he hc=>by
     obtain ⟨u,g1,g2,_⟩:=h7 (off + i) j e c (look i e he) hc
     rw [g1]; exact g2)
    (fun i j e c he hc=>by
     obtain ⟨u,g1,_,g3⟩:=h7 (off + i) j e c (look i e he) hc
     rw [g1]; exact g3) (by omega) (by omega)
   rwa [hn] at this
theorem zBn {g:Gc} {t:List AV} {H:List Ob} {K:List AV→List Ob→Prop} (h:ghost g t H K):∃ t' H',K t' H'∧t'.length=t.length ∧ ∀ (w:World) (G:Gh) (tm:Nat→Value),Inv w G H→RepK G t tm→∃ G',Inv w G' H'∧RepK G' t' tm∧Step w G w G':=by
 cases g with
 | slot i s =>
  simp only [ghost] at h
  split at h
  ·rename_i hx
   exact ⟨_,_,h,by simp,fun w G tm hi ht=>zBY hx _ _ (fun a=>.row a 0 0 s) (zBT s) (zxF s) zD6 hi ht⟩
  ·rename_i e es hx
   obtain ⟨hsz,h⟩:=h
   refine ⟨_,_,h,by simp,fun w G tm hi ht=>?_⟩
   have hil:i < t.length:=by
    rcases Nat.lt_or_ge i t.length with hl | hl
    ·exact hl
    ·rw [List.getD_eq_getElem?_getD,List.getElem?_eq_none hl] at hx; simp at hx
   have r:=ht i _ (zcR hil .top)
   rw [hx] at r
   obtain ⟨a,ev,hr⟩:∃ a,tm i=.slice a (e::es).length (e::es).length∧RepT G.rd (.slice (e::es)) (.slice a (e::es).length (e::es).length):=by
    generalize tm i=v at r
    cases r with
    | full _ a h=>exact ⟨a,rfl,h⟩
   obtain ⟨i1,s1⟩:=zm0 hi (.row a (e::es).length (e::es).length s) (.row (es.length + 1) s) (by cases a <;> simp [Loc.blk]) ⟨rfl,rfl,Nat.le_refl _,fun h=>absurd h (Nat.lt_irrefl _)⟩
   refine ⟨_,i1,fun u x hu=>?_,s1⟩
   by_cases hui:i=u
   ·subst hui
    simp [hil] at hu
    subst hu
    rw [ev]
    exact .own H.length (e::es) a a _ _ _ s (hr.mono s1.grow.rd) (by simp [Gh.withLoc]) (Nat.le_refl _) (fun _=>⟨rfl,rfl⟩) hsz
   ·rw [List.getElem?_set_ne hui] at hu
    exact (ht u x hu).mono s1.grow
  ·exact h.elim
 | cell id off s =>
  simp only [ghost] at h
  split at h
  ·rename_i cells hob
   split at h
   ·rename_i hx
    exact ⟨_,_,h,rfl,fun w G tm hi ht=>zAY hob hx _ _ (fun a=>.row a 0 0 s) (zBT s) (zxF s) zD6 hi ht⟩
   ·exact h.elim
  ·exact h.elim
 | mslot i s =>
  simp only [ghost] at h
  split at h
  ·rename_i hx
   exact ⟨_,_,h,by simp,fun w G tm hi ht=>zBY hx _ _ (fun a=>.mrow a 0 0 s) (zy7 s) (zu0 s) zD3 hi ht⟩
  ·exact h.elim
 | mcell id off s =>
  simp only [ghost] at h
  split at h
  ·rename_i cells hob
   split at h
   ·rename_i hx
    exact ⟨_,_,h,rfl,fun w G tm hi ht=>zAY hob hx _ _ (fun a=>.mrow a 0 0 s) (zy7 s) (zu0 s) zD3 hi ht⟩
   ·exact h.elim
  ·exact h.elim
 | fslot i =>
  simp only [ghost] at h
  split at h
  ·rename_i id v s off len hx
   split at h
   ·rename_i v2 s2 es hob
    obtain ⟨⟨rfl,hle⟩,h⟩:=h
    refine ⟨_,_,h,by simp,fun w G tm hi ht=>⟨G,hi,fun u x hu=>?_,.refl w G⟩⟩
    have hil:i < t.length:=by
     rcases Nat.lt_or_ge i t.length with hl | hl
     ·exact hl
     ·rw [List.getD_eq_getElem?_getD,List.getElem?_eq_none hl] at hx; simp at hx
    by_cases hui:i=u
    ·subst hui
     simp [hil] at hu
     subst hu
     have r:=ht i _ (zcR hil .top)
     rw [hx] at r
     exact .p _ _ (zt0 hi hob r hle)
    ·rw [List.getElem?_set_ne hui] at hu
     exact ht u x hu
   ·exact h.elim
  ·exact h.elim
theorem zsU:∀ (gs:List Gc) (t:List AV) (H:List Ob) (K:List AV→List Ob→Prop),zbo gs t H K→∃ t' H',K t' H'∧t'.length=t.length ∧ ∀ (w:World) (G:Gh) (tm:Nat→Value),Inv w G H→RepK G t tm→∃ G',Inv w G' H'∧RepK G' t' tm∧Step w G w G'
 | [],t,H,K,h=>⟨t,H,h,rfl,fun w G tm hi ht=>⟨G,hi,ht,.refl w G⟩⟩
 | g::gs,t,H,K,h=>by
  obtain ⟨t1,H1,h1,l1,r1⟩:=zBn h
  obtain ⟨t2,H2,h2,l2,r2⟩:=zsU gs t1 H1 K h1
  refine ⟨t2,H2,h2,l2.trans l1,fun w G tm hi ht=>?_⟩
  obtain ⟨G1,i1,t1',s1⟩:=r1 w G tm hi ht
  obtain ⟨G2,i2,t2',s2⟩:=r2 w G1 tm i1 t1'
  exact ⟨G2,i2,t2',s1.trans s2⟩
def Gh.trim (G:Gh) (n:Nat):Gh:=⟨G.rd,fun id=>if id < n then G.loc id else none⟩
theorem zcN {G:Gh} {n:Nat} {x:AV} {v:Value} (h:RepA G x v) (hb:x.under1 n=true):RepA (G.trim n) x v:=by
 cases h with
 | p t v h=>exact .p t v h
 | full es a h=>exact .full es a h
 | own id es a a' cap cap' k s h hl hn he hs =>
  simp [AV.under1] at hb
  exact .own id es a a' cap cap' k s h (by simp [Gh.trim,hb,hl]) hn he hs
 | bptr id off b hl =>
  simp [AV.under1] at hb
  exact .bptr id off b (by simp [Gh.trim,hb,hl])
 | mclo f caps vs hn hv =>
  simp only [AV.under1,List.all_eq_true,decide_eq_true_eq] at hb
  refine .mclo f caps vs hn (fun j c hj=>?_)
  obtain ⟨b,h1,h2⟩:=hv j c hj
  have:=hb c (List.mem_of_getElem? hj)
  exact ⟨b,by simp [Gh.trim,this,h1],h2⟩
 | top v=>exact .top v
 | nils cap=>exact .nils cap
 | nns es a cap h=>exact .nns es a cap h
 | msl id ver s off len a a' a2 cap cap' ver' c2 hl hn he hc hm hz h2 ha =>
  simp [AV.under1] at hb
  exact .msl id ver s off len a a' a2 cap cap' ver' c2 (by simp [Gh.trim,hb,hl]) hn he hc hm hz h2 ha
 | mptr id ver s i off b o a a' cap cap' ver' hl hn he hi ha =>
  simp [AV.under1] at hb
  exact .mptr id ver s i off b o a a' cap cap' ver' (by simp [Gh.trim,hb,hl]) hn he hi ha
 | bnd f id off b hl =>
  simp [AV.under1] at hb
  exact .bnd f id off b (by simp [Gh.trim,hb,hl])
 | mapr id b hl =>
  simp [AV.under1] at hb
  exact .mapr id b (by simp [Gh.trim,hb,hl])
 | agg cs vs hn hv hk=>simp [AV.under1] at hb
 | tup cs vs hn hv=>simp [AV.under1] at hb
theorem zF9 {G:Gh} {n:Nat} {x:AV} {v:Value} (h:RepA G x v) (hb:x.under n=true):RepA (G.trim n) x v:=by
 cases x with
 | agg cs =>
  simp only [AV.under,List.all_eq_true] at hb
  cases h with
  | agg _ vs hn hv hk=>exact .agg cs vs hn (fun j c hj=>zcN (hv j c hj) (hb c (List.mem_of_getElem? hj))) hk
 | tup cs =>
  simp only [AV.under,List.all_eq_true] at hb
  cases h with
  | tup _ vs hn hv=>exact .tup cs vs hn (fun j c hj=>zcN (hv j c hj) (hb c (List.mem_of_getElem? hj)))
 | p t=>exact zcN h hb
 | full es=>exact zcN h hb
 | own id es=>exact zcN h hb
 | bptr id off=>exact zcN h hb
 | mclo f caps=>exact zcN h hb
 | top=>exact zcN h hb
 | nils=>exact zcN h hb
 | nns es=>exact zcN h hb
 | msl id ver s off len=>exact zcN h hb
 | mptr id ver s i off=>exact zcN h hb
 | bnd f id off=>exact zcN h hb
 | mapr id=>exact zcN h hb
theorem zxR {G:Gh} {n id b:Nat} (h:(G.trim n).blk id=some b):G.blk id=some b∧id < n:=by
 simp only [Gh.blk,Gh.trim] at h ⊢
 split at h
 ·rename_i hlt; exact ⟨h,hlt⟩
 ·simp at h
theorem zF8 {w:World} {G:Gh} {H:List Ob} (hi:Inv w G H) {n:Nat} (hb:(H.take n).all (Ob.below n)=true):Inv w (G.trim n) (H.take n):=by
 refine ⟨hi.rd,fun id l e=>?_,fun i j b e1 e2=>hi.dis i j b (zxR e1).1 (zxR e2).1,hi.tab⟩
 simp only [Gh.trim] at e
 split at e
 ·rename_i hlt
  obtain ⟨ob,ho,hh⟩:=hi.obj id l e
  have hg:(H.take n)[id]? = some ob:=by rw [List.getElem?_take,if_pos hlt]; exact ho
  refine ⟨ob,hg, ?_⟩
  have hbo:=List.all_eq_true.1 hb ob (List.mem_of_getElem? hg)
  cases l with
  | box b =>
   cases ob with
   | box cells =>
    simp only [Ob.below,List.all_eq_true] at hbo
    obtain ⟨cs,ty,e1,e2,e3,e4⟩:=hh
    exact ⟨cs,ty,e1,e2,fun j c hj=>⟨zcN (e3 j c hj).1 (hbo c (List.mem_of_getElem? hj)),(e3 j c hj).2⟩,e4⟩
   | fz cs=>exact hh
   | mapo es=>exact hh
   | _=>exact hh.elim
  | row a cap k s =>
   cases ob with
   | row k' s'=>exact hh
   | _=>exact hh.elim
  | mrow a cap v s =>
   cases ob with
   | mrow v' s' es=>exact hh
   | frow v' s' es=>exact hh
   | _=>exact hh.elim
 ·simp at e
theorem zks {α:Type} {R:α→α→Prop}:∀ {xs ys:List α},all2 R xs ys→ys.length=xs.length ∧ ∀ (j:Nat) (y:α),ys[j]? = some y→∃ x,xs[j]? = some x∧R x y
 | [],[],_=>⟨rfl,fun j y h=>by simp at h⟩
 | [],_::_,h=>h.elim
 | _::_,[],h=>h.elim
 | x::xs,y::ys,h=>by
  obtain ⟨h1,h2⟩:=zks h.2
  refine ⟨by simp [h1],fun j z hj=>?_⟩
  cases j with
  | zero=>simp at hj; subst hj; exact ⟨x,rfl,h.1⟩
  | succ j=>simp at hj; simpa using h2 j z hj
theorem zz0 {G:Gh} {x y:AV} {v:Value} (h:x.le1 y) (r:RepA G x v):RepA G y v:=by
 unfold AV.le1 at h
 split at h
 ·exact .top v
 ·exact .p _ _ (r.cellT h)
 ·subst h; exact r
theorem zFM {G:Gh} {x y:AV} {v:Value} (h:x.le y) (r:RepA G x v):RepA G y v:=by
 unfold AV.le at h
 split at h
 ·exact .p _ _ (r.toT h)
 ·rename_i cs ds
  obtain ⟨h1,h2⟩:=zks h
  cases r with
  | agg _ vs hn hv hk =>
   refine .agg ds vs (hn.trans h1.symm) (fun j c hj=>?_) (fun j c hj=>?_)
   ·obtain ⟨x,hx,hl⟩:=h2 j c hj
    exact zz0 hl (hv j x hx)
   ·obtain ⟨x,hx,hl⟩:=h2 j c hj
    exact hk j x hx
 ·exact zz0 h r
theorem zFK {w:World} {G:Gh} {l:Loc} {x y:Ob} (h:x.le y) (r:Holds w G l x):Holds w G l y:=by
 unfold Ob.le at h
 split at h
 ·obtain ⟨h1,h2⟩:=zks h
  cases l with
  | box b =>
   obtain ⟨cs,ty,e1,e2,e3,e4⟩:=r
   refine ⟨cs,ty,e1,e2.trans h1.symm,fun j c hj=>?_,e4⟩
   obtain ⟨x,hx,hl⟩:=h2 j c hj
   exact ⟨zz0 hl (e3 j x hx).1,(e3 j x hx).2⟩
  | row=>exact r.elim
  | mrow=>exact r.elim
 ·obtain ⟨rfl,rfl,k,rfl⟩:=h
  cases l with
  | box b=>exact r.elim
  | row=>exact r.elim
  | mrow a cap v s =>
   obtain ⟨⟨h1,h2,h3,h4⟩,h5⟩:=r
   refine ⟨⟨h1,h2,by simp at h3; omega,fun e he=>h4 e (List.mem_append_left _ he)⟩,fun hc=>?_⟩
   obtain ⟨b,o,e1,⟨cs,ty,e2,e3,e4⟩,e5⟩:=h5 hc
   exact ⟨b,o,e1,⟨cs,ty,e2,e3,fun i j e c he hc=>e4 i j e c (by rw [List.getElem?_append_left (List.getElem?_eq_some_iff.1 he).1]; exact he) hc⟩,e5⟩
 ·subst h; exact r
theorem zFL {w:World} {G:Gh} {H H':List Ob} (hi:Inv w G H) {n:Nat} (h:all2 Ob.le (H.take n) H') (hn:n≤H.length):Inv w G (H'++H.drop n)∧H'.length=n:=by
 obtain ⟨h1,h2⟩:=zks h
 have hl:H'.length=n:=by rw [h1]; simp; omega
 refine ⟨⟨hi.rd,fun j l e=>?_,hi.dis,hi.tab⟩,hl⟩
 obtain ⟨ob,ho,hh⟩:=hi.obj j l e
 rcases Nat.lt_or_ge j n with hj | hj
 ·have hj':j < H'.length:=by omega
  obtain ⟨x,hx,hle⟩:=h2 j H'[j] (List.getElem?_eq_getElem hj')
  rw [List.getElem?_take,if_pos hj,ho] at hx
  simp at hx; subst hx
  exact ⟨H'[j],by rw [List.getElem?_append_left hj',List.getElem?_eq_getElem hj'],zFK hle hh⟩
 ·refine ⟨ob, ?_,hh⟩
  rw [List.getElem?_append_right (by omega),hl,List.getElem?_drop,show n + (j - n)=j by omega]
  exact ho
theorem zpv:∀ (ks:List Nat) (xs:List AV) (base:List AV),(fill base ks xs).length=base.length
 | [],xs,base=>by cases xs <;> rfl
 | k::ks,[],base=>rfl
 | k::ks,x::xs,base=>by rw [fill,zpv]; simp
theorem zw2 (u:Nat) (p:AV→Prop):∀ (ks:List Nat) (xs:List AV) (base:List AV),p (base.getD u .top)→(∀ (i:Nat) (x:AV),ks[i]? = some u→xs[i]? = some x→p x)→p ((fill base ks xs).getD u .top)
 | [],xs,base,h,_=>by cases xs <;> exact h
 | k::ks,[],base,h,_=>h
 | k::ks,x::xs,base,h,hx=>by
  rw [fill]
  refine zw2 u p ks xs _ ?_ (fun i y h1 h2=>hx (i + 1) y (by simpa using h1) (by simpa using h2))
  rw [zsT]
  split
  ·rename_i hk; exact hx 0 x (by simp [hk.1]) rfl
  ·exact h
theorem zEj {x:AV} {A B:Prop} (h:ze x A B):∃ b,x=.p (.bool b)∧(b=true→A)∧(b=false→B):=by
 unfold ze at h
 split at h
 ·rename_i b; exact ⟨b,rfl,fun e=>by subst e; exact h,fun e=>by subst e; exact h⟩
 ·exact False.elim h
theorem zD0 {t:List AV} {c:Operand} {b:Bool} (h:rho t c=.p (.bool b)):lit t c b=t:=by
 cases c with
 | tmp u=>exact zjn h
 | const v=>rfl
 | func f=>rfl
 | global g=>rfl
theorem zEn (hm:P.follows .mixedOrders=true) (ann:Nat→List Nat):∀ (c:Code) (t:List AV) (H:List Ob) (K:AExit→List AV→List Ob→Prop),awp P ann c t H K →
  ∀ (a:Act) (w:World) (G:Gh),Inv w G H→RepTm G t a.tmps→c.wp P (Post c K a w G) a w:=by
 intro c
 induction c with
 | skip =>
  intro t H K h a w G hi ht
  exact wp_skip ⟨.normal,t,H,G,.normal,h,hi,ht,⟨rfl,rfl⟩,fun _ _=>rfl,.refl w G⟩
 | region id ops draw =>
  intro t H K h a w G hi ht
  refine zyG hm h hi ht (fun a' w' G' t' H' hk hi' ht' hd hkp hs=>⟨.normal,t',H',G',.normal,hk,hi',ht',⟨hd,hkp.2⟩,fun u hu=>hkp.1 u (fun k o ho hd'=>hu ?_),hs⟩)
  simp only [zbr,List.mem_filterMap]
  exact ⟨o,List.mem_of_getElem? (i:=k) (by simpa using ho),hd'⟩
 | seq x y ihx ihy =>
  intro t H K h a w G hi ht
  simp only [awp,zbm] at h
  refine wp_seq (wp_mono (ihx t H _ h a w G hi ht) ?_)
  rintro e a1 w1 ⟨e',t1,H1,G1,her,hk,hi1,ht1,hd1,hu1,hs1⟩
  cases her with
  | normal =>
   refine wp_mono (ihy _ H1 K hk a1 w1 G1 hi1 (zEY ht1)) ?_
   rintro e a2 w2 ⟨e2,t2,H2,G2,her2,hk2,hi2,ht2,hd2,hu2,hs2⟩
   exact ⟨e2,t2,H2,G2,her2,hk2,hi2,ht2,⟨hd2.1.trans hd1.1,hd2.2.trans hd1.2⟩,fun u hu=>by simp [zbr] at hu; rw [hu2 u hu.2,hu1 u hu.1],hs1.trans hs2⟩
  | exit id=>exact ⟨.exit id,t1,H1,G1,.exit id,hk,hi1,ht1,hd1,fun u hu=>hu1 u (by simp [zbr] at hu; exact hu.1),hs1⟩
  | ret=>exact ⟨.ret,t1,H1,G1,.ret,hk,hi1,ht1,hd1,fun u hu=>hu1 u (by simp [zbr] at hu; exact hu.1),hs1⟩
 | cond c x y ihx ihy =>
  intro t H K h a w G hi ht
  -- both ways of a truth,brought together
  have merged:∀ (u:Nat) (want:Bool) (z:Code) (b cc:Bool),t.getD u .top=.p (.bool b)→(∀ v,v∈zbr z→v∈zbr (.cond c x y))→∀ (e:Exit) (a2:Act) (w2:World) (G2:Gh),
    (b=want→a2.tmps.getD u undef=.bool cc)→(b≠want→a2.tmps.getD u undef=.bool b)→(∀ v,v ∉ zbr z→a2.tmps.getD v undef=a.tmps.getD v undef)→a2.tmps.size=a.tmps.size→a2.defers=a.defers→Inv w2 G2 H→Step w G w2 G2 →
    K .normal ((zek t (zbr z)).set u (.p (.bool (cond want (b && cc) (b || cc))))) H→Post (.cond c x y) K a w G .normal a2 w2:=by
   intro u want z b cc hb hwr e a2 w2 G2 h1 h2 hkp hsz hdf hi2 hs2 hk
   refine ⟨.normal,_,H,G2,.normal,hk,hi2,⟨by simp [zgf,hsz,ht.1],fun v=>?_⟩,⟨hdf,hsz⟩,fun v hv=>hkp v (fun hz=>hv (hwr v hz)),hs2⟩
   rw [zsT]
   split
   ·rename_i hv
    obtain ⟨rfl,_⟩:=hv
    have hv2:a2.tmps.getD u undef=.bool (cond want (b && cc) (b || cc)):=by
     by_cases hbw:b=want
     ·rw [h1 hbw]; subst hbw; cases b <;> simp
     ·rw [h2 hbw]
      cases b <;> cases want <;> simp_all
    rw [hv2]
    exact zat.2 rfl
   ·refine zkF v (fun x=>RepA G2 x (a2.tmps.getD v undef)) (.top _) _ _ (fun hv=>?_)
    rw [hkp v hv]
    exact (ht.2 v).mono hs2.grow
  simp only [awp,zbm] at h
  split at h
  ·-- apart
   obtain ⟨b,hb,h1,h2⟩:=zEj h
   have hev:a.eval c=.bool b:=by
    have r:=ht.rho (a:=a) c
    rw [hb] at r
    exact zat.1 r
   refine wp_cond_split hev (fun e=>?_) (fun e=>?_)
   ·subst e
    have h1:=h1 rfl
    rw [zD0 hb] at h1
    refine wp_mono (ihx t H K h1 a w G hi ht) ?_
    rintro e a2 w2 ⟨e2,t2,H2,G2,her2,hk2,hi2,ht2,hd2,hu2,hs2⟩
    exact ⟨e2,t2,H2,G2,her2,hk2,hi2,ht2,hd2,fun u hu=>hu2 u (by simp [zbr] at hu; exact hu.1),hs2⟩
   ·subst e
    have h2:=h2 rfl
    rw [zD0 hb] at h2
    refine wp_mono (ihy t H K h2 a w G hi ht) ?_
    rintro e a2 w2 ⟨e2,t2,H2,G2,her2,hk2,hi2,ht2,hd2,hu2,hs2⟩
    exact ⟨e2,t2,H2,G2,her2,hk2,hi2,ht2,hd2,fun u hu=>hu2 u (by simp [zbr] at hu; exact hu.2),hs2⟩
  ·rename_i u hm
   obtain ⟨hc,hx⟩:c=.tmp u∧x=.skip:=by
    unfold mrgT at hm
    split at hm
    ·split at hm
     ·split at hm <;> simp at hm
      exact ⟨by rw [hm],rfl⟩
     ·split at hm
      ·split at hm <;> simp at hm
      ·simp at hm
    ·simp at hm
   subst hc hx
   obtain ⟨b,cc,hb,hE,hK⟩:=zrH h
   have hev:a.eval (.tmp u)=.bool b:=by have:=ht.2 u; rw [hb] at this; exact zat.1 this
   refine wp_cond_split hev (fun e=>?_) (fun e=>?_)
   ·exact wp_skip (merged u false y b cc hb (fun v hv=>by simp [zbr,hv]) .normal a w G (fun h=>by rw [e] at h; simp at h) (fun _=>hev) (fun _ _=>rfl) rfl rfl hi (.refl w G) hK)
   ·have hE:=hE e
    rw [zjn (e ▸ hb)] at hE
    refine wp_mono (ihy t H _ hE a w G hi ht) ?_
    rintro e2 a2 w2 ⟨e',t2,H2,G2,her2,hk2,hi2,ht2,hd2,hu2,hs2⟩
    cases her2 with
    | normal =>
     obtain ⟨rfl,hq⟩:=hk2
     have hv:a2.tmps.getD u undef=.bool cc:=by have:=ht2.2 u; rw [hq] at this; exact zat.1 this
     exact merged u false y b cc hb (fun v hv=>by simp [zbr,hv]) .normal a2 w2 G2 (fun _=>hv) (fun h=>absurd e h) hu2 hd2.2 hd2.1 hi2 hs2 hK
    | exit j=>exact hk2.elim
    | ret=>exact hk2.elim
  ·rename_i u hm
   obtain ⟨hc,hy⟩:c=.tmp u∧y=.skip:=by
    unfold mrgT at hm
    split at hm
    ·split at hm
     ·split at hm <;> simp at hm
     ·split at hm
      ·split at hm <;> simp at hm
       exact ⟨by rw [hm],rfl⟩
      ·simp at hm
    ·simp at hm
   subst hc hy
   obtain ⟨b,cc,hb,hE,hK⟩:=zrH h
   have hev:a.eval (.tmp u)=.bool b:=by have:=ht.2 u; rw [hb] at this; exact zat.1 this
   refine wp_cond_split hev (fun e=>?_) (fun e=>?_)
   ·have hE:=hE e
    rw [zjn (e ▸ hb)] at hE
    refine wp_mono (ihx t H _ hE a w G hi ht) ?_
    rintro e2 a2 w2 ⟨e',t2,H2,G2,her2,hk2,hi2,ht2,hd2,hu2,hs2⟩
    cases her2 with
    | normal =>
     obtain ⟨rfl,hq⟩:=hk2
     have hv:a2.tmps.getD u undef=.bool cc:=by have:=ht2.2 u; rw [hq] at this; exact zat.1 this
     exact merged u true x b cc hb (fun v hv=>by simp [zbr,hv]) .normal a2 w2 G2 (fun _=>hv) (fun h=>absurd e h) hu2 hd2.2 hd2.1 hi2 hs2 hK
    | exit j=>exact hk2.elim
    | ret=>exact hk2.elim
   ·exact wp_skip (merged u true x b cc hb (fun v hv=>by simp [zbr,hv]) .normal a w G (fun h=>by rw [e] at h; simp at h) (fun _=>hev) (fun _ _=>rfl) rfl rfl hi (.refl w G) hK)
 | block id x ih =>
  intro t H K h a w G hi ht
  refine wp_block (wp_mono (ih t H _ h a w G hi ht) ?_)
  rintro e a1 w1 ⟨e',t1,H1,G1,her,hk,hi1,ht1,hd1,hu1,hs1⟩
  cases her with
  | normal=>exact ⟨.normal,t1,H1,G1,.normal,hk,hi1,ht1,hd1,hu1,hs1⟩
  | exit j =>
   simp only [Exit.inBlock]
   simp only [] at hk
   split at hk
   ·rename_i hj
    have hj:j=id:=by simpa using hj
    rw [if_pos hj]
    exact ⟨.normal,t1,H1,G1,.normal,hk,hi1,ht1,hd1,hu1,hs1⟩
   ·rename_i hj
    have hj:¬ j=id:=by simpa using hj
    rw [if_neg hj]
    exact ⟨.exit j,t1,H1,G1,.exit j,hk,hi1,ht1,hd1,hu1,hs1⟩
  | ret=>exact ⟨.ret,t1,H1,G1,.ret,hk,hi1,ht1,hd1,hu1,hs1⟩
 | loop x ih =>
  intro t H K h a w G hi ht
  simp only [awp,aLoop,zD,zbm] at h
  generalize hkeep:ann ((key x).getD 0)=keep at h
  obtain ⟨n,I,m,⟨gs,hgs⟩,hall⟩:=h
  obtain ⟨xs0',H0,⟨xs0,H',hle0,hleO,hn,h0⟩,hxl',hg'⟩:=zsU gs _ H _ hgs
  obtain ⟨hxll,hxget⟩:=zks hle0
  have hxl:xs0.length=(keep.map fun k=>t.getD k .top).length:=hxll.trans hxl'
  have hg:∀ (w:World) (G:Gh) (tm:Nat→Value),Inv w G H→RepK G (keep.map fun k=>t.getD k .top) tm→∃ G',Inv w G' H'∧RepK G' xs0 tm∧Step w G w G':=by
   intro w G tm hi hk
   obtain ⟨G',i1,k1,s1⟩:=hg' w G tm hi hk
   have hl0:H0.length=n:=by rw [← hn]; exact (zks hleO).1.symm
   obtain ⟨i2,_⟩:=zFL (n:=n) i1 (H':=H') (by rw [← hl0,List.take_length]; exact hleO) (by omega)
   rw [List.drop_eq_nil_of_le (by omega),List.append_nil] at i2
   refine ⟨G',i2,fun i x hx=>?_,s1⟩
   obtain ⟨x',hx',hle⟩:=hxget i x hx
   exact zFM hle (k1 i x' hx')
  have hk0:RepK G (keep.map fun k=>t.getD k .top) (fun i=>a.tmps.getD (keep.getD i 0) undef):=by
   intro i y hy
   simp only [List.getElem?_map,Option.map_eq_some_iff] at hy
   obtain ⟨u,hu,rfl⟩:=hy
   have e:keep.getD i 0=u:=by rw [List.getD_eq_getElem?_getD,hu]; rfl
   show RepA G (t.getD u .top) (a.tmps.getD (keep.getD i 0) undef)
   rw [e]
   exact ht.2 u
  obtain ⟨Gs,his,hks,hss⟩:=hg w G _ hi hk0
  have hts:RepTm Gs t a.tmps:=ht.mono hss.grow
  have hxl0:xs0.length=keep.length:=by simpa using hxl
  refine zCh (P:=P) (α:=List AV×List Ob) (fun y=>m y.1 y.2)
   (fun y a1 w1=>∃ G1,Inv w1 G1 y.2∧y.2.length=n∧y.1.length=keep.length∧I y.1 y.2∧RepTm G1 (fill (zek t (zbr x)) keep y.1) a1.tmps∧(a1.defers=a.defers∧a1.tmps.size=a.tmps.size)∧(∀ u,u ∉ zbr x→a1.tmps.getD u undef=a.tmps.getD u undef)∧Step w Gs w1 G1)
   ?_ (xs0,H') a w ⟨Gs,his,hn,hxl0,h0, ?_,⟨rfl,rfl⟩,fun _ _=>rfl,.refl w Gs⟩
  ·rintro ⟨xs,H1⟩ a1 w1 ⟨G1,hi1,hl1,hxl,hI,ht1,hd1,hu1,hs1⟩
   have hbody:=zAP _ _ hall xs hxl H1 hl1 hI
   refine wp_mono (ih _ _ _ hbody a1 w1 G1 hi1 ht1) ?_
   rintro e a2 w2 ⟨e2,t2,H2,G2,her2,hk2,hi2,ht2,hd2,hu2,hs2⟩
   have hu12:∀ u,u ∉ zbr x→a2.tmps.getD u undef=a.tmps.getD u undef:=fun u hu=>(hu2 u hu).trans (hu1 u hu)
   cases her2 with
   | normal =>
    obtain ⟨xs',H',⟨hle1,hle2,hb3⟩,⟨hb1,hb2⟩,hI2,hlt⟩:=hk2
    obtain ⟨i2',hl'⟩:=zFL hi2 hle2 hb3
    obtain ⟨hxl1,hxg⟩:=zks hle1
    have htk:(H'++H2.drop n).take n=H':=by rw [← hl']; simp
    have i2t:=zF8 i2' (n:=n) (by rw [htk]; exact hb2)
    rw [htk] at i2t
    refine ⟨(xs',H'),⟨G2.trim n,i2t,hl',by rw [hxl1]; simp,hI2, ?_,⟨hd2.1.trans hd1.1,hd2.2.trans hd1.2⟩,hu12, ?_⟩,hlt⟩
    ·have hgs':Grow Gs (G2.trim n):=by
      have hg2:=(hs1.trans hs2).grow
      refine ⟨hg2.rd,fun id l e=>?_⟩
      obtain ⟨l',e',hle⟩:=hg2.loc id l e
      refine ⟨l', ?_,hle⟩
      simp only [Gh.trim]
      rw [if_pos (by have:=his.loc_lt e; omega)]
      exact e'
     refine ⟨by rw [zpv,zgf,← hts.1]; exact hd2.2.trans hd1.2,fun u=>?_⟩
     refine zw2 u (fun v=>RepA (G2.trim n) v (a2.tmps.getD u undef)) _ _ _ ?_ (fun i v hk hv=>?_)
     ·refine zkF u (fun v=>RepA (G2.trim n) v (a2.tmps.getD u undef)) (.top _) _ _ (fun hu=>?_)
      rw [hu12 u hu]
      exact (hts.2 u).mono hgs'
     ·obtain ⟨v',hv',hle⟩:=hxg i v hv
      simp only [List.getElem?_map,hk,Option.map_some,Option.some.injEq] at hv'
      subst hv'
      exact zF9 (zFM hle (ht2.2 u)) (List.all_eq_true.1 hb1 _ (List.mem_of_getElem? hv))
    ·have hst:=hs1.trans hs2
     intro k
     refine ⟨(hst k).os,(hst k).tape,(hst k).output,(hst k).drawn,(hst k).size,(hst k).keep,(hst k).rd,(hst k).rdn,fun id _ l e=>?_,fun id b e=>(hst k).new id b (zxR e).1⟩
     obtain ⟨l',e',hle⟩:=hst.grow.loc id l e
     refine ⟨l', ?_,hle⟩
     simp only [Gh.trim]
     rw [if_pos (by have:=his.loc_lt e; omega)]
     exact e'
   | exit id=>exact ⟨.exit id,t2,H2,G2,.exit id,hk2,hi2,ht2,⟨hd2.1.trans hd1.1,hd2.2.trans hd1.2⟩,hu12,hss.trans (hs1.trans hs2)⟩
   | ret=>exact ⟨.ret,t2,H2,G2,.ret,hk2,hi2,ht2,⟨hd2.1.trans hd1.1,hd2.2.trans hd1.2⟩,hu12,hss.trans (hs1.trans hs2)⟩
  ·refine ⟨by rw [zpv,zgf]; exact hts.1,fun u=>?_⟩
   refine zw2 u (fun v=>RepA Gs v (a.tmps.getD u undef)) _ _ _ ?_ (fun i v hk hv=>?_)
   ·exact zkF u (fun v=>RepA Gs v (a.tmps.getD u undef)) (.top _) _ _ (fun _=>hts.2 u)
   ·have:=hks i v hv
    simp only [List.getD_eq_getElem?_getD,hk,Option.getD_some] at this
    exact this
 | exit id =>
  intro t H K h a w G hi ht
  exact wp_exit ⟨.exit id,t,H,G,.exit id,h,hi,ht,⟨rfl,rfl⟩,fun _ _=>rfl,.refl w G⟩
 | ret =>
  intro t H K h a w G hi ht
  exact wp_ret ⟨.ret,t,H,G,.ret,h,hi,ht,⟨rfl,rfl⟩,fun _ _=>rfl,.refl w G⟩
 | rangeFunc f ps x y=>intro t H K h; exact h.elim
 | scope x=>intro t H K h; exact h.elim
 | label l=>intro t H K h; exact h.elim
 | goto l=>intro t H K h; exact h.elim
 | refuse s=>intro t H K h; exact h.elim
end Go.Abs
end

section
/- Calls: of a function of trees; over the whole heap; over a part of the heap. -/
namespace Go.Abs
variable {P:Program}
def zvZ:AV→Option (FuncId×List AV)
 | .p (.func f cs)=>some (f,cs.map .p)
 | .mclo f cs=>some (f,cs.map fun c=>.bptr c.1 c.2)
 | .bnd f _ _=>some (f,[])
 | _=>none
def zeQ:AV→List AV
 | .bnd _ id off=>[.bptr id off]
 | _=>[]
theorem zCF {G:Gh} {fv:AV} {u:Value} {f:FuncId} {cs:List AV} (h:RepA G fv u) (e:zvZ fv=some (f,cs)):∃ fs vs:Array Value,u=.func (.func f) fs vs∧RepL G (zeQ fv) fs∧RepL G cs vs:=by
 unfold zvZ at e
 split at e
 ·simp only [Option.some.injEq,Prod.mk.injEq] at e
  obtain ⟨rfl,rfl⟩:=e
  obtain ⟨vs,rfl,hn,hv⟩:=zsS h
  refine ⟨#[],vs,rfl,⟨rfl,fun j x hj=>by simp [zeQ] at hj⟩,by simpa using hn,fun j x hj=>?_⟩
  simp only [List.getElem?_map,Option.map_eq_some_iff] at hj
  obtain ⟨c,hc,rfl⟩:=hj
  exact .p _ _ (hv j c hc)
 ·simp only [Option.some.injEq,Prod.mk.injEq] at e
  obtain ⟨rfl,rfl⟩:=e
  cases h with
  | mclo _ _ vs hn hv =>
   refine ⟨#[],vs,rfl,⟨rfl,fun j x hj=>by simp [zeQ] at hj⟩,by simpa using hn,fun j x hj=>?_⟩
   simp only [List.getElem?_map,Option.map_eq_some_iff] at hj
   obtain ⟨c,hc,rfl⟩:=hj
   obtain ⟨b,hb,ev⟩:=hv j c hc
   rw [ev]
   exact .bptr _ _ b hb
 ·simp only [Option.some.injEq,Prod.mk.injEq] at e
  obtain ⟨rfl,rfl⟩:=e
  cases h with
  | bnd _ _ _ b hl =>
   refine ⟨_,_,rfl,⟨rfl,fun j x hj=>?_⟩,rfl,fun j x hj=>by simp at hj⟩
   cases j with
   | zero=>simp [zeQ] at hj; subst hj; exact .bptr _ _ b hl
   | succ j=>simp [zeQ] at hj
 ·simp at e
theorem zEF {G:Gh} {f:FuncId} {caps:List T} {u:Value} (h:RepA G (.p (.func f caps)) u):∃ vs:Array Value,u=.func (.func f) #[] vs∧RepL G (caps.map .p) vs:=by
 obtain ⟨vs,rfl,hn,hv⟩:=zsS h
 refine ⟨vs,rfl,by simpa using hn,fun j x hj=>?_⟩
 simp only [List.getElem?_map,Option.map_eq_some_iff] at hj
 obtain ⟨c,hc,rfl⟩:=hj
 exact .p _ _ (hv j c hc)
theorem zpO {G:Gh} {xs ys:List AV} {vs us:Array Value} (h:RepL G xs vs) (k:RepL G ys us):RepL G (xs++ys) (vs++us):=by
 refine ⟨by simp [h.1,k.1],fun j x hj=>?_⟩
 have e1:=h.1
 rcases Nat.lt_or_ge j xs.length with hl | hl
 ·rw [List.getElem?_append_left hl] at hj
  have e:(vs++us).getD j undef=vs.getD j undef:=by
   simp only [Array.getD_eq_getD_getElem?]
   rw [Array.getElem?_append_left (by omega)]
  rw [e]
  exact h.2 j x hj
 ·rw [List.getElem?_append_right hl] at hj
  have e:(vs++us).getD j undef=us.getD (j - xs.length) undef:=by
   simp only [Array.getD_eq_getD_getElem?]
   rw [Array.getElem?_append_right (by omega),e1]
  rw [e]
  exact k.2 _ x hj
theorem zEX {G G':Gh} (hrd:G'.rd=G.rd) {xs:List AV} {vs:Array Value} {ts:List T} (h:RepL G xs vs) (e:toTs xs=some ts):RepL G' (ts.map .p) vs:=by
 obtain ⟨hl,hs⟩:=zqC e
 refine ⟨by simpa [hl] using h.1,fun j x hj=>?_⟩
 simp only [List.getElem?_map,Option.map_eq_some_iff] at hj
 obtain ⟨t,ht,rfl⟩:=hj
 obtain ⟨c,hc,hct⟩:=hs j t ht
 exact .p _ _ (by rw [hrd]; exact (h.2 j c hc).toT hct)
theorem Move.step {w w':World} {G G':Gh} {H:List Ob} (hm:Move H.length w G w' G') (hi:Inv w G H):Step w G w' G' :=
 fun _=>⟨hm.os,hm.tape,hm.output,hm.drawn,hm.size,hm.keep,hm.rd,hm.rdn,fun id _ l el=>hm.loc id (hi.loc_lt el) l el,hm.new⟩
theorem zyd {fv:AV} {args:List AV} {caps ts:List T} {f:FuncId} {r:AV} {H Hn:List Ob} (hf:fv=.p (.func f caps)) (ha:toTs args=some ts) (h:Fn P f [] ((ts++caps).map .p) r Hn) :
  zoI P fv args (r.shift H.length) H (H++Hn.map (Ob.shift H.length)):=by
 intro w G u vs hi rf rl
 subst hf
 obtain ⟨us,rfl,hu⟩:=zEF rf
 have h1:RepL G.bare (ts.map .p) vs:=zEX (G:=G) (G':=G.bare) rfl rl ha
 have h2:RepL G.bare (caps.map .p) us:=by
  refine ⟨hu.1,fun j x hj=>?_⟩
  have:=hu.2 j x hj
  simp only [List.getElem?_map,Option.map_eq_some_iff] at hj
  obtain ⟨c,hc,rfl⟩:=hj
  have this:=zbp.1 this
  exact .p _ _ this
 have h3:=zpO h1 h2
 rw [← List.map_append] at h3
 refine ⟨f,#[],us,rfl,h.1, ?_⟩
 rw [show (#[]++vs++us:Array Value)=vs++us by simp]
 refine (h.2 w G.bare _ hi.bare h3).mono ?_
 rintro e w' ⟨v,G0,rfl,hrep,hi0,hm⟩
 obtain ⟨i1,s1,c1⟩:=zyU hi hi0 hm
 exact ⟨v,_,rfl,c1 _ _ hrep,i1,s1⟩
def pos:List Nat→Nat→Option Nat
 | [],_=>none
 | i::is,j=>if i=j then some 0 else (pos is j).map (· + 1)
theorem zkf:∀ {ids:List Nat} {i j:Nat},pos ids j=some i→ids[i]? = some j
 | [],i,j,h=>by simp [pos] at h
 | k::ids,i,j,h=>by
  simp only [pos] at h
  split at h
  ·rename_i hk; simp at h; subst h hk; rfl
  ·simp only [Option.map_eq_some_iff] at h
   obtain ⟨i',h1,rfl⟩:=h
   simpa using zkf h1
theorem zkP:∀ {ids:List Nat} {i j:Nat},ids.Nodup→ids[i]? = some j→pos ids j=some i
 | [],i,j,_,h=>by simp at h
 | k::ids,i,j,hn,h=>by
  simp only [List.nodup_cons] at hn
  cases i with
  | zero=>simp at h; simp [pos,h]
  | succ i =>
   simp at h
   have hm:=List.mem_of_getElem? h
   simp only [pos]
   rw [if_neg (fun e=>hn.1 (by rw [e]; exact hm)),zkP hn.2 h]
   rfl
def zcK:List Ob→List Nat→List Ob→List Ob
 | H,i::is,o::os=>zcK (H.set i o) is os
 | H,_,_=>H
theorem zrw:∀ (ids:List Nat) (os H:List Ob),(zcK H ids os).length=H.length
 | [],_,_=>by simp [zcK]
 | _::_,[],_=>by simp [zcK]
 | i::is,o::os,H=>by simp [zcK,zrw is os]
theorem znG:∀ (ids:List Nat) (os H:List Ob) (j:Nat),pos ids j=none→(zcK H ids os)[j]? = H[j]?
 | [],_,_,_,_=>by simp [zcK]
 | _::_,[],_,_,_=>by simp [zcK]
 | i::is,o::os,H,j,h=>by
  simp only [pos] at h
  split at h
  ·simp at h
  ·rename_i hij
   simp only [Option.map_eq_none_iff] at h
   rw [zcK,znG is os _ j h,List.getElem?_set_ne hij]
theorem zzf:∀ (ids:List Nat) (os H:List Ob) (i j:Nat) (o:Ob),ids.Nodup→ids[i]? = some j→j < H.length→os[i]? = some o→(zcK H ids os)[j]? = some o
 | [],_,_,_,_,_,_,h,_,_=>by simp at h
 | _::_,[],_,_,_,_,_,_,_,h=>by simp at h
 | k::is,o'::os,H,i,j,o,hn,h,hl,ho=>by
  simp only [List.nodup_cons] at hn
  cases i with
  | zero =>
   simp at h ho
   subst h ho
   rw [zcK,znG is os _ k]
   ·simp [hl]
   ·cases hp:pos is k with
    | none=>rfl
    | some i=>exact absurd (List.mem_of_getElem? (zkf hp)) hn.1
  | succ i =>
   simp at h ho
   rw [zcK]
   exact zzf is os _ i j o hn.2 h (by simpa using hl) ho
def renF (H:List Ob) (ids:List Nat) (i:Nat):Nat:=if i < ids.length then ids.getD i 0 else H.length + (i - ids.length)
def zfH (H:List Ob) (ids:List Nat) (os:List Ob):List Ob:=zcK H ids os++os.drop ids.length
def zcG (φ:Nat→Nat) (H:List Ob):List Nat→List Ob→Prop
 | [],[]=>True
 | i::is,o::os=>H[i]? = some (o.ren φ)∧zcG φ H is os
 | _,_=>False
theorem znb {φ:Nat→Nat} {H:List Ob}:∀ {ids:List Nat} {os:List Ob},zcG φ H ids os→os.length=ids.length ∧ ∀ (i j:Nat),ids[i]? = some j→∃ o,os[i]? = some o∧H[j]? = some (o.ren φ)
 | [],[],_=>⟨rfl,fun i j h=>by simp at h⟩
 | [],_::_,h=>h.elim
 | _::_,[],h=>h.elim
 | k::ids,o::os,h=>by
  obtain ⟨h1,h2⟩:=znb h.2
  refine ⟨by simp [h1],fun i j hi=>?_⟩
  cases i with
  | zero=>simp at hi; subst hi; exact ⟨o,rfl,h.1⟩
  | succ i=>simp at hi; simpa using h2 i j hi
def Gh.part (G:Gh) (ids:List Nat):Gh:=⟨G.rd,fun i=>(ids[i]?).bind G.loc⟩
theorem ztg {G:Gh} {ids:List Nat} {i:Nat} {l:Loc} (h:(G.part ids).loc i=some l):∃ j,ids[i]? = some j∧G.loc j=some l:=by
 simpa [Gh.part,Option.bind_eq_some_iff] using h
theorem zdy {G:Gh} {ids:List Nat} {i b:Nat} (h:(G.part ids).blk i=some b):∃ j,ids[i]? = some j∧G.blk j=some b:=by
 simp only [Gh.blk,Option.bind_eq_some_iff] at h
 obtain ⟨l,h1,h2⟩:=h
 obtain ⟨j,h3,h4⟩:=ztg h1
 exact ⟨j,h3,by simp [Gh.blk,h4,h2]⟩
theorem znM {G G0:Gh} {φ:Nat→Nat} {k:Nat} (hrd:G0.rd=G.rd) (hloc:∀ i,i < k→G0.loc i=G.loc (φ i)) {x:AV} {v:Value} (hu:x.under1 k=true) (r:RepA G (x.ren1 φ) v):RepA G0 x v:=by
 cases x with
 | p t=>exact .p _ _ (by rw [hrd]; exact zbp.1 r)
 | full es=>cases r with | full _ a h=>exact .full es a (by rw [hrd]; exact h)
 | own id es =>
  simp [AV.under1] at hu
  cases r with | own _ _ a a' cap cap' n s h hl hn he hs=>exact .own id es a a' cap cap' n s (by rw [hrd]; exact h) (by rw [hloc _ hu]; exact hl) hn he hs
 | bptr id off =>
  simp [AV.under1] at hu
  cases r with | bptr _ _ b hl=>exact .bptr id off b (by rw [hloc _ hu]; exact hl)
 | mclo f caps =>
  simp only [AV.under1,List.all_eq_true,decide_eq_true_eq] at hu
  cases r with
  | mclo _ _ vs hn hv =>
   refine .mclo f caps vs (by simpa using hn) (fun j c hj=>?_)
   obtain ⟨b,hb,ev⟩:=hv j (φ c.1,c.2) (by simp [hj])
   exact ⟨b,by rw [hloc _ (hu c (List.mem_of_getElem? hj))]; exact hb,ev⟩
 | top=>exact .top v
 | nils=>cases r with | nils cap=>exact .nils cap
 | nns es=>cases r with | nns _ a cap h=>exact .nns es a cap (by rw [hrd]; exact h)
 | msl id ver s off len =>
  simp [AV.under1] at hu
  cases r with | msl _ _ _ _ _ a a' a2 cap cap' ver' c2 hl hn he hc hm hz h2 ha=>exact .msl id ver s off len a a' a2 cap cap' ver' c2 (by rw [hloc _ hu]; exact hl) hn he hc hm hz h2 ha
 | mptr id ver s i off =>
  simp [AV.under1] at hu
  cases r with | mptr _ _ _ _ _ b o a a' cap cap' ver' hl hn he hi ha=>exact .mptr id ver s i off b o a a' cap cap' ver' (by rw [hloc _ hu]; exact hl) hn he hi ha
 | bnd f id off =>
  simp [AV.under1] at hu
  cases r with | bnd _ _ _ b hl=>exact .bnd f id off b (by rw [hloc _ hu]; exact hl)
 | mapr id =>
  simp [AV.under1] at hu
  cases r with | mapr _ b hl=>exact .mapr id b (by rw [hloc _ hu]; exact hl)
 | agg cs=>simp [AV.under1] at hu
 | tup cs=>simp [AV.under1] at hu
theorem zzi {G G0:Gh} {φ:Nat→Nat} {k:Nat} (hrd:G0.rd=G.rd) (hloc:∀ i,i < k→G0.loc i=G.loc (φ i)) {x:AV} {v:Value} (hu:x.under k=true) (r:RepA G (x.ren φ) v):RepA G0 x v:=by
 cases x with
 | agg cs =>
  simp only [AV.under,List.all_eq_true] at hu
  cases r with
  | agg _ vs hn hv hk =>
   exact .agg cs vs (by simpa using hn) (fun j c hj=>znM hrd hloc (hu c (List.mem_of_getElem? hj)) (hv j _ (by simp [hj]))) (fun j c hj=>hk j (c.ren1 φ) (by simp [hj]))
 | tup cs =>
  simp only [AV.under,List.all_eq_true] at hu
  cases r with
  | tup _ vs hn hv =>
   exact .tup cs vs (by simpa using hn) (fun j c hj=>znM hrd hloc (hu c (List.mem_of_getElem? hj)) (hv j _ (by simp [hj])))
 | _=>exact znM hrd hloc hu r
theorem zqf {w:World} {G G0:Gh} {φ:Nat→Nat} {k:Nat} (hrd:G0.rd=G.rd) (hloc:∀ i,i < k→G0.loc i=G.loc (φ i)) {l:Loc} {ob:Ob} (hu:ob.below k=true) (h:Holds w G l (ob.ren φ)):Holds w G0 l ob:=by
 cases l with
 | box b =>
  cases ob with
  | box cells =>
   obtain ⟨cs,ty,e1,e2,e3,e4⟩:=h
   simp only [Ob.below,List.all_eq_true] at hu
   refine ⟨cs,ty,e1,by simpa using e2,fun j c hj=>?_,by rw [hrd]; exact e4⟩
   have:=e3 j (c.ren1 φ) (by simp [hj])
   exact ⟨znM hrd hloc (hu c (List.mem_of_getElem? hj)) this.1,this.2⟩
  | fz cs=>obtain ⟨e1,e2⟩:=h; exact ⟨e1,by rw [hrd]; exact e2⟩
  | mapo es=>obtain ⟨ms,e1,e2,e3⟩:=h; exact ⟨ms,e1,by rw [hrd]; exact e2,by rw [hrd]; exact e3⟩
  | _=>exact h.elim
 | row a cap n s =>
  cases ob with
  | row n' s'=>exact ⟨h.1,h.2.1,h.2.2.1,by rw [hrd]; exact h.2.2.2⟩
  | _=>exact h.elim
 | mrow a cap v s =>
  cases ob with
  | mrow v' s' es=>exact ⟨h.1,by rw [hrd]; exact h.2⟩
  | frow v' s' es=>exact ⟨h.1,by rw [hrd]; exact h.2⟩
  | _=>exact h.elim
theorem zC2 {w w':World} {G G1:Gh} {H Hout:List Ob} {ids:List Nat} (hi:Inv w G H) (hnd:ids.Nodup) (hlt:∀ (i j:Nat),ids[i]? = some j→j < H.length) (h1:Inv w' G1 Hout) (hm:Move ids.length w (G.part ids) w' G1) :
  ∃ G',Inv w' G' (zfH H ids (Hout.map (Ob.ren (renF H ids))))∧Step w G w' G' ∧ ∀ x v,RepA G1 x v→RepA G' (x.ren (renF H ids)) v:=by
 obtain ⟨G',hG⟩:∃ G':Gh,G'=⟨G1.rd,fun j=>match pos ids j with
  | some i=>G1.loc i
  | none=>if j < H.length then G.loc j else G1.loc (ids.length + (j - H.length))⟩:=⟨_,rfl⟩
 have erd:G'.rd=G1.rd:=by rw [hG]
 have ein:∀ i j,pos ids j=some i→G'.loc j=G1.loc i:=by intro i j h; rw [hG]; simp only [h]
 have eold:∀ j,pos ids j=none→j < H.length→G'.loc j=G.loc j:=by intro j h h2; rw [hG]; simp only [h,h2,if_true]
 have enew:∀ j,pos ids j=none→¬ j < H.length→G'.loc j=G1.loc (ids.length + (j - H.length)):=by intro j h h2; rw [hG]; simp only [h,h2,if_false]
 have hge:∀ j,H.length≤j→pos ids j=none:=by
  intro j h
  cases hp:pos ids j with
  | none=>rfl
  | some i=>have:=hlt i j (zkf hp); omega
 have hloc:∀ i l,G1.loc i=some l→G'.loc (renF H ids i)=some l:=by
  intro i l e
  unfold renF
  split
  ·rename_i h
   rw [ein i _ (zkP hnd (by rw [List.getD_eq_getElem?_getD,List.getElem?_eq_getElem h]; rfl))]
   exact e
  ·rename_i h
   rw [enew _ (hge _ (by omega)) (by omega),show ids.length + (H.length + (i - ids.length) - H.length)=i by omega]
   exact e
 have hpart:∀ i b,G1.blk i=some b→w.heap.size≤b ∨ ∃ (i' j:Nat),ids[i']? = some j∧G.blk j=some b:=by
  intro i b e
  rcases hm.new i b e with h | ⟨i',h⟩
  ·exact .inl h
  ·obtain ⟨j,h2,h3⟩:=zdy h
   exact .inr ⟨i',j,h2,h3⟩
 have hno:∀ i j b,G1.blk i=some b→pos ids j=none→G.blk j=some b→False:=by
  intro i j b e hp e2
  rcases hpart i b e with h | ⟨i',j',h2,h3⟩
  ·have:=hi.blk_lt e2; omega
  ·have:=hi.dis _ _ b h3 e2
   subst this
   rw [zkP hnd h2] at hp
   simp at hp
 have hblk:∀ j b,G'.blk j=some b→(∃ i,pos ids j=some i∧G1.blk i=some b)∨(pos ids j=none∧j < H.length∧G.blk j=some b)∨(pos ids j=none∧H.length≤j∧G1.blk (ids.length + (j - H.length))=some b):=by
  intro j b e
  unfold Gh.blk at e
  cases hp:pos ids j with
  | some i=>rw [ein i j hp] at e; exact .inl ⟨i,rfl,e⟩
  | none =>
   by_cases h:j < H.length
   ·rw [eold j hp h] at e; exact .inr (.inl ⟨rfl,h,e⟩)
   ·rw [enew j hp h] at e; exact .inr (.inr ⟨rfl,by omega,e⟩)
 have hg:Grow G G':=by
  refine ⟨fun b o c e=>by rw [erd]; exact hm.rd b o c e,fun j l e=>?_⟩
  cases hp:pos ids j with
  | none=>exact ⟨l,by rw [eold j hp (hi.loc_lt e)]; exact e,.refl l⟩
  | some i =>
   have hij:=zkf hp
   obtain ⟨l',e',hle⟩:=hm.loc i (by have:=(List.getElem?_eq_some_iff.1 hij).1; exact this) l (by simp [Gh.part,hij,e])
   exact ⟨l',by rw [ein i j hp]; exact e',hle⟩
 have hkeep:∀ b,b < w.heap.size→(∀ j i,pos ids j=some i→G.blk j≠some b)→w'.heap[b]? = w.heap[b]?:=by
  intro b hb hn
  refine hm.keep b hb (fun i e=>?_)
  obtain ⟨j,h2,h3⟩:=zdy e
  exact hn j i (zkP hnd h2) h3
 have hlen:(zcK H ids (Hout.map (Ob.ren (renF H ids)))).length=H.length:=zrw _ _ _
 refine ⟨G',⟨fun b o c e=>h1.rd b o c (by rw [← erd]; exact e),fun j l e=>?_,fun i j b e1 e2=>?_,by rw [erd]; exact h1.tab⟩,fun n=>⟨hm.os,hm.tape,hm.output,hm.drawn,hm.size,fun b hb hn=>hkeep b hb (fun j _ _=>hn j),hg.rd,fun b o c e=>?_,fun id _ l e=>hg.loc id l e,fun j b e=>?_⟩,
  fun x v r=>zD9 (fun _ _ _ e=>by rw [erd]; exact e) hloc r⟩
 ·cases hp:pos ids j with
  | some i =>
   rw [ein i j hp] at e
   obtain ⟨ob,ho,hh⟩:=h1.obj i l e
   have hij:=zkf hp
   refine ⟨ob.ren (renF H ids), ?_,zud erd hloc hh⟩
   unfold zfH
   rw [List.getElem?_append_left (by rw [hlen]; exact hlt i j hij)]
   exact zzf _ _ _ i j _ hnd hij (hlt i j hij) (by simp [ho])
  | none =>
   by_cases h:j < H.length
   ·rw [eold j hp h] at e
    obtain ⟨ob,ho,hh⟩:=hi.obj j l e
    refine ⟨ob, ?_,hh.keep hg hm.size (fun b hb=>?_)⟩
    ·unfold zfH
     rw [List.getElem?_append_left (by rw [hlen]; exact h),znG _ _ _ j hp]
     exact ho
    ·have hbj:G.blk j=some b:=by simp [Gh.blk,e,hb]
     have hlt':=hi.blk_lt hbj
     refine ⟨hkeep b hlt' (fun j' i hp' e'=>?_),fun o ho=>?_⟩
     ·have:=hi.dis _ _ b e' hbj
      subst this
      rw [hp] at hp'; simp at hp'
     ·rw [erd]
      cases e2:G1.rd b o with
      | none=>rfl
      | some c =>
       rcases hm.rdn b o c e2 with h3 | h3 | ⟨i,h3⟩
       ·rw [show (G.part ids).rd b o=none from ho] at h3; simp at h3
       ·omega
       ·obtain ⟨j',h4,h5⟩:=zdy h3
        have:=hi.dis _ _ b h5 hbj
        subst this
        rw [zkP hnd h4] at hp
        simp at hp
   ·rw [enew j hp h] at e
    obtain ⟨ob,ho,hh⟩:=h1.obj _ l e
    refine ⟨ob.ren (renF H ids), ?_,zud erd hloc hh⟩
    unfold zfH
    rw [List.getElem?_append_right (by rw [hlen]; omega),hlen,List.getElem?_drop,List.getElem?_map,ho]
    rfl
 ·rcases hblk i b e1 with ⟨x,h2,h3⟩ | ⟨h2,h3,h4⟩ | ⟨h2,h3,h4⟩ <;> rcases hblk j b e2 with ⟨y,k2,k3⟩ | ⟨k2,k3,k4⟩ | ⟨k2,k3,k4⟩
  ·have:=h1.dis x y b h3 k3
   subst this
   have a1:=zkf h2
   have a2:=zkf k2
   rw [a1] at a2
   simpa using a2
  ·exact (hno x j b h3 k2 k4).elim
  ·have:=h1.dis _ _ b h3 k4
   have:=(List.getElem?_eq_some_iff.1 (zkf h2)).1
   omega
  ·exact (hno y i b k3 h2 h4).elim
  ·exact hi.dis i j b h4 k4
  ·exact (hno _ i b k4 h2 h4).elim
  ·have:=h1.dis _ _ b h4 k3
   have:=(List.getElem?_eq_some_iff.1 (zkf k2)).1
   omega
  ·exact (hno _ j b h4 k2 k4).elim
  ·have:=h1.dis _ _ b h4 k4
   omega
 ·rw [erd] at e
  rcases hm.rdn b o c e with h3 | h3 | ⟨i,h3⟩
  ·exact .inl h3
  ·exact .inr (.inl h3)
  ·obtain ⟨j',_,h5⟩:=zdy h3
   exact .inr (.inr ⟨j',h5⟩)
 ·rcases hblk j b e with ⟨x,_,h3⟩ | ⟨_,_,h4⟩ | ⟨_,_,h4⟩
  ·rcases hpart x b h3 with h | ⟨_,j',_,h⟩
   ·exact .inl h
   ·exact .inr ⟨j',h⟩
  ·exact .inr ⟨j,h4⟩
  ·rcases hpart _ b h4 with h | ⟨_,j',_,h⟩
   ·exact .inl h
   ·exact .inr ⟨j',h⟩
theorem zoN {fv:AV} {args caps args0:List AV} {f:FuncId} {r:AV} {H Hin Hout:List Ob} (ids:List Nat) (hc:zvZ fv=some (f,caps)) (h:Fn P f Hin args0 r Hout)
  (ha:zeQ fv++args++caps=args0.map (AV.ren (renF H ids))) (hnd:ids.Nodup) (hf:zcG (renF H ids) H ids Hin) (hu:args0.all (AV.under ids.length)=true) (hb:Hin.all (Ob.below ids.length)=true) :
  zoI P fv args (r.ren (renF H ids)) H (zfH H ids (Hout.map (Ob.ren (renF H ids)))):=by
 intro w G u vs hi rf rl
 obtain ⟨fs,us,rfl,hcf,hcu⟩:=zCF rf hc
 obtain ⟨hlen,hget⟩:=znb hf
 have hlt:∀ (i j:Nat),ids[i]? = some j→j < H.length:=by
  intro i j e
  obtain ⟨o,_,h2⟩:=hget i j e
  exact (List.getElem?_eq_some_iff.1 h2).1
 have hloc:∀ i,i < ids.length→(G.part ids).loc i=G.loc (renF H ids i):=by
  intro i h
  simp only [Gh.part,renF,h,if_true]
  rw [List.getD_eq_getElem?_getD,List.getElem?_eq_getElem h]
  rfl
 have hin:Inv w (G.part ids) Hin:=by
  refine ⟨hi.rd,fun i l e=>?_,fun i j b e1 e2=>?_,hi.tab⟩
  ·obtain ⟨j,h2,h3⟩:=ztg e
   obtain ⟨o,h4,h5⟩:=hget i j h2
   obtain ⟨ob,h6,h7⟩:=hi.obj j l h3
   rw [h5] at h6; simp at h6; subst h6
   exact ⟨o,h4,zqf (G:=G) (G0:=G.part ids) (k:=ids.length) rfl hloc (List.all_eq_true.1 hb o (List.mem_of_getElem? h4)) h7⟩
  ·obtain ⟨x,h2,h3⟩:=zdy e1
   obtain ⟨y,k2,k3⟩:=zdy e2
   have:=hi.dis _ _ b h3 k3
   subst this
   have a:=zkP hnd h2
   rw [zkP hnd k2] at a
   simpa using a.symm
 have hrl:RepL (G.part ids) args0 (fs++vs++us):=by
  have h2:=zpO (zpO hcf rl) hcu
  rw [ha] at h2
  refine ⟨by simpa using h2.1,fun j x hj=>?_⟩
  exact zzi (G:=G) (G0:=G.part ids) (k:=ids.length) rfl hloc (List.all_eq_true.1 hu x (List.mem_of_getElem? hj)) (h2.2 j (x.ren (renF H ids)) (by simp [hj]))
 refine ⟨f,fs,us,rfl,h.1,(h.2 w (G.part ids) _ hin hrl).mono ?_⟩
 rintro e w' ⟨v,G1,rfl,hr,hi1,hm⟩
 rw [hlen] at hm
 obtain ⟨G',i2,s2,c2⟩:=zC2 hi hnd hlt hi1 hm
 exact ⟨v,G',rfl,c2 _ _ hr,i2,s2⟩
end Go.Abs
end

section
/- Rows that are no longer written; answers with the objects that go with them. -/
namespace Go.Abs
variable {P:Program}
def AV.unm1 (id ver:Nat) (es:List T):AV→AV
 | .msl i v s off len=>if i=id∧v=ver∧off + len≤es.length then .p (.slice ((es.drop off).take len)) else .msl i v s off len
 | x=>x
def AV.unm (id ver:Nat) (es:List T):AV→AV
 | .tup vs=>.tup (vs.map (AV.unm1 id ver es))
 | .agg cs=>.agg (cs.map (AV.unm1 id ver es))
 | x=>x.unm1 id ver es
theorem zGc {G G':Gh} (g:Grow G G') {id ver:Nat} {es:List T} (hh:∀ s off len v,RepA G' (.msl id ver s off len) v→off + len≤es.length→RepT G'.rd (.slice ((es.drop off).take len)) v) {x:AV} {v:Value} (r:RepA G x v):RepA G' (x.unm id ver es) v:=by
 have one:∀ {y:AV} {u:Value},RepA G' y u→RepA G' (y.unm1 id ver es) u:=by
  intro y u r
  unfold AV.unm1
  split
  ·split
   ·rename_i h
    obtain ⟨rfl,rfl,h3⟩:=h
    exact .p _ _ (hh _ _ _ _ r h3)
   ·exact r
  ·exact r
 have r:=r.mono g
 cases x with
 | tup vs =>
  cases r with
  | tup _ us hn hv =>
   refine .tup _ us (by simpa using hn) (fun j c hj=>?_)
   simp only [List.getElem?_map,Option.map_eq_some_iff] at hj
   obtain ⟨c',hc',rfl⟩:=hj
   exact one (hv j c' hc')
 | agg cs =>
  cases r with
  | agg _ us hn hv hk =>
   refine .agg _ us (by simpa using hn) (fun j c hj=>?_) (fun j c hj=>?_) <;>
   ·simp only [List.getElem?_map,Option.map_eq_some_iff] at hj
    obtain ⟨c',hc',rfl⟩:=hj
    first | exact one (hv j c' hc') | exact hk j c' hc'
 | _=>exact one r
theorem zC4 {w:World} {G:Gh} {H:List Ob} (hi:Inv w G H) {id ver s:Nat} {es:List T} (ho:H[id]? = some (.mrow ver s es)) :
  ∃ G',Inv w G' (H.set id (.frow ver s es))∧Step w G w G' ∧ ∀ x v,RepA G x v→RepA G' (x.unm id ver es) v:=by
 have hidl:id < H.length:=(List.getElem?_eq_some_iff.1 ho).1
 have hset:(H.set id (.frow ver s es))[id]? = some (.frow ver s es):=by simp [hidl]
 suffices h:∃ G',Inv w G' (H.set id (.frow ver s es))∧Step w G w G' by
  obtain ⟨G',i1,s1⟩:=h
  exact ⟨G',i1,s1,fun x v r=>zGc s1.grow (fun s off len u r hle=>zt0 i1 hset r hle) r⟩
 have other:∀ {G':Gh},Grow G G'→G'.loc=G.loc→(∀ b o c,G'.rd b o=some c→w.cell? ⟨b,o,none⟩=some c)→(∀ k,G.blk id≠some k→∀ o,G.rd k o=none→G'.rd k o=none)→(∀ l,G.loc id=some l→Holds w G' l (.frow ver s es))→Inv w G' (H.set id (.frow ver s es)):=by
  intro G' g hloc hrd hno hh
  refine ⟨hrd,fun j l e=>?_,fun i j b e1 e2=>hi.dis i j b (by unfold Gh.blk at e1 ⊢; rwa [hloc] at e1) (by unfold Gh.blk at e2 ⊢; rwa [hloc] at e2),hi.tab.keep g.rd (fun _ _ _=>rfl)⟩
  rw [hloc] at e
  by_cases hj:j=id
  ·subst hj; exact ⟨_,hset,hh l e⟩
  ·obtain ⟨ob,ho2,hh2⟩:=hi.obj j l e
   refine ⟨ob,by rw [List.getElem?_set_ne (fun h=>hj h.symm)]; exact ho2,hh2.keep g (Nat.le_refl _) (fun k hk=>⟨rfl,hno k (fun h=>hj (hi.dis j id k (by simp [Gh.blk,e,hk]) h))⟩)⟩
 cases hl:G.loc id with
 | none=>exact ⟨G,other (Grow.refl G) rfl hi.rd (fun _ _ _ h=>h) (fun l e=>by rw [hl] at e; simp at e),.refl w G⟩
 | some l =>
  obtain ⟨ob,ho2,hh⟩:=hi.obj id l hl
  rw [ho] at ho2; simp at ho2; subst ho2
  cases l with
  | box b=>exact hh.elim
  | row a cap n s'=>exact hh.elim
  | mrow a cap v s' =>
   obtain ⟨h1,h2⟩:=hh
   by_cases hcap:0 < cap
   ·obtain ⟨b,o,rfl,⟨cs,ty,e1,e2,e3⟩,e4⟩:=h2 hcap
    have hb:b < w.heap.size:=(Array.getElem?_eq_some_iff.1 e1).1
    have hblk:G.blk id=some b:=by simp [Gh.blk,hl,Loc.blk,hcap]
    have hrd:∀ b' o c,G.rd b' o=some c→(G.withRd b (fun o=>cs[o]?)).rd b' o=some c:=by
     intro b' o c e
     simp only [Gh.withRd]
     rw [if_neg (fun h=>by subst h; rw [e4] at e; simp at e)]
     exact e
    have hg:Grow G (G.withRd b (fun o=>cs[o]?)):=⟨hrd,fun _ l e=>⟨l,e,.refl l⟩⟩
    refine ⟨G.withRd b (fun o=>cs[o]?),other hg rfl (fun b' o' c e=>?_) (fun k hk o' h=>?_) (fun l e=>?_),fun n=>⟨rfl,rfl,rfl,Nat.le_refl _,Nat.le_refl _,fun _ _ _=>rfl,hrd,fun b' o' c e=>?_,fun _ _ l e=>⟨l,e,.refl l⟩,fun j _ e=>.inr ⟨j,e⟩⟩⟩
    ·simp only [Gh.withRd] at e
     split at e
     ·rename_i h
      subst h
      unfold World.cell?
      simp [e1,e]
     ·exact hi.rd b' o' c e
    ·simp only [Gh.withRd]
     rw [if_neg (fun e=>by subst e; exact hk hblk)]
     exact h
    ·rw [hl] at e; simp at e; subst e
     refine ⟨h1,fun _=>⟨b,o,rfl,hb,fun i j e c he hc=>?_⟩⟩
     obtain ⟨g1,g2⟩:=e3 i j e c he hc
     have hj:j < s':=by
      have:=(List.getElem?_eq_some_iff.1 hc).1
      rwa [h1.2.2.2 e (List.mem_of_getElem? he)] at this
     have hi3:i < cap:=by have:=(List.getElem?_eq_some_iff.1 he).1; have:=h1.2.2.1; omega
     have hmul:(i + 1) * s'≤cap * s':=Nat.mul_le_mul_right _ hi3
     rw [Nat.add_mul] at hmul
     have hlt:o + i * s' + j < cs.size:=by omega
     have ev:cs.getD (o + i * s' + j) undef=cs[o + i * s' + j]:=by simp [Array.getD_eq_getD_getElem?,Array.getElem?_eq_getElem hlt]
     rw [ev] at g1 g2
     exact ⟨_,by simp [Gh.withRd,Array.getElem?_eq_getElem hlt],g1.mono hrd,g2⟩
    ·simp only [Gh.withRd] at e
     split at e
     ·rename_i h; exact .inr (.inr ⟨id,by rw [h]; exact hblk⟩)
     ·exact .inl e
   ·refine ⟨G,other (Grow.refl G) rfl hi.rd (fun _ _ _ h=>h) (fun l e=>?_),.refl w G⟩
    rw [hl] at e; simp at e; subst e
    exact ⟨h1,fun h=>absurd h hcap⟩
end Go.Abs
end

section
/- Functions. -/
namespace Go.Abs
variable {P:Program}
def aRes (P:Program):List ResultVar→List AV→List Ob→(List AV→Prop)→Prop
 | [],_,_,K=>K []
 | .tmp u::r,t,H,K=>aRes P r t H fun vs=>K (t.getD u .top::vs)
 | .cell u ty::r,t,H,K=>match P.underlying ty,P.info? ty with
  | some d,some i=>match aggD d || i.size == 1 with
   | true=>aLoad (aggD d) i.size (t.getD u .top) H fun v=>aRes P r t H fun vs=>K (v::vs)
   | false=>False
  | _,_=>False
def tupOf:List AV→AV
 | [v]=>v
 | vs=>.tup vs
def Gives (n:Nat) (v:AV) (H:List Ob) (r:AV) (Hout:List Ob):Prop:=∀ (w:World) (G:Gh) (u:Value),Inv w G H→RepA G v u→∃ G',Inv w G' Hout∧RepA G' r u∧Move n w G w G'
def aEnd (P:Program) (rs:List ResultVar) (n:Nat) (r:AV) (Hout:List Ob) (e:AExit) (t:List AV) (H:List Ob):Prop :=
 match e with
 | .exit _=>False
 | _=>aRes P rs t H fun vs=>Gives n (tupOf vs) H r Hout
def aBody (P:Program) (ann:Nat→List Nat) (fn:Func) (Hin:List Ob) (args:List AV) (r:AV) (Hout:List Ob):Prop :=
 match fn.body with
 | some c=>awp P ann c (args++List.replicate (fn.ntmps - args.length) .top) Hin (aEnd P fn.results.toList Hin.length r Hout)
 | none=>False
theorem zAM {agg:Bool} {s:Nat} {x:AV} {H:List Ob} {K:AV→Prop} (hz:agg=true∨s=1) (h:aLoad agg s x H K) :
  ∃ r,K r ∧ ∀ (w:World) (G:Gh) (v:Value),Inv w G H→RepA G x v→∃ b o f,v=.pointer (some ⟨b,o,none⟩)∧(∀ j,j < s→w.cell? ⟨b,o + j,none⟩=some (f j)) ∧
   RepA G r (if agg then .agg ((List.range s).map f).toArray else f 0):=by
 unfold aLoad at h
 split at h
 ·rename_i id off
  split at h
  ·rename_i cells hob
   obtain ⟨h1,h2⟩:=h
   refine ⟨_,h2,fun w G v hinv rx=>?_⟩
   cases rx with
   | bptr _ _ b hl =>
    obtain ⟨ob,ho,hh⟩:=hinv.obj id _ hl
    rw [hob] at ho; simp at ho; subst ho
    obtain ⟨cs,ty,e1,e2,e3,e4⟩:=hh
    refine ⟨b,off,fun j=>cs.getD (off + j) undef,rfl,fun j hj=>?_, ?_⟩
    ·have hlt:off + j < cs.size:=by omega
     unfold World.cell?
     simp [e1,Array.getElem?_eq_getElem hlt,Array.getD_eq_getD_getElem?]
    ·cases hb:agg with
     | true=>exact zzc h1 (fun j c hj=>e3 _ c hj)
     | false =>
      have hs:s=1:=by
       rcases hz with h | h
       ·rw [hb] at h; simp at h
       ·exact h
      simpa using (e3 off (cells.getD off .top) (zcR (by omega) _)).1
  ·rename_i cs hob
   obtain ⟨h1,h2⟩:=h
   refine ⟨_,h2,fun w G v hinv rx=>?_⟩
   cases rx with
   | bptr _ _ b hl =>
    obtain ⟨ob,ho,hh⟩:=hinv.obj id _ hl
    rw [hob] at ho; simp at ho; subst ho
    obtain ⟨e1,e2⟩:=hh
    refine ⟨b,off,fun j=>(G.rd b (off + j)).getD undef,rfl,fun j hj=>?_,.p _ _ ?_⟩
    ·obtain ⟨v,g1,g2,g3⟩:=e2 (off + j) _ (zcR (by omega) default)
     rw [hinv.rd _ _ _ g1]
     show some v=some ((G.rd b (off + j)).getD undef)
     rw [g1]; rfl
    ·cases hb:agg with
     | true =>
      refine zir h1 (fun j c hj=>?_)
      obtain ⟨v,g1,g2,g3⟩:=e2 _ c hj
      show RepT G.rd c ((G.rd b (off + j)).getD undef)∧zQ ((G.rd b (off + j)).getD undef)=true
      rw [g1]; exact ⟨g2,g3⟩
     | false =>
      have hs:s=1:=by
       rcases hz with h | h
       ·rw [hb] at h; simp at h
       ·exact h
      obtain ⟨v,g1,g2,g3⟩:=e2 off (cs.getD off default) (zcR (by omega) _)
      simp only [Bool.false_eq_true,if_false,Nat.add_zero,g1,Option.getD_some]
      exact g2
  ·exact h.elim
 ·rename_i cs off
  obtain ⟨h1,h2⟩:=h
  refine ⟨_,h2,fun w G v hinv rx=>?_⟩
  have rx:=zbp.1 rx
  cases rx with
  | imm _ _ b o' val hr hv hk =>
   refine ⟨b,o' + off,fun j=>val (off + j),rfl,fun j hj=>?_,.p _ _ ?_⟩
   ·rw [Nat.add_assoc]
    exact hinv.rd _ _ _ (hr (off + j) _ (zcR (by omega) default))
   ·cases hb:agg with
    | true=>exact zir h1 (fun j c hj=>⟨hv _ c hj,hk _ c hj⟩)
    | false =>
     have hs:s=1:=by
      rcases hz with h | h
      ·rw [hb] at h; simp at h
      ·exact h
     exact hv off (cs.getD off default) (zcR (by omega) _)
 ·rename_i id ver s' i off
  have row:∀ {es:List T} {v2 s2:Nat},(H[id]? = some (.mrow v2 s2 es)∨H[id]? = some (.frow v2 s2 es))→((v2=ver∧s2=s'∧i < es.length∧off + s≤s')∧K (.p (if agg then .agg (((es.getD i default).cells.drop off).take s) else (es.getD i default).cells.getD off default))) →
    ∃ r,K r ∧ ∀ (w:World) (G:Gh) (v:Value),Inv w G H→RepA G (.mptr id ver s' i off) v→∃ b o f,v=.pointer (some ⟨b,o,none⟩)∧(∀ j,j < s→w.cell? ⟨b,o + j,none⟩=some (f j))∧RepA G r (if agg then .agg ((List.range s).map f).toArray else f 0):=by
   intro es v2 s2 hob h
   obtain ⟨⟨rfl,rfl,h4,h5⟩,h2⟩:=h
   refine ⟨_,h2,fun w G v hinv rx=>?_⟩
   cases rx with
   | mptr _ _ _ _ _ b o a a' cap cap' ver' hl hn he hi ha =>
    obtain ⟨rfl,_,h6,h7,h8⟩:=zi2 hinv hob hl
    obtain ⟨rfl,rfl⟩:=he rfl
    obtain ⟨b',o',f,e1,hf⟩:=h8 (by omega)
    rw [ha] at e1
    simp at e1
    obtain ⟨rfl,rfl⟩:=e1
    have hei:=zcR h4 default
    have hcl:=h7 _ (List.mem_of_getElem? hei)
    refine ⟨b,o + i * s2 + off,fun j=>f i (off + j),rfl,fun j hj=>?_,.p _ _ ?_⟩
    ·rw [Nat.add_assoc]
     exact (hf i (off + j) _ _ hei (zcR (by omega) default)).1
    ·cases hb:agg with
     | true=>exact zir (by omega) (fun j c hj=>(hf i _ _ c hei hj).2)
     | false =>
      have hs:s=1:=by
       rcases hz with h | h
       ·rw [hb] at h; simp at h
       ·exact h
      exact (hf i off _ _ hei (zcR (by omega) default)).2.1
  split at h
  ·rename_i hob; exact row (.inl hob) h
  ·rename_i hob; exact row (.inr hob) h
  ·exact h.elim
 ·exact h.elim
def zxE (tm:Array Value):ResultVar→Sem Value
 | .tmp t=>pure (tm.getD t undef)
 | .cell a t=>do loadVar t (← asAddr (tm.getD a undef))
theorem zue:∀ (rs:List ResultVar) (t:List AV) (H:List Ob) (K:List AV→Prop),aRes P rs t H K→∀ (w:World) (G:Gh) (tm:Array Value),Inv w G H→RepTm G t tm →
  ∃ xs vs,K xs∧(rs.mapM (zxE tm)).run P w=.ok vs w∧vs.length=xs.length ∧ ∀ (j:Nat) (x:AV) (v:Value),xs[j]? = some x→vs[j]? = some v→RepA G x v
 | [],t,H,K,h,w,G,tm,_,_=>⟨[],[],h,by simp,rfl,fun j x v hx=>by simp at hx⟩
 | .tmp u::r,t,H,K,h,w,G,tm,hi,ht=>by
  simp only [aRes] at h
  obtain ⟨xs,vs,h1,h2,h3,h4⟩:=zue r t H _ h w G tm hi ht
  refine ⟨_,tm.getD u undef::vs,h1, ?_,by simp [h3],fun j x v hx hv=>?_⟩
  ·rw [List.mapM_cons,Sem.run_bind]
   show (Result.ok (tm.getD u undef) w).andThen _=_
   simp only [Result.andThen,Sem.run_bind,h2,Sem.run_pure]
  ·cases j with
   | zero=>simp only [List.getElem?_cons_zero,Option.some.injEq] at hx hv; subst hx hv; exact ht.2 u
   | succ j=>simp only [List.getElem?_cons_succ] at hx hv; exact h4 j x v hx hv
 | .cell u ty::r,t,H,K,h,w,G,tm,hi,ht=>by
  simp only [aRes] at h
  split at h
  ·rename_i d i hd hinfo
   split at h
   ·rename_i hz
    have hz:aggD d=true∨i.size=1:=by simpa using hz
    obtain ⟨x0,hk,hval⟩:=zAM hz h
    obtain ⟨xs,vs,h1,h2,h3,h4⟩:=zue r t H _ hk w G tm hi ht
    obtain ⟨b,o,f,ev,hc,hr⟩:=hval w G _ hi (ht.2 u)
    have hrun:=zr3 (P:=P) hd hinfo hz hc
    refine ⟨_,(if aggD d then .agg ((List.range i.size).map f).toArray else f 0)::vs,h1, ?_,by simp [h3],fun j x v hx hv=>?_⟩
    ·have h0:(zxE tm (.cell u ty)).run P w=.ok (if aggD d then .agg ((List.range i.size).map f).toArray else f 0) w:=by
      simp only [zxE,ev,asAddr]
      simp only [Instr.loadAt,Instr.sureAddr] at hrun
      exact hrun
     rw [List.mapM_cons,Sem.run_bind,h0]
     simp only [Result.andThen,Sem.run_bind,h2,Sem.run_pure]
    ·cases j with
     | zero=>simp only [List.getElem?_cons_zero,Option.some.injEq] at hx hv; subst hx hv; exact hr
     | succ j=>simp only [List.getElem?_cons_succ] at hx hv; exact h4 j x v hx hv
   ·exact h.elim
  ·exact h.elim
theorem zBR {fn:Func} {tm:Array Value} {w:World} {vs:List Value} (h:(fn.results.toList.mapM (zxE tm)).run P w=.ok vs w) :
  (results fn tm).run P w=.ok (if h:vs.toArray.size=1 then vs.toArray[0] else .tuple vs.toArray) w:=by
 have e:results fn tm=(do let vs ← fn.results.mapM (zxE tm); pure (if h:vs.size=1 then vs[0] else .tuple vs)):=by
  unfold results
  congr 2
 rw [e,Array.mapM_eq_mapM_toList]
 simp only [Sem.run_bind,Sem.run_map,h,Result.andThen]
 rfl
theorem zEZ {G:Gh} {xs:List AV} {vs:List Value} (hl:vs.length=xs.length) (h:∀ (j:Nat) (x:AV) (v:Value),xs[j]? = some x→vs[j]? = some v→RepA G x v):RepA G (tupOf xs) (if h:vs.toArray.size=1 then vs.toArray[0] else .tuple vs.toArray):=by
 have tup:∀ (xs:List AV) (vs:List Value),vs.length=xs.length→(∀ (j:Nat) (x:AV) (v:Value),xs[j]? = some x→vs[j]? = some v→RepA G x v)→RepA G (.tup xs) (.tuple vs.toArray):=by
  intro xs vs hl h
  refine .tup xs vs.toArray (by simpa using hl) (fun j c hj=>?_)
  have hlt:j < vs.length:=by have:=(List.getElem?_eq_some_iff.1 hj).1; omega
  have:=h j c vs[j] hj (List.getElem?_eq_getElem hlt)
  simpa [Array.getD_eq_getD_getElem?,List.getElem?_eq_getElem hlt] using this
 match xs,vs,hl with
 | [],[],_=>simpa [tupOf] using tup [] [] rfl (fun j x v hx=>by simp at hx)
 | [x],[v],_=>simpa [tupOf] using h 0 x v rfl rfl
 | x::y::xs,u::v::vs,hl=>simpa [tupOf] using tup (x::y::xs) (u::v::vs) hl h
theorem zDO {G:Gh} {args:List AV} {vs:Array Value} (h:RepL G args vs) (n:Nat):RepTm G (args++List.replicate (n - args.length) .top) (vs++Array.replicate (n - vs.size) undef):=by
 refine ⟨by simp [h.1],fun i=>?_⟩
 rcases Nat.lt_or_ge i args.length with hi | hi
 ·have e1:(args++List.replicate (n - args.length) AV.top).getD i .top=args[i]:=by
   rw [List.getD_eq_getElem?_getD,List.getElem?_append_left hi,List.getElem?_eq_getElem hi]; rfl
  have e2:(vs++Array.replicate (n - vs.size) undef).getD i undef=vs.getD i undef:=by
   simp only [Array.getD_eq_getD_getElem?]
   rw [Array.getElem?_append_left (by rw [h.1]; exact hi)]
  rw [e1,e2]
  exact h.2 i _ (List.getElem?_eq_getElem hi)
 ·have e1:(args++List.replicate (n - args.length) AV.top).getD i .top=.top:=by
   rw [List.getD_eq_getElem?_getD,List.getElem?_append_right hi]
   by_cases hk:i - args.length < n - args.length
   ·simp [hk]
   ·simp [hk]
  rw [e1]
  exact .top _
theorem zh (hm:P.follows .mixedOrders=true) (ann:Nat→List Nat) {f:FuncId} {fn:Func} (hf:P.funcs[f]? = some fn) (hc:zcD P f=true) {Hin Hout:List Ob} {args:List AV} {r:AV} (h:aBody P ann fn Hin args r Hout):Fn P f Hin args r Hout:=by
 refine ⟨hc,fun w G vs hi hv=>?_⟩
 unfold aBody at h
 cases hb:fn.body with
 | none=>simp [hb] at h
 | some c =>
  simp only [hb] at h
  refine calls_of_wp hf hb ?_
  have ht:=zDO hv fn.ntmps
  refine wp_mono (zEn hm ann c _ Hin _ h { tmps:=vs++Array.replicate (fn.ntmps - vs.size) undef,defers:=[] } w G hi ht) ?_
  rintro e a w' ⟨e',t,H,G',her,hk,hi',ht',hd,_,hs⟩
  have fin:aRes P fn.results.toList t H (fun vs=>Gives Hin.length (tupOf vs) H r Hout)→a.defers=[] ∧ ∃ v,(results fn a.tmps).run P w'=.ok v w' ∧ ∃ v' G'',Ending.returned v=.returned v'∧RepA G'' r v'∧Inv w' G'' Hout∧Move Hin.length w G w' G'':=by
   intro hres
   obtain ⟨xs,us,h1,h2,h3,h4⟩:=zue _ _ _ _ hres w' G' a.tmps hi' ht'
   obtain ⟨G2,i2,r2,m2⟩:=h1 w' G' _ hi' (zEZ h3 h4)
   exact ⟨hd.1,_,zBR h2,_,G2,rfl,r2,i2,(hs _).trans m2⟩
  cases her with
  | normal=>exact fin hk
  | ret=>exact fin hk
  | exit id=>exact hk.elim
theorem zsR {f:FuncId} {es:List T} {as:List AV} {r:AV} {Ho:List Ob} (h1:es=[]→Fn P f [] (.nils::as) r Ho) (h2:Fn P f [] (.nns es::as) r Ho):Fn P f [] (.p (.slice es)::as) r Ho:=by
 refine ⟨h2.1,fun w G vs hi hv=>?_⟩
 have r0:=zbp.1 (hv.2 0 _ rfl)
 have tail:∀ x,RepA G x (vs.getD 0 undef)→RepL G (x::as) vs:=by
  intro x hx
  refine ⟨by simpa using hv.1,fun j c hj=>?_⟩
  cases j with
  | zero=>simp at hj; subst hj; exact hx
  | succ j=>exact hv.2 (j + 1) c (by simpa using hj)
 generalize hv0:vs.getD 0 undef=v0 at r0
 cases r0 with
 | nil a cap =>
  cases a with
  | some a=>exact h2.2 w G vs hi (tail _ (by rw [hv0]; exact .nns [] a cap (.nil (some a) cap)))
  | none=>exact (h1 rfl).2 w G vs hi (tail _ (by rw [hv0]; exact .nils cap))
 | slice es b o cap s val hs hr hv' hk hl hc=>exact h2.2 w G vs hi (tail _ (by rw [hv0]; exact .nns es ⟨b,o,none⟩ cap (.slice es b o cap s val hs hr hv' hk hl hc)))
theorem zj {v r:AV} {H:List Ob} (h:v.pur=some r):Gives 0 v H r []:=by
 intro w G u hi hr
 refine ⟨G.bare,hi.bare,hr.pur h (fun _ _ _ e=>e),⟨rfl,rfl,rfl,Nat.le_refl _,Nat.le_refl _,fun _ _ _=>rfl,fun _ _ _ e=>e,fun _ _ _ e=>.inl e,fun id hid=>by omega,fun id b e=>by simp [zku] at e⟩⟩
def Gh.only (G:Gh) (id:Nat):Gh:=⟨G.rd,fun i=>if i=0 then G.loc id else none⟩
theorem zF0 {w:World} {G:Gh} {H:List Ob} (hi:Inv w G H) {id n s:Nat} (ho:H[id]? = some (.row n s)):Inv w (G.only id) [.row n s]∧Move 0 w G w (G.only id):=by
 have hblk:∀ i b,(G.only id).blk i=some b→i=0∧G.blk id=some b:=by
  intro i b e
  simp only [Gh.blk,Gh.only] at e ⊢
  split at e
  ·rename_i h; exact ⟨h,e⟩
  ·simp at e
 refine ⟨⟨hi.rd,fun i l e=>?_,fun i j b e1 e2=>by rw [(hblk i b e1).1,(hblk j b e2).1],hi.tab⟩,⟨rfl,rfl,rfl,Nat.le_refl _,Nat.le_refl _,fun _ _ _=>rfl,fun _ _ _ e=>e,fun _ _ _ e=>.inl e,fun id hid=>by omega,fun i b e=>.inr ⟨id,(hblk i b e).2⟩⟩⟩
 simp only [Gh.only] at e
 split at e
 ·rename_i h
  subst h
  obtain ⟨ob,ho',hh⟩:=hi.obj id l e
  rw [ho] at ho'; simp at ho'; subst ho'
  refine ⟨.row n s,rfl, ?_⟩
  cases l with
  | box b=>exact hh.elim
  | mrow=>exact hh.elim
  | row a cap k s'=>exact hh
 ·simp at e
theorem zqw {n:Nat} {v r:AV} {H Hout:List Ob} (ids:List Nat) (hv:v=r.ren (renF H ids)) (h0:ids.take n=List.range n) (hnd:ids.Nodup) (hf:zcG (renF H ids) H ids Hout) (hu:r.under ids.length=true) (hb:Hout.all (Ob.below ids.length)=true) :
  Gives n v H r Hout:=by
 intro w G u hi hr
 obtain ⟨hlen,hget⟩:=znb hf
 have hloc:∀ i,i < ids.length→(G.part ids).loc i=G.loc (renF H ids i):=by
  intro i h
  simp only [Gh.part,renF,h,if_true]
  rw [List.getD_eq_getElem?_getD,List.getElem?_eq_getElem h]
  rfl
 refine ⟨G.part ids,⟨hi.rd,fun i l e=>?_,fun i j b e1 e2=>?_,hi.tab⟩, ?_,⟨rfl,rfl,rfl,Nat.le_refl _,Nat.le_refl _,fun _ _ _=>rfl,fun _ _ _ e=>e,fun _ _ _ e=>.inl e,fun i hid l e=>?_,fun i b e=>?_⟩⟩
 ·obtain ⟨j,h2,h3⟩:=ztg e
  obtain ⟨o,h4,h5⟩:=hget i j h2
  obtain ⟨ob,h6,h7⟩:=hi.obj j l h3
  rw [h5] at h6; simp at h6; subst h6
  exact ⟨o,h4,zqf (G:=G) (G0:=G.part ids) (k:=ids.length) rfl hloc (List.all_eq_true.1 hb o (List.mem_of_getElem? h4)) h7⟩
 ·obtain ⟨x,h2,h3⟩:=zdy e1
  obtain ⟨y,k2,k3⟩:=zdy e2
  have:=hi.dis _ _ b h3 k3
  subst this
  have a:=zkP hnd h2
  rw [zkP hnd k2] at a
  simpa using a.symm
 ·subst hv
  exact zzi (G:=G) (G0:=G.part ids) (k:=ids.length) rfl hloc hu hr
 ·have hid2:ids[i]? = some i:=by
   have h1:(ids.take n)[i]? = some i:=by rw [h0]; simp [hid]
   rw [List.getElem?_take,if_pos hid] at h1
   exact h1
  exact ⟨l,by simp [Gh.part,hid2,e],.refl l⟩
 ·obtain ⟨j,_,h3⟩:=zdy e
  exact .inr ⟨j,h3⟩
theorem zzT {n:Nat} {v r:AV} {H Hout:List Ob} {id ver s:Nat} {es:List T} (ho:H[id]? = some (.mrow ver s es)) (h:Gives n (v.unm id ver es) (H.set id (.frow ver s es)) r Hout):Gives n v H r Hout:=by
 intro w G u hi hr
 obtain ⟨G',i1,s1,c1⟩:=zC4 hi ho
 obtain ⟨G2,i2,r2,m2⟩:=h w G' u i1 (c1 _ _ hr)
 exact ⟨G2,i2,r2,(s1 n).trans m2⟩
theorem zEG {id n s:Nat} {es:List T} {H:List Ob} (ho:H[id]? = some (.row n s)):Gives 0 (.own id es) H (.own 0 es) [.row n s]:=by
 intro w G u hi hr
 obtain ⟨i1,m1⟩:=zF0 hi ho
 refine ⟨_,i1, ?_,m1⟩
 cases hr with
 | own _ _ a a' cap cap' k s' h hl hn he hs=>exact .own 0 es a a' cap cap' k s' h (by simp [Gh.only,hl]) hn he hs
end Go.Abs
end
