/- The library's tables that this program reads: where they lie and what they hold. -/
import Derived.Orders
import Derived.Lib.ItoaNum
import Derived.Below
import Derived.Laws.Sem
import Derived.Laws.Strings
import Derived.Laws.Tables
import Derived.Laws.Cells
import Derived.Laws.BytesString
import Derived.MapKept

section
/- The library's tables that this program reads: where they lie and what they hold. -/
namespace Go.Abs
def tabs:List (Nat×List Value) :=
 [(1,Lib.pow10Tab.map (Value.int .u64))]
end Go.Abs
end

section
/- Abstract values (trees) for the model's values, what it means that a value in a world represents one, and how that is kept while the world moves on. -/
namespace Go.Abs
inductive T where
 | bool (b:Bool)
 | int (k:IntKind) (n:Int)
 | str (s:List UInt8)
 | slice (es:List T)
 | imm (cs:List T) (off:Nat)
 | func (f:FuncId) (caps:List T)
 | agg (cs:List T)
 | raw (v:Value)
instance:Inhabited T:=⟨.bool false⟩
def T.cells:T→List T
 | .agg cs=>cs
 | t=>[t]
inductive AV where
 | p (t:T)
 | full (es:List T)
 | own (id:Nat) (es:List T)
 | bptr (id off:Nat)
 | mclo (f:FuncId) (caps:List (Nat×Nat))
 | top
 | agg (cs:List AV)
 | tup (vs:List AV)
 | nils
 | nns (es:List T)
 | msl (id ver s off len:Nat)
 | mptr (id ver s i off:Nat)
 | bnd (f:FuncId) (id off:Nat)
 | mapr (id:Nat)
instance:Inhabited AV:=⟨.top⟩
inductive Ob where
 | box (cells:List AV)
 | fz (cs:List T)
 | row (n s:Nat)
 | mrow (ver s:Nat) (es:List T)
 | frow (ver s:Nat) (es:List T)
 | mode
 | mapo (es:List (T×T))
def zQ:Value→Bool
 | .agg _=>false
 | .tuple _=>false
 | _=>true
abbrev Rd:=Nat→Nat→Option Value
inductive RepT (rd:Rd):T→Value→Prop where
 | bool (b:Bool):RepT rd (.bool b) (.bool b)
 | int (k:IntKind) (n:Int):RepT rd (.int k n) (.int k n)
 | str (s:List UInt8) (h:s.length≤maxLen):RepT rd (.str s) (.string ⟨s.toArray⟩)
 | raw (v:Value) (h:zQ v=true):RepT rd (.raw v) v
 | nil (a:Option Addr) (cap:Nat):RepT rd (.slice []) (.slice a 0 cap)
 | slice (es:List T) (b o cap s:Nat) (val:Nat→Nat→Value) (hs:∀ e∈es,e.cells.length=s)
   (hr:∀ i j e c,es[i]? = some e→e.cells[j]? = some c→rd b (o + i * s + j)=some (val i j))
   (hv:∀ i j e c,es[i]? = some e→e.cells[j]? = some c→RepT rd c (val i j)) (hk:∀ i j e c,es[i]? = some e→e.cells[j]? = some c→zQ (val i j)=true) (hl:es.length≤maxLen) (hc:es.length≤cap) :
   RepT rd (.slice es) (.slice (some ⟨b,o,none⟩) es.length cap)
 | imm (cs:List T) (off b o:Nat) (val:Nat→Value) (hr:∀ j c,cs[j]? = some c→rd b (o + j)=some (val j))
   (hv:∀ j c,cs[j]? = some c→RepT rd c (val j)) (hk:∀ j c,cs[j]? = some c→zQ (val j)=true):RepT rd (.imm cs off) (.pointer (some ⟨b,o + off,none⟩))
 | func (f:FuncId) (caps:List T) (vs:Array Value) (hn:vs.size=caps.length) (hv:∀ j c,caps[j]? = some c→RepT rd c (vs.getD j undef)) :
   RepT rd (.func f caps) (.func (.func f) #[] vs)
 | agg (cs:List T) (vs:Array Value) (hn:vs.size=cs.length) (hv:∀ j c,cs[j]? = some c→RepT rd c (vs.getD j undef))
   (hk:∀ j c,cs[j]? = some c→zQ (vs.getD j undef)=true):RepT rd (.agg cs) (.agg vs)
inductive Loc where
 | box (b:Nat)
 | row (a:Option Addr) (cap n s:Nat)
 | mrow (a:Option Addr) (cap ver s:Nat)
structure Gh where
 rd:Rd
 loc:Nat→Option Loc
def Loc.blk:Loc→Option Nat
 | .box b=>some b
 | .row (some a) cap n _=>if n < cap then some a.block else none
 | .row none _ _ _=>none
 | .mrow (some a) cap _ _=>if 0 < cap then some a.block else none
 | .mrow none _ _ _=>none
def Gh.blk (G:Gh) (i:Nat):Option Nat:=(G.loc i).bind Loc.blk
inductive Loc.le:Loc→Loc→Prop where
 | box (b:Nat):Loc.le (.box b) (.box b)
 | row (a a':Option Addr) (cap cap' n n' s:Nat) (hn:n≤n') (he:n=n'→a=a'∧cap=cap'):Loc.le (.row a cap n s) (.row a' cap' n' s)
 | mrow (a a':Option Addr) (cap cap' v v' s:Nat) (hn:v≤v') (he:v=v'→a=a'∧cap=cap'):Loc.le (.mrow a cap v s) (.mrow a' cap' v' s)
theorem Loc.le.refl (l:Loc):l.le l:=by
 cases l with
 | box b=>exact .box b
 | row a cap n s=>exact .row _ _ _ _ _ _ _ (Nat.le_refl _) (fun _=>⟨rfl,rfl⟩)
 | mrow a cap n s=>exact .mrow _ _ _ _ _ _ _ (Nat.le_refl _) (fun _=>⟨rfl,rfl⟩)
theorem Loc.le.trans {a b c:Loc} (h:a.le b) (k:b.le c):a.le c:=by
 cases h with
 | box b=>exact k
 | row a1 a2 c1 c2 n1 n2 s hn he =>
  cases k with
  | row _ a3 _ c3 _ n3 _ hn' he' =>
   refine .row _ _ _ _ _ _ _ (Nat.le_trans hn hn') (fun h=>?_)
   have h2:n2=n3:=by omega
   obtain ⟨rfl,rfl⟩:=he' h2
   exact he (by omega)
 | mrow a1 a2 c1 c2 n1 n2 s hn he =>
  cases k with
  | mrow _ a3 _ c3 _ n3 _ hn' he' =>
   refine .mrow _ _ _ _ _ _ _ (Nat.le_trans hn hn') (fun h=>?_)
   have h2:n2=n3:=by omega
   obtain ⟨rfl,rfl⟩:=he' h2
   exact he (by omega)
inductive RepA (G:Gh):AV→Value→Prop where
 | p (t:T) (v:Value) (h:RepT G.rd t v):RepA G (.p t) v
 | full (es:List T) (a:Option Addr) (h:RepT G.rd (.slice es) (.slice a es.length es.length)):RepA G (.full es) (.slice a es.length es.length)
 | own (id:Nat) (es:List T) (a a':Option Addr) (cap cap' n s:Nat) (h:RepT G.rd (.slice es) (.slice a es.length cap))
   (hl:G.loc id=some (.row a' cap' n s)) (hn:es.length≤n) (he:es.length=n→a=a'∧cap=cap') (hs:∀ e∈es,e.cells.length=s) :
   RepA G (.own id es) (.slice a es.length cap)
 | bptr (id off b:Nat) (hl:G.loc id=some (.box b)):RepA G (.bptr id off) (.pointer (some ⟨b,off,none⟩))
 | mclo (f:FuncId) (caps:List (Nat×Nat)) (vs:Array Value) (hn:vs.size=caps.length)
   (hv:∀ j c,caps[j]? = some c→∃ b,G.loc c.1=some (.box b)∧vs.getD j undef=.pointer (some ⟨b,c.2,none⟩)):RepA G (.mclo f caps) (.func (.func f) #[] vs)
 | top (v:Value):RepA G .top v
 | agg (cs:List AV) (vs:Array Value) (hn:vs.size=cs.length) (hv:∀ j c,cs[j]? = some c→RepA G c (vs.getD j undef))
   (hk:∀ j c,cs[j]? = some c→zQ (vs.getD j undef)=true):RepA G (.agg cs) (.agg vs)
 | tup (cs:List AV) (vs:Array Value) (hn:vs.size=cs.length) (hv:∀ j c,cs[j]? = some c→RepA G c (vs.getD j undef)):RepA G (.tup cs) (.tuple vs)
 | nils (cap:Nat):RepA G .nils (.slice none 0 cap)
 | nns (es:List T) (a:Addr) (cap:Nat) (h:RepT G.rd (.slice es) (.slice (some a) es.length cap)):RepA G (.nns es) (.slice (some a) es.length cap)
 | msl (id ver s off len:Nat) (a a' a2:Option Addr) (cap cap' ver' c2:Nat) (hl:G.loc id=some (.mrow a' cap' ver' s)) (hn:ver≤ver') (he:ver=ver'→a=a'∧cap=cap') (hc:off + len≤cap) (hm:len≤maxLen)
   (hz:0 < cap→∃ b o,a=some ⟨b,o,none⟩) (h2:c2=cap - off) (ha:off < cap→a2=a.map (·.add (off * s))):RepA G (.msl id ver s off len) (.slice a2 len c2)
 | mptr (id ver s i off b o:Nat) (a a':Option Addr) (cap cap' ver':Nat) (hl:G.loc id=some (.mrow a' cap' ver' s)) (hn:ver≤ver') (he:ver=ver'→a=a'∧cap=cap') (hi:i < cap) (ha:a=some ⟨b,o,none⟩) :
   RepA G (.mptr id ver s i off) (.pointer (some ⟨b,o + i * s + off,none⟩))
 | bnd (f:FuncId) (id off b:Nat) (hl:G.loc id=some (.box b)):RepA G (.bnd f id off) (.func (.func f) #[.pointer (some ⟨b,off,none⟩)] #[])
 | mapr (id b:Nat) (hl:G.loc id=some (.box b)):RepA G (.mapr id) (.map (some b))
theorem RepT.mono {rd rd':Rd} (h:∀ b o c,rd b o=some c→rd' b o=some c) {t:T} {v:Value} (r:RepT rd t v):RepT rd' t v:=by
 induction r with
 | bool b=>exact .bool b
 | int k n=>exact .int k n
 | str s hl=>exact .str s hl
 | raw v h=>exact .raw v h
 | nil a cap=>exact .nil a cap
 | slice es b o cap s val hs hr _ hk hl hc ih=>exact .slice es b o cap s val hs (fun i j e c he hc=>h _ _ _ (hr i j e c he hc)) ih hk hl hc
 | imm cs off b o val hr _ hk ih=>exact .imm cs off b o val (fun j c hc=>h _ _ _ (hr j c hc)) ih hk
 | func f caps vs hn _ ih=>exact .func f caps vs hn ih
 | agg cs vs hn _ hk ih=>exact .agg cs vs hn ih hk
structure Grow (G G':Gh):Prop where
 rd:∀ b o c,G.rd b o=some c→G'.rd b o=some c
 loc:∀ id l,G.loc id=some l→∃ l',G'.loc id=some l'∧l.le l'
theorem Grow.refl (G:Gh):Grow G G:=⟨fun _ _ _ h=>h,fun _ l h=>⟨l,h,.refl l⟩⟩
theorem Grow.trans {a b c:Gh} (h:Grow a b) (k:Grow b c):Grow a c :=
 ⟨fun x y z e=>k.rd x y z (h.rd x y z e),fun id l e=>let ⟨_,e',hl⟩:=h.loc id l e; let ⟨l2,e2,hl2⟩:=k.loc id _ e'; ⟨l2,e2,hl.trans hl2⟩⟩
theorem RepA.mono {G G':Gh} (g:Grow G G') {x:AV} {v:Value} (r:RepA G x v):RepA G' x v:=by
 induction r with
 | p t v h=>exact .p t v (h.mono g.rd)
 | full es a h=>exact .full es a (h.mono g.rd)
 | own id es a a' cap cap' n s h hl hn he hs =>
  obtain ⟨l',hl',hle⟩:=g.loc id _ hl
  cases hle with
  | row _ a2 _ c2 _ n2 _ hn2 he2 =>
   refine .own id es a a2 cap c2 n2 s (h.mono g.rd) hl' (Nat.le_trans hn hn2) (fun e=>?_) hs
   have h3:n=n2:=by omega
   obtain ⟨rfl,rfl⟩:=he2 h3
   exact he (by omega)
 | bptr id off b hl =>
  obtain ⟨l',hl',hle⟩:=g.loc id _ hl
  cases hle
  exact .bptr id off b hl'
 | mclo f caps vs hn hv =>
  refine .mclo f caps vs hn (fun j c hj=>?_)
  obtain ⟨b,hb,hval⟩:=hv j c hj
  obtain ⟨l',hl',hle⟩:=g.loc _ _ hb
  cases hle
  exact ⟨b,hl',hval⟩
 | top v=>exact .top v
 | agg cs vs hn _ hk ih=>exact .agg cs vs hn ih hk
 | tup cs vs hn _ ih=>exact .tup cs vs hn ih
 | nils cap=>exact .nils cap
 | nns es a cap h=>exact .nns es a cap (h.mono g.rd)
 | msl id ver s off len a a' a2 cap cap' ver' c2 hl hn he hc hm hz h2 ha =>
  obtain ⟨l',hl',hle⟩:=g.loc id _ hl
  cases hle with
  | mrow _ a3 _ c3 _ n3 _ hn3 he3 =>
   refine .msl id ver s off len a a3 a2 cap c3 n3 c2 hl' (Nat.le_trans hn hn3) (fun e=>?_) hc hm hz h2 ha
   have h3:ver'=n3:=by omega
   obtain ⟨rfl,rfl⟩:=he3 h3
   exact he (by omega)
 | mptr id ver s i off b o a a' cap cap' ver' hl hn he hi ha =>
  obtain ⟨l',hl',hle⟩:=g.loc id _ hl
  cases hle with
  | mrow _ a3 _ c3 _ n3 _ hn3 he3 =>
   refine .mptr id ver s i off b o a a3 cap c3 n3 hl' (Nat.le_trans hn hn3) (fun e=>?_) hi ha
   have h3:ver'=n3:=by omega
   obtain ⟨rfl,rfl⟩:=he3 h3
   exact he (by omega)
 | bnd f id off b hl =>
  obtain ⟨l',hl',hle⟩:=g.loc id _ hl
  cases hle
  exact .bnd f id off b hl'
 | mapr id b hl =>
  obtain ⟨l',hl',hle⟩:=g.loc id _ hl
  cases hle
  exact .mapr id b hl'
def zba (rd:Rd) (ms:Array MapEntry) (es:List (T×T)):Prop :=
 ms.size=es.length ∧ ∀ (i:Nat) (x:T×T),es[i]? = some x→∃ e,ms[i]? = some e∧e.born=i∧RepT rd x.1 e.key∧RepT rd x.2 e.val
theorem zba.mono {rd rd':Rd} (h:∀ b o c,rd b o=some c→rd' b o=some c) {ms:Array MapEntry} {es:List (T×T)} (r:zba rd ms es):zba rd' ms es:=by
 refine ⟨r.1,fun i x e=>?_⟩
 obtain ⟨y,h1,h2,h3,h4⟩:=r.2 i x e
 exact ⟨y,h1,h2,h3.mono h,h4.mono h⟩
def Holds (w:World) (G:Gh):Loc→Ob→Prop
 | .box b,.box cells=>∃ cs ty,w.heap[b]? = some (.cells cs ty (0,0))∧cs.size=cells.length∧(∀ j c,cells[j]? = some c→RepA G c (cs.getD j undef)∧zQ (cs.getD j undef)=true)∧(∀ o,G.rd b o=none)
 | .box b,.fz cs=>b < w.heap.size ∧ ∀ j c,cs[j]? = some c→∃ v,G.rd b j=some v∧RepT G.rd c v∧zQ v=true
 | .box b,.mapo es=>∃ ms,w.heap[b]? = some (.map ms es.length)∧zba G.rd ms es∧(∀ o,G.rd b o=none)
 | .row a cap n s,.row n' s'=>n=n'∧s=s'∧n≤cap∧(n < cap→∃ b o,a=some ⟨b,o,none⟩∧(∃ cs ty fr,w.heap[b]? = some (.cells cs ty fr)∧o + cap * s≤cs.size) ∧
   (∀ k,n * s≤k→k < cap * s→w.frozen? ⟨b,o + k,none⟩=false∧G.rd b (o + k)=none))
 | .mrow a cap v s,.mrow v' s' es=>(v=v'∧s=s'∧es.length≤cap ∧ ∀ e∈es,e.cells.length=s)∧(0 < cap→∃ b o,a=some ⟨b,o,none⟩∧(∃ cs ty,w.heap[b]? = some (.cells cs ty (0,0))∧o + cap * s≤cs.size ∧
   (∀ i j e c,es[i]? = some e→e.cells[j]? = some c→RepT G.rd c (cs.getD (o + i * s + j) undef)∧zQ (cs.getD (o + i * s + j) undef)=true))∧(∀ o',G.rd b o'=none))
 | .mrow a cap v s,.frow v' s' es=>(v=v'∧s=s'∧es.length≤cap ∧ ∀ e∈es,e.cells.length=s)∧(0 < cap→∃ b o,a=some ⟨b,o,none⟩∧b < w.heap.size ∧
   (∀ i j e c,es[i]? = some e→e.cells[j]? = some c→∃ u,G.rd b (o + i * s + j)=some u∧RepT G.rd c u∧zQ u=true))
 | _,_=>False
def TabOk (w:World) (rd:Rd):Prop:=∀ g cs,(g,cs)∈tabs→(∃ ty fr,w.heap[g]? = some (.cells cs.toArray ty fr))∧cs≠[] ∧ ∀ o v,cs[o]? = some v→rd g o=some v
theorem TabOk.keep {w w':World} {rd rd':Rd} (h:TabOk w rd) (hr:∀ b o c,rd b o=some c→rd' b o=some c) (hk:∀ g,(∃ o c,rd g o=some c)→g < w.heap.size→w'.heap[g]? = w.heap[g]?):TabOk w' rd':=by
 intro g cs hm
 obtain ⟨⟨ty,fr,e⟩,hne,hc⟩:=h g cs hm
 obtain ⟨x,r,rfl⟩:=List.exists_cons_of_ne_nil hne
 exact ⟨⟨ty,fr,by rw [hk g ⟨0,x,hc 0 x rfl⟩ (Array.getElem?_eq_some_iff.1 e).1]; exact e⟩,hne,fun o v h=>hr _ _ _ (hc o v h)⟩
structure Inv (w:World) (G:Gh) (H:List Ob):Prop where
 rd:∀ b o c,G.rd b o=some c→w.cell? ⟨b,o,none⟩=some c
 obj:∀ id l,G.loc id=some l→∃ ob,H[id]? = some ob∧Holds w G l ob
 dis:∀ i j b,G.blk i=some b→G.blk j=some b→i=j
 tab:TabOk w G.rd
structure Move (n:Nat) (w:World) (G:Gh) (w':World) (G':Gh):Prop where
 os:w'.os=w.os
 tape:w'.tape=w.tape
 output:w'.output=w.output
 drawn:w.drawn≤w'.drawn
 size:w.heap.size≤w'.heap.size
 keep:∀ b,b < w.heap.size→(∀ id,G.blk id≠some b)→w'.heap[b]? = w.heap[b]?
 rd:∀ b o c,G.rd b o=some c→G'.rd b o=some c
 rdn:∀ b o c,G'.rd b o=some c→G.rd b o=some c∨w.heap.size≤b ∨ ∃ id,G.blk id=some b
 loc:∀ id,id < n→∀ l,G.loc id=some l→∃ l',G'.loc id=some l'∧l.le l'
 new:∀ id b,G'.blk id=some b→w.heap.size≤b ∨ ∃ j,G.blk j=some b
theorem Move.refl (n:Nat) (w:World) (G:Gh):Move n w G w G :=
 ⟨rfl,rfl,rfl,Nat.le_refl _,Nat.le_refl _,fun _ _ _=>rfl,fun _ _ _ h=>h,fun _ _ _ h=>.inl h,fun _ _ l h=>⟨l,h,.refl l⟩,fun id _ h=>.inr ⟨id,h⟩⟩
theorem Move.trans {n:Nat} {w1 w2 w3:World} {G1 G2 G3:Gh} (h:Move n w1 G1 w2 G2) (k:Move n w2 G2 w3 G3):Move n w1 G1 w3 G3:=by
 refine ⟨k.os.trans h.os,k.tape.trans h.tape,k.output.trans h.output,Nat.le_trans h.drawn k.drawn,Nat.le_trans h.size k.size,fun b hb hn=>?_,fun b o c e=>k.rd _ _ _ (h.rd _ _ _ e),
  fun b o c e=>?_,fun id hid l e=>?_,fun id b e=>?_⟩
 ·rw [k.keep b (Nat.lt_of_lt_of_le hb h.size) (fun id e=>?_),h.keep b hb hn]
  rcases h.new id b e with h1 | ⟨j,hj⟩
  ·omega
  ·exact hn j hj
 ·rcases k.rdn b o c e with h1 | h1 | ⟨id,h1⟩
  ·exact h.rdn b o c h1
  ·exact .inr (.inl (Nat.le_trans h.size h1))
  ·rcases h.new id b h1 with h2 | h2
   ·exact .inr (.inl h2)
   ·exact .inr (.inr h2)
 ·obtain ⟨l',e',hl⟩:=h.loc id hid l e
  obtain ⟨l2,e2,hl2⟩:=k.loc id hid l' e'
  exact ⟨l2,e2,hl.trans hl2⟩
 ·rcases k.new id b e with h1 | ⟨j,hj⟩
  ·exact .inl (Nat.le_trans h.size h1)
  ·exact h.new j b hj
def Step (w:World) (G:Gh) (w':World) (G':Gh):Prop:=∀ n,Move n w G w' G'
theorem Step.grow {w w':World} {G G':Gh} (h:Step w G w' G'):Grow G G':=⟨(h 0).rd,fun id=>(h (id + 1)).loc id (Nat.lt_succ_self _)⟩
theorem Step.refl (w:World) (G:Gh):Step w G w G:=fun n=>.refl n w G
theorem Step.trans {w1 w2 w3:World} {G1 G2 G3:Gh} (h:Step w1 G1 w2 G2) (k:Step w2 G2 w3 G3):Step w1 G1 w3 G3:=fun n=>(h n).trans (k n)
theorem Inv.blk_lt {w:World} {G:Gh} {H:List Ob} (h:Inv w G H) {id b:Nat} (e:G.blk id=some b):b < w.heap.size:=by
 unfold Gh.blk at e
 cases hl:G.loc id with
 | none=>simp [hl] at e
 | some l =>
  obtain ⟨ob,ho,hh⟩:=h.obj id l hl
  rw [hl] at e
  cases l with
  | box b' =>
   simp [Loc.blk] at e; subst e
   cases ob with
   | box cells =>
    obtain ⟨cs,ty,hb,_⟩:=hh
    rcases Nat.lt_or_ge b' w.heap.size with h1 | h1
    ·exact h1
    ·simp [Array.getElem?_eq_none h1] at hb
   | fz cs=>exact hh.1
   | mapo es =>
    obtain ⟨ms,hb,_⟩:=hh
    rcases Nat.lt_or_ge b' w.heap.size with h1 | h1
    ·exact h1
    ·simp [Array.getElem?_eq_none h1] at hb
   | row n s=>exact hh.elim
   | _=>exact hh.elim
  | mrow a cap n s =>
   cases a with
   | none=>simp [Loc.blk] at e
   | some a =>
    simp only [Option.bind_some,Loc.blk] at e
    split at e
    ·rename_i hlt
     simp at e
     cases ob with
     | mrow v s' es =>
      obtain ⟨b',o,ha,⟨cs,ty,hb,_⟩,_⟩:=hh.2 hlt
      simp at ha
      subst ha
      simp at e
      subst e
      rcases Nat.lt_or_ge b' w.heap.size with h1 | h1
      ·exact h1
      ·simp [Array.getElem?_eq_none h1] at hb
     | frow v s' es =>
      obtain ⟨b',o,ha,hb,_⟩:=hh.2 hlt
      simp at ha
      subst ha
      simp at e
      subst e
      exact hb
     | _=>exact hh.elim
    ·simp at e
  | row a cap n s =>
   cases a with
   | none=>simp [Loc.blk] at e
   | some a =>
    simp only [Option.bind_some,Loc.blk] at e
    split at e
    ·rename_i hlt
     simp at e
     cases ob with
     | row n' s' =>
      obtain ⟨_,_,_,hx⟩:=hh
      obtain ⟨b',o,ha,⟨cs,ty,fr,hb,_⟩,_⟩:=hx hlt
      simp at ha
      subst ha
      simp at e
      subst e
      rcases Nat.lt_or_ge b' w.heap.size with h1 | h1
      ·exact h1
      ·simp [Array.getElem?_eq_none h1] at hb
     | _=>exact hh.elim
    ·simp at e
end Go.Abs
end

section
/- The abstract operations: what each operation of the model does on abstract values, as a proposition over what comes behind it. -/
namespace Go.Abs
def AV.cellT:AV→Option T
 | .p t=>some t
 | .full es=>some (.slice es)
 | .own _ es=>some (.slice es)
 | .nils=>some (.slice [])
 | .nns es=>some (.slice es)
 | _=>none
def allT:List AV→Option (List T)
 | []=>some []
 | v::r=>match v.cellT,allT r with
  | some t,some ts=>some (t::ts)
  | _,_=>none
def AV.toT:AV→Option T
 | .agg cs=>match allT cs with
  | some ts=>some (.agg ts)
  | none=>none
 | v=>v.cellT
def toTs:List AV→Option (List T)
 | []=>some []
 | v::r=>match v.toT,toTs r with
  | some t,some ts=>some (t::ts)
  | _,_=>none
def AV.pur:AV→Option AV
 | .tup vs=>match toTs vs with
  | some ts=>some (.tup (ts.map .p))
  | none=>none
 | v=>match v.toT with
  | some t=>some (.p t)
  | none=>none
def AV.cells:AV→List AV
 | .agg cs=>cs
 | .p t=>t.cells.map .p
 | v=>[v]
def AV.elems:AV→Option (List T)
 | .p (.slice es)=>some es
 | .full es=>some es
 | .own _ es=>some es
 | .nils=>some []
 | .nns es=>some es
 | _=>none
def AV.storable:AV→Bool
 | .top=>false
 | .tup _=>false
 | _=>true
def AV.ren1 (φ:Nat→Nat):AV→AV
 | .own id es=>.own (φ id) es
 | .bptr id off=>.bptr (φ id) off
 | .mclo f caps=>.mclo f (caps.map fun c=>(φ c.1,c.2))
 | .msl id ver s off len=>.msl (φ id) ver s off len
 | .mptr id ver s i off=>.mptr (φ id) ver s i off
 | .bnd f id off=>.bnd f (φ id) off
 | .mapr id=>.mapr (φ id)
 | .agg _=>.top
 | .tup _=>.top
 | v=>v
def AV.ren (φ:Nat→Nat):AV→AV
 | .tup vs=>.tup (vs.map (AV.ren1 φ))
 | .agg cs=>.agg (cs.map (AV.ren1 φ))
 | v=>v.ren1 φ
def Ob.ren (φ:Nat→Nat):Ob→Ob
 | .box cells=>.box (cells.map (AV.ren1 φ))
 | ob=>ob
abbrev AV.shift (n:Nat) (v:AV):AV:=v.ren (n + ·)
abbrev Ob.shift (n:Nat) (ob:Ob):Ob:=ob.ren (n + ·)
def AV.under1 (n:Nat):AV→Bool
 | .own id _=>decide (id < n)
 | .bptr id _=>decide (id < n)
 | .mclo _ caps=>caps.all fun c=>decide (c.1 < n)
 | .msl id _ _ _ _=>decide (id < n)
 | .mptr id _ _ _ _=>decide (id < n)
 | .bnd _ id _=>decide (id < n)
 | .mapr id=>decide (id < n)
 | .agg _=>false
 | .tup _=>false
 | _=>true
def AV.under (n:Nat):AV→Bool
 | .agg cs=>cs.all (AV.under1 n)
 | .tup cs=>cs.all (AV.under1 n)
 | v=>v.under1 n
def Ob.below (n:Nat):Ob→Bool
 | .box cells=>cells.all (AV.under1 n)
 | _=>true
def moded:List Ob→Bool
 | .mode::_=>true
 | _=>false
def zmB:Value→AV
 | .bool b=>.p (.bool b)
 | .int k n=>.p (.int k n)
 | .string s=>if s.data.toList.length≤1000000 then .p (.str s.data.toList) else .top
 | .slice none 0 0=>.full []
 | .pointer none=>.p (.raw (.pointer none))
 | .nilFunc=>.p (.raw .nilFunc)
 | .nilIface=>.p (.raw .nilIface)
 | .map none=>.p (.raw (.map none))
 | _=>.top
def zgx (v:Value):AV :=
 match v with
 | .agg vs=>match vs.toList.all zQ with
  | true=>.agg (vs.toList.map zmB)
  | false=>.top
 | v=>zmB v
def rho (t:List AV):Operand→AV
 | .tmp i=>t.getD i .top
 | .const v=>zgx v
 | .func f=>.p (.func f [])
 | .global _=>.top
def RepL (G:Gh) (xs:List AV) (vs:Array Value):Prop:=vs.size=xs.length ∧ ∀ j x,xs[j]? = some x→RepA G x (vs.getD j undef)
def zcD (P:Program) (f:FuncId):Bool :=
 match P.funcs[f]? with
 | some fn=>fn.body.isSome && !(fn.name == "runtime.NumGoroutine")
 | none=>false
def Fn (P:Program) (f:FuncId) (Hin:List Ob) (args:List AV) (r:AV) (Hout:List Ob):Prop :=
 zcD P f=true ∧ ∀ w G vs,Inv w G Hin→RepL G args vs→Calls P f vs w fun e w'=>∃ v G',e=.returned v∧RepA G' r v∧Inv w' G' Hout∧Move Hin.length w G w' G'
def aPick (c a b:AV) (K:AV→Prop):Prop :=
 match c with
 | .p (.bool x)=>cond x (K a) (K b)
 | _=>False
def zbz (x:AV) (K:AV→Prop):Prop :=
 match x with
 | .bptr _ _=>K x
 | .p (.imm _ _)=>K x
 | .p (.func _ _)=>K x
 | .mclo _ _=>K x
 | .mptr _ _ _ _ _=>K x
 | .bnd _ _ _=>K x
 | _=>False
def zdM (op:BinOp) (k:IntKind) (a b:Int) (K:AV→Prop):Prop :=
 match op with
 | .add=>K (.p (.int k (k.wrap (a + b))))
 | .sub=>K (.p (.int k (k.wrap (a - b))))
 | .mul=>K (.p (.int k (k.wrap (a * b))))
 | .quo=>b≠0∧K (.p (.int k (k.wrap (a.tdiv b))))
 | .rem=>b≠0∧K (.p (.int k (a.tmod b)))
 | .and=>K (.p (.int k (k.wrap (BitVec.ofInt k.bits a &&& BitVec.ofInt k.bits b).toNat)))
 | .or=>K (.p (.int k (k.wrap (BitVec.ofInt k.bits a ||| BitVec.ofInt k.bits b).toNat)))
 | .xor=>K (.p (.int k (k.wrap (BitVec.ofInt k.bits a ^^^ BitVec.ofInt k.bits b).toNat)))
 | .andNot=>K (.p (.int k (k.wrap (BitVec.ofInt k.bits a &&& ~~~BitVec.ofInt k.bits b).toNat)))
 | .shl=>0≤b∧K (.p (.int k (k.wrap (a * 2 ^ (min b.toNat k.bits)))))
 | .shr=>0≤b∧K (.p (.int k (a.fdiv (2 ^ (min b.toNat k.bits)))))
 | .eql=>K (.p (.bool (a == b)))
 | .neq=>K (.p (.bool (a != b)))
 | .lss=>K (.p (.bool (decide (a < b))))
 | .leq=>K (.p (.bool (decide (a≤b))))
 | .gtr=>K (.p (.bool (decide (b < a))))
 | .geq=>K (.p (.bool (decide (b≤a))))
def zAh (op:BinOp) (a b:List UInt8) (K:AV→Prop):Prop :=
 match op with
 | .add=>a.length + b.length≤maxLen∧K (.p (.str (a++b)))
 | .eql=>K (.p (.bool (a == b)))
 | .neq=>K (.p (.bool (!(a == b))))
 | .lss=>K (.p (.bool (Op.bytesLess a b)))
 | .leq=>K (.p (.bool (Op.bytesLess a b || a == b)))
 | .gtr=>K (.p (.bool (!(Op.bytesLess a b || a == b))))
 | .geq=>K (.p (.bool (!Op.bytesLess a b)))
 | _=>False
def zs1 (P:Program) (t:TypeId):Bool:=match P.underlying t with | some .bool=>true | _=>false
def zxf (P:Program) (t:TypeId):Bool:=match P.underlying t with | some (.pointer _)=>true | _=>false
def eqBin (isBool isPtr:Bool) (op:BinOp) (x y:AV) (K:AV→Prop):Prop :=
 match op,x,y with
 | .eql,.p (.bool a),.p (.bool b)=>isBool=true∧K (.p (.bool (a == b)))
 | .neq,.p (.bool a),.p (.bool b)=>isBool=true∧K (.p (.bool (!(a == b))))
 | .eql,.p (.raw (.pointer none)),.p (.raw (.pointer none))=>isPtr=true∧K (.p (.bool true))
 | .neq,.p (.raw (.pointer none)),.p (.raw (.pointer none))=>isPtr=true∧K (.p (.bool false))
 | .eql,.bptr _ _,.p (.raw (.pointer none))=>isPtr=true∧K (.p (.bool false))
 | .neq,.bptr _ _,.p (.raw (.pointer none))=>isPtr=true∧K (.p (.bool true))
 | .eql,.p (.imm _ _),.p (.raw (.pointer none))=>isPtr=true∧K (.p (.bool false))
 | .neq,.p (.imm _ _),.p (.raw (.pointer none))=>isPtr=true∧K (.p (.bool true))
 | _,_,_=>False
def isSlT (P:Program) (t:TypeId):Bool:=match P.underlying t with | some (.slice _)=>true | _=>false
def aNil (isSl:Bool) (op:BinOp) (x:AV) (K:AV→Prop):Prop :=
 match op,x with
 | .eql,.nils=>isSl=true∧K (.p (.bool true))
 | .neq,.nils=>isSl=true∧K (.p (.bool false))
 | .eql,.nns _=>isSl=true∧K (.p (.bool false))
 | .neq,.nns _=>isSl=true∧K (.p (.bool true))
 | .eql,.msl _ _ _ _ len=>(0 < len∧isSl=true)∧K (.p (.bool false))
 | .neq,.msl _ _ _ _ len=>(0 < len∧isSl=true)∧K (.p (.bool true))
 | .eql,x=>match x.elems with
  | some es=>(es≠[]∧isSl=true)∧K (.p (.bool false))
  | none=>False
 | .neq,x=>match x.elems with
  | some es=>(es≠[]∧isSl=true)∧K (.p (.bool true))
  | none=>False
 | _,_=>False
def isIfT (P:Program) (t:TypeId):Bool:=match P.underlying t with | some (.interface _)=>true | _=>false
def aNilI (isIf:Bool) (op:BinOp) (x:AV) (K:AV→Prop):Prop :=
 match op,x with
 | .eql,.p (.raw .nilIface)=>isIf=true∧K (.p (.bool true))
 | .neq,.p (.raw .nilIface)=>isIf=true∧K (.p (.bool false))
 | _,_=>False
def zDa:Operand→Bool
 | .const .nilIface=>true
 | _=>false
def zC9:Operand→Bool
 | .const (.slice none 0 0)=>true
 | _=>false
def aBin (isBool isPtr:Bool) (op:BinOp) (x y:AV) (K:AV→Prop):Prop :=
 match x,y with
 | .p (.int k a),.p (.int k' b)=>match op with
  | .shl=>zdM .shl k a b K
  | .shr=>zdM .shr k a b K
  | op=>k=k'∧zdM op k a b K
 | .p (.str a),.p (.str b)=>zAh op a b K
 | x,y=>eqBin isBool isPtr op x y K
def aUn (op:UnOp) (x:AV) (K:AV→Prop):Prop :=
 match op,x with
 | .neg,.p (.int k n)=>K (.p (.int k (k.wrap (0 - n))))
 | .xor,.p (.int k n)=>K (.p (.int k (k.wrap (BitVec.ofInt k.bits (if k.signed then -1 else k.max) ^^^ BitVec.ofInt k.bits n).toNat)))
 | .not,.p (.bool b)=>K (.p (.bool (!b)))
 | _,_=>False
def zbR:List T→Option (List UInt8)
 | []=>some []
 | .int .u8 n::r=>match zbR r with
  | some l=>some (UInt8.ofNat n.toNat::l)
  | none=>none
 | _=>none
def byteT (b:UInt8):T:=.int .u8 b.toNat
def zhi (k:IntKind) (x:AV) (K:AV→Prop):Prop :=
 match x with
 | .p (.int _ n)=>K (.p (.int k (k.wrap n)))
 | _=>False
def zvJ (x:AV) (K:AV→Prop):Prop :=
 match x with
 | .p (.str s)=>K (.p (.str s))
 | _=>False
def zyN (x:AV) (K:AV→Prop):Prop :=
 match x.elems with
 | some es=>match zbR es with
  | some l=>K (.p (.str l))
  | none=>False
 | none=>False
def zql (x:AV) (K:AV→Prop):Prop :=
 match x with
 | .p (.str s)=>K (.p (.slice (s.map byteT)))
 | _=>False
def aConv (P:Program) (src dst:TypeId) (x:AV) (K:AV→Prop):Prop :=
 match P.underlying src,P.underlying dst with
 | some _,some (.int k)=>zhi k x K
 | some .string,some .string=>zvJ x K
 | some (.slice e),some .string=>match P.underlying e with
  | some (.int .u8)=>zyN x K
  | _=>False
 | some .string,some (.slice e)=>match P.underlying e with
  | some (.int .u8)=>zql x K
  | _=>False
 | _,_=>False
def za (off:Nat) (x:AV) (K:AV→Prop):Prop :=
 match x with
 | .bptr id o=>K (.bptr id (o + off))
 | .p (.imm cs o)=>K (.p (.imm cs (o + off)))
 | .mptr id ver s i o=>K (.mptr id ver s i (o + off))
 | _=>False
def zvM (agg:Bool) (off s:Nat) (x:AV) (K:AV→Prop):Prop :=
 match x with
 | .agg cs=>off + s≤cs.length∧K (if agg then .agg ((cs.drop off).take s) else cs.getD off .top)
 | .p (.agg cs)=>off + s≤cs.length∧K (.p (if agg then .agg ((cs.drop off).take s) else cs.getD off default))
 | _=>False
def zb (s:Nat) (x i:AV) (K:AV→Prop):Prop :=
 match x,i with
 | .msl id ver s' off len,.p (.int _ n)=>s'=s∧(0≤n∧n < len)∧K (.mptr id ver s (off + n.toNat) 0)
 | x,i=>match x.elems,i with
  | some es,.p (.int _ n)=>(0≤n∧n < es.length)∧(es.getD n.toNat default).cells.length=s∧K (.p (.imm (es.getD n.toNat default).cells 0))
  | _,_=>False
def zkr (x i:AV) (K:AV→Prop):Prop :=
 match x,i with
 | .p (.str s),.p (.int _ n)=>(0≤n∧n < s.length)∧K (.p (byteT (s.getD n.toNat 0)))
 | _,_=>False
def zc8 (b:Option AV) (d:Int) (K:Int→Prop):Prop :=
 match b with
 | none=>K d
 | some (.p (.int _ n))=>K n
 | some _=>False
def zyQ (s:List UInt8) (lo hi:Option AV) (K:AV→Prop):Prop :=
 zc8 lo 0 fun l=>zc8 hi s.length fun h=>(0≤l∧l≤h∧h≤s.length)∧K (.p (.str ((s.take h.toNat).drop l.toNat)))
def zih (s:Nat) (es:List T) (lo:Option AV) (l h:Int):Prop :=
 match lo with
 | none=>True
 | some _=>l < h→(es.getD l.toNat default).cells.length=s
def zbU (s:Nat) (es:List T) (lo hi mx:Option AV) (K:AV→Prop):Prop :=
 zc8 lo 0 fun l=>zc8 hi es.length fun h=>(0≤l∧l≤h∧h≤es.length)∧zih s es lo l h ∧
  match mx with
  | none=>K (.p (.slice ((es.take h.toNat).drop l.toNat)))
  | some m=>hi.isSome=true∧zc8 (some m) 0 fun m=>m=h∧K (.full ((es.take h.toNat).drop l.toNat))
def zj7 (s id ver s' off len:Nat) (lo hi mx:Option AV) (K:AV→Prop):Prop :=
 zc8 lo 0 fun l=>zc8 hi len fun h=>(s'=s∧0≤l∧l≤h∧h≤len) ∧
  match mx with
  | none=>K (.msl id ver s (off + l.toNat) (h.toNat - l.toNat))
  | some m=>hi.isSome=true∧zc8 (some m) 0 fun m=>(m=h∧h=l)∧K (.full [])
def zbg (isStr:Bool) (s:Nat) (x:AV) (lo hi mx:Option AV) (K:AV→Prop):Prop :=
 match isStr with
 | true=>match x,mx with
  | .p (.str s),none=>zyQ s lo hi K
  | _,_=>False
 | false=>match x with
  | .msl id ver s' off len=>zj7 s id ver s' off len lo hi mx K
  | x=>match x.elems with
   | some es=>zbU s es lo hi mx K
   | none=>False
def zB (x:AV) (i:Nat) (K:AV→Prop):Prop :=
 match x with
 | .tup vs=>i < vs.length∧K (vs.getD i .top)
 | _=>False
def lenK (draw:Bool) (n:Nat) (K:AV→Prop):Prop :=
 match draw with
 | true=>n≤maxLen∧K (.p (.int .i64 n))
 | false=>n≤maxLen→K (.p (.int .i64 n))
def aLen (draw isStr:Bool) (x:AV) (K:AV→Prop):Prop :=
 match isStr with
 | true=>match x with
  | .p (.str s)=>lenK draw s.length K
  | _=>False
 | false=>match x with
  | .msl _ _ _ _ len=>lenK draw len K
  | x=>match x.elems with
   | some es=>lenK draw es.length K
   | none=>False
def put {α:Type} (cells:List α) (off:Nat) (vs:List α):List α:=cells.take off++vs++cells.drop (off + vs.length)
def aFill:List AV→List (Nat×Nat×AV)→(List AV→Prop)→Prop
 | cells,[],K=>K cells
 | cells,(off,s,v)::r,K=>(v.storable=true∧v.cells.length=s∧off + s≤cells.length)∧aFill (put cells off v.cells) r K
def zp (zero:List AV) (parts:List (Nat×Nat×AV)) (K:AV→Prop):Prop:=aFill zero parts fun cs=>K (.agg cs)
def zgB (s:Nat):List AV→(List T→Prop)→Prop
 | [],K=>K []
 | v::r,K=>match v.toT with
  | some t=>t.cells.length=s∧zgB s r fun ts=>K (t::ts)
  | none=>False
def zk (s:Nat) (parts:List AV) (K:AV→Prop):Prop:=zgB s parts fun es=>K (.full es)
def zJ (P:Program) (fv:AV) (args:List AV) (K:AV→Prop):Prop :=
 match fv,toTs args with
 | .p (.func f caps),some ts=>∃ r Hn r',Fn P f [] ((ts++caps).map .p) r Hn∧r.pur=some r'∧K r'
 | _,_=>False
def aLoad (agg:Bool) (s:Nat) (x:AV) (H:List Ob) (K:AV→Prop):Prop :=
 match x with
 | .bptr id off=>match H[id]? with
  | some (.box cells)=>off + s≤cells.length∧K (if agg then .agg ((cells.drop off).take s) else cells.getD off .top)
  | some (.fz cs)=>off + s≤cs.length∧K (.p (if agg then .agg ((cs.drop off).take s) else cs.getD off default))
  | _=>False
 | .p (.imm cs off)=>off + s≤cs.length∧K (.p (if agg then .agg ((cs.drop off).take s) else cs.getD off default))
 | .mptr id ver s' i off=>match H[id]? with
  | some (.mrow v s2 es)=>(v=ver∧s2=s'∧i < es.length∧off + s≤s')∧K (.p (if agg then .agg (((es.getD i default).cells.drop off).take s) else (es.getD i default).cells.getD off default))
  | some (.frow v s2 es)=>(v=ver∧s2=s'∧i < es.length∧off + s≤s')∧K (.p (if agg then .agg (((es.getD i default).cells.drop off).take s) else (es.getD i default).cells.getD off default))
  | _=>False
 | _=>False
def T.putT (e:T) (off:Nat) (ts:List T):T :=
 match e with
 | .agg cs=>.agg (put cs off ts)
 | e=>match ts with
  | [.agg _]=>e
  | [t]=>t
  | _=>e
def zbn:List AV→List Ob→(List T→List Ob→Prop)→Prop
 | [],H,K=>K [] H
 | .bptr id off::r,H,K=>match H[id]? with
  | some (.box cells)=>match allT cells with
   | some ts=>zbn r (H.set id (.fz ts)) fun cs H'=>K (.imm ts off::cs) H'
   | none=>False
  | some (.fz ts)=>zbn r H fun cs H'=>K (.imm ts off::cs) H'
  | _=>False
 | .p (.imm ts off)::r,H,K=>zbn r H fun cs H'=>K (.imm ts off::cs) H'
 | _,_,_=>False
def zi (s:Nat) (x v:AV) (H:List Ob) (K:AV→List Ob→Prop):Prop :=
 match x with
 | .bptr id off=>match H[id]? with
  | some (.box cells)=>(v.storable=true∧v.cells.length=s∧off + s≤cells.length)∧K .top (H.set id (.box (put cells off v.cells)))
  | _=>False
 | .mptr id ver s' i off=>match H[id]? with
  | some (.mrow v2 s2 es)=>match allT v.cells with
   | some ts=>(v.storable=true∧ts.length=s∧0 < s∧v2=ver∧s2=s'∧i < es.length∧off + s≤s')∧K .top (H.set id (.mrow ver s' (es.set i ((es.getD i default).putT off ts))))
   | none=>zbn [v] H fun cs H1=>(v.storable=true∧s=1∧v2=ver∧s2=s'∧i < es.length∧off + 1≤s'∧H1.length=H.length∧H1[id]? = some (.mrow v2 s2 es) ∧ ∃ ts o,cs=[.imm ts o])∧K .top (H1.set id (.mrow ver s' (es.set i ((es.getD i default).putT off cs))))
  | _=>False
 | _=>False
def zy (zero:List AV) (H:List Ob) (K:AV→List Ob→Prop):Prop:=K (.bptr H.length 0) (H++[.box zero])
def aBox (v:AV) (H:List Ob) (K:AV→List Ob→Prop):Prop:=v.storable=true∧K (.bptr H.length 0) (H++[.box v.cells])
def zbv (s eb:Nat) (es ms:List T):Prop :=
 (∀ e∈es,e.cells.length=s)∧(∀ e∈ms,e.cells.length=s)∧(es.length + ms.length) * (eb + 1)≤2 ^ 40
def zaz (s eb:Nat) (x:AV) (ms:List T) (H:List Ob) (K:AV→List Ob→Prop):Prop :=
 match x with
 | .full es=>match moded H with
  | true=>(es=[]∧zbv s eb [] ms)∧K (.msl H.length 0 s 0 ms.length) (H++[.mrow 0 s ms])
  | false=>zbv s eb es ms∧K (.own H.length (es++ms)) (H++[.row (es.length + ms.length) s])
 | .msl id ver s' 0 len=>match H[id]? with
  | some (.mrow v s2 es)=>(v=ver∧s'=s∧s2=s∧len≤es.length)∧zbv s eb (es.take len) ms∧K (.msl id (ver + 1) s 0 (len + ms.length)) (H.set id (.mrow (ver + 1) s (es.take len++ms)))
  | _=>False
 | .own id es=>match H[id]? with
  | some (.row n s')=>(s'=s∧n=es.length)∧zbv s eb es ms∧K (.own id (es++ms)) (H.set id (.row (n + ms.length) s))
  | _=>False
 | _=>False
def zH (isStr:Bool) (s eb:Nat) (x y:AV) (H:List Ob) (K:AV→List Ob→Prop):Prop :=
 match isStr with
 | true=>match y with
  | .p (.str l)=>zaz s eb x (l.map byteT) H K
  | _=>False
 | false=>match y with
  | .msl id ver s' off len=>match H[id]? with
   | some (.mrow v s2 es)=>(v=ver∧s2=s'∧off + len≤es.length)∧zaz s eb x ((es.drop off).take len) H K
   | some (.frow v s2 es)=>(v=ver∧s2=s'∧off + len≤es.length)∧zaz s eb x ((es.drop off).take len) H K
   | _=>False
  | y=>match y.elems with
   | some ms=>zaz s eb x ms H K
   | none=>False
def zfo (s:Nat) (x:AV) (ms:List T) (H:List Ob) (K:AV→List Ob→Prop):Prop :=
 match x with
 | .msl id ver s' off len=>match H[id]? with
  | some (.mrow v s2 es)=>((v=ver∧s'=s∧s2=s)∧(0 < ms.length∧ms.length≤len∧off + len≤es.length) ∧ ∀ e∈ms,e.cells.length=s)∧K (.p (.int .i64 ms.length)) (H.set id (.mrow ver s (es.take off++(ms++es.drop (off + ms.length)))))
  | _=>False
 | _=>False
def aCopy (s:Nat) (x y:AV) (H:List Ob) (K:AV→List Ob→Prop):Prop :=
 match y with
 | .msl id ver s' off len=>match H[id]? with
  | some (.mrow v s2 es)=>(v=ver∧s2=s'∧off + len≤es.length)∧zfo s x ((es.drop off).take len) H K
  | _=>False
 | y=>match y.elems with
  | some ms=>zfo s x ms H K
  | none=>False
def elemZ:List T→T
 | [.agg cs]=>.agg [.agg cs]
 | [t]=>t
 | ts=>.agg ts
def aMake (s:Nat) (z:List AV) (n c:AV) (H:List Ob) (K:AV→List Ob→Prop):Prop :=
 match allT z,n,c with
 | some ts,.p (.int _ a),.p (.int _ b)=>(a=b∧0≤a∧a≤2 ^ 20∧ts.length=s)∧K (.msl H.length 0 s 0 a.toNat) (H++[.mrow 0 s (List.replicate a.toNat (elemZ ts))])
 | _,_,_=>False
def boxes:List AV→Option (List (Nat×Nat))
 | []=>some []
 | .bptr id off::r=>match boxes r with
  | some l=>some ((id,off)::l)
  | none=>none
 | _=>none
def zqb:List AV→List Ob→Bool
 | .bptr i _::r,H=>(match H[i]? with
  | some (.box cells)=>(allT cells).isNone
  | _=>false) || zqb r H
 | _,_=>false
def zaA (f:FuncId) (caps:List AV) (H:List Ob) (K:AV→List Ob→Prop):Prop :=
 match moded H || zqb caps H,boxes caps with
 | true,some (c::cs)=>K (.mclo f (c::cs)) H
 | _,_=>zbn caps H fun cs H'=>K (.p (.func f cs)) H'
def aBind (f:FuncId) (x:AV) (H:List Ob) (K:AV→List Ob→Prop):Prop :=
 match x with
 | .bptr id off=>K (.bnd f id off) H
 | _=>False
def zoI (P:Program) (fv:AV) (args:List AV) (r:AV) (H H':List Ob):Prop :=
 ∀ (w:World) (G:Gh) (u:Value) (vs:Array Value),Inv w G H→RepA G fv u→RepL G args vs→∃ g fs cs,u=.func (.func g) fs cs∧zcD P g=true ∧
  Calls P g (fs++vs++cs) w fun e w'=>∃ v G',e=.returned v∧RepA G' r v∧Inv w' G' H'∧Step w G w' G'
def aCall (P:Program) (fv:AV) (args:List AV) (H:List Ob) (K:AV→List Ob→Prop):Prop:=∃ r H',zoI P fv args r H H'∧K r H'
def zfV:TypeDesc→T→Bool
 | .string,.str _=>true
 | .int k,.int k' _=>decide (k=k')
 | _,_=>false
def keyEq:T→T→Bool
 | .str a,.str b=>a == b
 | .int _ a,.int _ b=>a == b
 | _,_=>false
def zfs (d:TypeDesc) (k:T):List (T×T)→Nat→Option (Option (Nat×T))
 | [],_=>some none
 | x::r,i=>match zfV d x.1 with
  | true=>match keyEq k x.1 with
   | true=>some (some (i,x.2))
   | false=>zfs d k r (i + 1)
  | false=>none
def zgA (P:Program) (t:TypeId) (K:AV→Prop):Prop :=
 match P.info? t with
 | some i=>match i.zero with
  | some v=>match zQ v with
   | true=>K (zgx v)
   | false=>False
  | none=>False
 | none=>False
def zsA (H:List Ob) (K:AV→List Ob→Prop):Prop:=K (.mapr H.length) (H++[.mapo []])
def aKey (d:TypeDesc) (x ix:AV) (H:List Ob) (K:Nat→T→List (T×T)→Option (Nat×T)→Prop):Prop :=
 match x,ix with
 | .mapr id,.p k=>match H[id]? with
  | some (.mapo es)=>match zfV d k,zfs d k es 0 with
   | true,some r=>K id k es r
   | _,_=>False
  | _=>False
 | _,_=>False
def zex (d:TypeDesc) (ok:Bool) (z:AV) (x ix:AV) (H:List Ob) (K:AV→List Ob→Prop):Prop :=
 match z with
 | .p zt=>aKey d x ix H fun _ _ _ r=>match r with
  | some (_,t)=>K (match ok with | true=>.tup [.p t,.p (.bool true)] | false=>.p t) H
  | none=>K (match ok with | true=>.tup [.p zt,.p (.bool false)] | false=>.p zt) H
 | _=>False
def zcB (d:TypeDesc) (x ix v:AV) (H:List Ob) (K:AV→List Ob→Prop):Prop :=
 match v.cellT with
 | some t=>aKey d x ix H fun id k es r=>match r with
  | some (i,_)=>K .top (H.set id (.mapo (es.set i (k,t))))
  | none=>K .top (H.set id (.mapo (es++[(k,t)])))
 | none=>False
def zg2 (d:TypeDesc) (z:AV) (x ix:AV) (H:List Ob) (K:AV→List Ob→Prop):Prop :=
 match z with
 | .p zt=>aKey d x ix H fun id k es r=>match r with
  | some (i,t)=>K (.tup [.p t,.p (.int .i64 i)]) H
  | none=>K (.tup [.p zt,.p (.int .i64 es.length)]) (H.set id (.mapo (es++[(k,zt)])))
 | _=>False
def zg1 (x s v:AV) (H:List Ob) (K:AV→List Ob→Prop):Prop :=
 match x,s,v.cellT with
 | .mapr id,.p (.int _ n),some t=>match H[id]? with
  | some (.mapo es)=>(0≤n∧n < es.length)∧K .top (H.set id (.mapo (es.set n.toNat ((es.getD n.toNat (default,default)).1,t))))
  | _=>False
 | _,_,_=>False
inductive Cls where
 | pure | load | alloc | eff
 deriving DecidableEq
def cls (draw:Bool):Op→Cls
 | .load _ _=>.load
 | .alloc _=>.alloc
 | .store _ _ _=>.eff
 | .box _ _=>.eff
 | .makeSlice _ _ _=>.eff
 | .makeFunc _ _ _=>.eff
 | .makeMap _ _=>.eff
 | .lookup _ _ _ _=>.eff
 | .mapUpdate _ _ _ _=>.eff
 | .mapEntry _ _ _=>.eff
 | .entryStore _ _ _ _=>.eff
 | .call { callee:=.builtin .append,.. }=>.eff
 | .call { callee:=.builtin .copy,.. }=>.eff
 | .call { callee:=.value _,.. }=>if draw then .pure else .eff
 | _=>.pure
def aggD:TypeDesc→Bool
 | .struct _=>true
 | .array _ _=>true
 | _=>false
def zeroCells (P:Program) (t:TypeId) (K:List AV→Prop):Prop :=
 match P.info? t with
 | some i=>match i.zero with
  | some v=>match v.cells.toList.all zQ with
   | true=>K (v.cells.toList.map zgx)
   | false=>False
  | none=>False
 | none=>False
def zsz (i:TypeInfo):Bool :=
 match i.zero with
 | some v=>v.cells.size == i.size
 | none=>false
def zpu (P:Program) (fs:Array Field):Option (List (Nat×Nat)):=fs.toList.mapM (fun f=>(P.info? f.type).map fun i=>(f.offset,i.size))
def places (ρ:Operand→AV) (pls:List (Nat×Nat)):List (Nat×Operand)→Option (List (Nat×Nat×AV))
 | []=>some []
 | (i,x)::r=>match pls[i]?,places ρ pls r with
  | some f,some l=>some ((f.1,f.2,ρ x)::l)
  | _,_=>none
def zsY:Nat→List (Nat×Operand)→Bool
 | _,[]=>true
 | k,(i,_)::r=>i == k && zsY (k + 1) r
def aP (P:Program) (draw:Bool) (ρ:Operand→AV) (op:Op) (K:AV→Prop):Prop :=
 match op with
 | .move x=>K (ρ x)
 | .assign x=>K (ρ x)
 | .pick c a b=>aPick (ρ c) (ρ a) (ρ b) K
 | .nilCheck x=>zbz (ρ x) K
 | .binOp op t x y _=>match zC9 y with
  | true=>aNil (isSlT P t) op (ρ x) K
  | false=>match zDa y with
   | true=>aNilI (isIfT P t) op (ρ x) K
   | false=>aBin (zs1 P t) (zxf P t) op (ρ x) (ρ y) K
 | .unOp op _ x=>aUn op (ρ x) K
 | .convert src dst x=>aConv P src dst (ρ x) K
 | .build t parts=>match P.underlying t with
  | some (.struct fs)=>match zpu P fs with
   | some pls=>match places ρ pls parts.toList with
    | some l=>zeroCells P t fun z=>zp z l K
    | none=>False
   | none=>False
  | _=>False
 | .buildSlice t n parts=>match P.underlying t with
  | some (.slice e)=>match P.info? e with
   | some i=>match zsY 0 parts.toList && parts.toList.length == n && decide (n * i.size≤2 ^ 24) && decide (n≤2 ^ 24) && i.zero.isSome with
    | true=>zk i.size (parts.toList.map fun x=>ρ x.2) K
    | false=>False
   | none=>False
  | _=>False
 | .fieldAddr s x f=>match P.underlying s with
  | some (.struct fs)=>match fs[f]? with
   | some fl=>match P.info? fl.type with
    | some i=>match i.size == 0 with
     | true=>False
     | false=>za fl.offset (ρ x) K
    | none=>False
   | none=>False
  | _=>False
 | .field s x f=>match P.underlying s with
  | some (.struct fs)=>match fs[f]? with
   | some fl=>match P.info? fl.type,P.underlying fl.type with
    | some i,some d=>match aggD d || i.size == 1 with
     | true=>zvM (aggD d) fl.offset i.size (ρ x) K
     | false=>False
    | _,_=>False
   | none=>False
  | _=>False
 | .indexAddr t x i=>match P.underlying t with
  | some (.slice e)=>match P.info? e with
   | some j=>zb j.size (ρ x) (ρ i) K
   | none=>False
  | _=>False
 | .index t x i=>match P.underlying t with
  | some .string=>zkr (ρ x) (ρ i) K
  | _=>False
 | .slice t x lo hi mx=>match P.underlying t with
  | some .string=>zbg true 0 (ρ x) (lo.map ρ) (hi.map ρ) (mx.map ρ) K
  | some (.slice e)=>match P.info? e with
   | some i=>zbg false i.size (ρ x) (lo.map ρ) (hi.map ρ) (mx.map ρ) K
   | none=>False
  | _=>False
 | .extract x i=>zB (ρ x) i K
 | .call { callee:=.builtin .len,args,argTypes }=>match args.toList,argTypes.toList with
  | [x],[t]=>match P.underlying t with
   | some .string=>aLen draw true (ρ x) K
   | some (.slice _)=>aLen draw false (ρ x) K
   | _=>False
  | _,_=>False
 | .call { callee:=.value f,args,.. }=>zJ P (ρ f) (args.toList.map ρ) K
 | _=>False
def aL (P:Program) (ρ:Operand→AV) (op:Op) (H:List Ob) (K:AV→Prop):Prop :=
 match op with
 | .load t x=>match P.underlying t,P.info? t with
  | some d,some i=>match aggD d || i.size == 1 with
   | true=>aLoad (aggD d) i.size (ρ x) H K
   | false=>False
  | _,_=>False
 | _=>False
def zzr (agg:Bool) (s:Nat) (x:AV) (H:List Ob) (K:AV→Prop):Prop :=
 match x with
 | .mptr _ _ _ _ _=>False
 | x=>aLoad agg s x H K
def aLD (P:Program) (ρ:Operand→AV) (op:Op) (H:List Ob) (K:AV→Prop):Prop :=
 match op with
 | .load t x=>match P.underlying t,P.info? t with
  | some d,some i=>match aggD d || i.size == 1 with
   | true=>zzr (aggD d) i.size (ρ x) H K
   | false=>False
  | _,_=>False
 | _=>False
def aA (P:Program) (op:Op) (K:List AV→Prop):Prop :=
 match op with
 | .alloc t=>zeroCells P t K
 | _=>False
def aE (P:Program) (ρ:Operand→AV) (op:Op) (H:List Ob) (K:AV→List Ob→Prop):Prop :=
 match op with
 | .store t x v=>match P.info? t with
  | some i=>zi i.size (ρ x) (ρ v) H K
  | none=>False
 | .box _ x=>aBox (ρ x) H K
 | .makeMap _ r=>match r with
  | none=>zsA H K
  | some _=>False
 | .lookup t x ix ok=>match P.underlying t with
  | some (.map k e)=>match P.underlying k with
   | some d=>zgA P e fun z=>zex d ok z (ρ x) (ρ ix) H K
   | none=>False
  | _=>False
 | .mapUpdate t x ix v=>match P.underlying t with
  | some (.map k _)=>match P.underlying k with
   | some d=>zcB d (ρ x) (ρ ix) (ρ v) H K
   | none=>False
  | _=>False
 | .mapEntry t x ix=>match P.underlying t with
  | some (.map k e)=>match P.underlying k with
   | some d=>zgA P e fun z=>zg2 d z (ρ x) (ρ ix) H K
   | none=>False
  | _=>False
 | .entryStore _ x s v=>zg1 (ρ x) (ρ s) (ρ v) H K
 | .makeSlice t n c=>match P.underlying t with
  | some (.slice e)=>match P.info? e with
   | some i=>match zsz i && decide (0 < i.size) && decide (i.bytes≤2 ^ 20) with
    | true=>zeroCells P e fun z=>aMake i.size z (ρ n) (ρ c) H K
    | false=>False
   | none=>False
  | _=>False
 | .makeFunc fn first caps=>match fn with
  | .func f=>match first.toList with
   | []=>zaA f (caps.toList.map ρ) H K
   | [x]=>match caps.toList with
    | []=>aBind f (ρ x) H K
    | _=>False
   | _=>False
  | _=>False
 | .call { callee:=.builtin .append,args,argTypes }=>match args.toList,argTypes.toList with
  | [x,y],[t,u]=>match P.underlying t,P.underlying u with
   | some (.slice e),some (.slice _)=>match P.info? e with
    | some i=>match zsz i && decide (i.bytes≤2 ^ 20) with
     | true=>zH false i.size i.bytes (ρ x) (ρ y) H K
     | false=>False
    | none=>False
   | some (.slice e),some .string=>match P.info? e with
    | some i=>match zsz i && i.size == 1 && decide (i.bytes≤2 ^ 20) with
     | true=>zH true i.size i.bytes (ρ x) (ρ y) H K
     | false=>False
    | none=>False
   | _,_=>False
  | _,_=>False
 | .call { callee:=.builtin .copy,args,argTypes }=>match args.toList,argTypes.toList with
  | [x,y],[t,u]=>match P.underlying t,P.underlying u with
   | some (.slice e),some (.slice _)=>match P.info? e with
    | some i=>aCopy i.size (ρ x) (ρ y) H K
    | none=>False
   | _,_=>False
  | _,_=>False
 | .call { callee:=.value f,args,.. }=>aCall P (ρ f) (args.toList.map ρ) H K
 | _=>False
def AV.wild:AV→Bool
 | .mptr _ _ _ _ _=>true
 | _=>false
def AV.wildA:AV→Bool
 | .msl _ _ _ _ _=>true
 | _=>false
def aCalm (l:List AV) (K:Prop):Prop :=
 match l.any AV.wildA with
 | true=>False
 | false=>K
def aEd (draw:Bool) (ρ:Operand→AV) (op:Op) (K:Prop):Prop :=
 match draw with
 | true=>match op with
  | .call { callee:=.builtin .append,args,.. }=>aCalm (args.toList.map ρ) K
  | .call { callee:=.builtin .copy,.. }=>False
  | .mapUpdate _ _ _ _=>False
  | .mapEntry _ _ _=>False
  | .entryStore _ _ _ _=>False
  | _=>K
 | false=>K
def sees (x:AV) (id:Nat):Prop:=(∃ off,x=.bptr id off) ∨ ∃ v s i o,x=.mptr id v s i o
def aOp (P:Program) (draw:Bool) (ρ:Operand→AV) (op:Op) (H:List Ob) (K:AV→List Ob→Prop):Prop :=
 match cls draw op with
 | .pure=>aP P draw ρ op fun v=>K v H
 | .load=>aL P ρ op H fun v=>K v H
 | .alloc=>aA P op fun z=>zy z H K
 | .eff=>aEd draw ρ op (aE P ρ op H K)
def aOpA (P:Program) (ρ:Operand→AV) (op:Op) (H:List Ob) (K:AV→List Ob→Prop):Prop :=
 match cls true op with
 | .pure=>aP P true ρ op fun v=>K v H
 | .load=>aLD P ρ op H fun v=>K v H
 | .alloc=>aA P op fun z=>zy z H K
 | .eff=>aE P ρ op H K
end Go.Abs
end

section
/- What represents a tree, kind by kind. -/
namespace Go.Abs
theorem zbp {G:Gh} {t:T} {v:Value}:RepA G (.p t) v↔RepT G.rd t v:=⟨fun h=>by cases h; assumption,fun h=>.p t v h⟩
theorem zkR {rd:Rd} {k:IntKind} {n:Int} {v:Value}:RepT rd (.int k n) v↔v=.int k n:=⟨fun h=>by cases h; rfl,fun h=>h ▸ .int k n⟩
theorem zES {rd:Rd} {b:Bool} {v:Value}:RepT rd (.bool b) v↔v=.bool b:=⟨fun h=>by cases h; rfl,fun h=>h ▸ .bool b⟩
theorem zxD {rd:Rd} {s:List UInt8} {v:Value}:RepT rd (.str s) v↔v=.string ⟨s.toArray⟩∧s.length≤maxLen :=
 ⟨fun h=>by cases h; exact ⟨rfl,by assumption⟩,fun ⟨h,hl⟩=>h ▸ .str s hl⟩
theorem zF3 {rd:Rd} {x v:Value}:RepT rd (.raw x) v↔v=x∧zQ x=true :=
 ⟨fun h=>by cases h; exact ⟨rfl,by assumption⟩,fun ⟨h,hl⟩=>by subst h; exact .raw _ hl⟩
theorem RepT.slice_form {rd:Rd} {es:List T} {v:Value} (h:RepT rd (.slice es) v):∃ a cap,v=.slice a es.length cap∧es.length≤cap∧es.length≤maxLen:=by
 cases h with
 | nil a cap=>exact ⟨a,cap,rfl,Nat.zero_le _,Nat.zero_le _⟩
 | slice _ b o cap s val hs hr hv hk hl hc=>exact ⟨_,cap,rfl,hc,hl⟩
theorem RepA.cells {G:Gh} {x:AV} {v:Value} (h:RepA G x v) (hs:x.storable=true) :
  v.cells.size=x.cells.length ∧ ∀ j c,x.cells[j]? = some c→RepA G c (v.cells.getD j undef)∧zQ (v.cells.getD j undef)=true:=by
 have one:∀ {y:AV} {u:Value},RepA G y u→zQ u=true→u.cells = #[u]→y.cells=[y] →
   u.cells.size=y.cells.length ∧ ∀ j c,y.cells[j]? = some c→RepA G c (u.cells.getD j undef)∧zQ (u.cells.getD j undef)=true:=by
  intro y u r s e1 e2
  rw [e1,e2]
  refine ⟨rfl,fun j c hj=>?_⟩
  cases j with
  | zero=>simp at hj; subst hj; simpa using ⟨r,s⟩
  | succ j=>simp at hj
 cases h with
 | top v=>simp [AV.storable] at hs
 | tup cs vs hn hv=>simp [AV.storable] at hs
 | full es a h=>exact one (.full es a h) rfl rfl rfl
 | own id es a a' cap cap' n s h hl hn he hz=>exact one (.own id es a a' cap cap' n s h hl hn he hz) rfl rfl rfl
 | bptr id off b hl=>exact one (.bptr id off b hl) rfl rfl rfl
 | mclo f caps vs hn hv=>exact one (.mclo f caps vs hn hv) rfl rfl rfl
 | nils cap=>exact one (.nils cap) rfl rfl rfl
 | nns es a cap h=>exact one (.nns es a cap h) rfl rfl rfl
 | msl id ver s off len a a' a2 cap cap' ver' c2 hl hn he hc hm hz h2 ha=>exact one (.msl id ver s off len a a' a2 cap cap' ver' c2 hl hn he hc hm hz h2 ha) rfl rfl rfl
 | mptr id ver s i off b o a a' cap cap' ver' hl hn he hi ha=>exact one (.mptr id ver s i off b o a a' cap cap' ver' hl hn he hi ha) rfl rfl rfl
 | bnd f id off b hl=>exact one (.bnd f id off b hl) rfl rfl rfl
 | mapr id b hl=>exact one (.mapr id b hl) rfl rfl rfl
 | agg cs vs hn hv hk=>exact ⟨hn,fun j c hj=>⟨hv j c hj,hk j c hj⟩⟩
 | p t v h =>
  cases h with
  | agg cs vs hn hv hk =>
   refine ⟨by simpa [AV.cells,T.cells,Value.cells] using hn,fun j c hj=>?_⟩
   simp only [AV.cells,T.cells,List.getElem?_map,Option.map_eq_some_iff] at hj
   obtain ⟨c',hc',rfl⟩:=hj
   exact ⟨.p _ _ (hv j c' hc'),hk j c' hc'⟩
  | bool b=>exact one (.p _ _ (.bool b)) rfl rfl rfl
  | int k n=>exact one (.p _ _ (.int k n)) rfl rfl rfl
  | str s hl=>exact one (.p _ _ (.str s hl)) rfl rfl rfl
  | raw v h =>
   refine one (.p _ _ (.raw _ h)) h ?_ rfl
   cases v <;> first | rfl | simp [zQ] at h
  | nil a cap=>exact one (.p _ _ (.nil a cap)) rfl rfl rfl
  | slice es b o cap s val hz hr hv hk hl hc=>exact one (.p _ _ (.slice es b o cap s val hz hr hv hk hl hc)) rfl rfl rfl
  | imm cs off b o val hr hv hk=>exact one (.p _ _ (.imm cs off b o val hr hv hk)) rfl rfl rfl
  | func f caps vs hn hv=>exact one (.p _ _ (.func f caps vs hn hv)) rfl rfl rfl
theorem RepA.cellT {G:Gh} {x:AV} {v:Value} {t:T} (h:RepA G x v) (e:x.cellT=some t):RepT G.rd t v:=by
 cases h with
 | p t v h=>simp [AV.cellT] at e; exact e ▸ h
 | full es a h=>simp [AV.cellT] at e; exact e ▸ h
 | own id es a a' cap cap' n s h hl hn he hs=>simp [AV.cellT] at e; exact e ▸ h
 | nils cap=>simp [AV.cellT] at e; subst e; exact .nil none cap
 | nns es a cap h=>simp [AV.cellT] at e; exact e ▸ h
 | _=>simp [AV.cellT] at e
theorem zmh:∀ {cs:List AV} {ts:List T},allT cs=some ts→ts.length=cs.length ∧ ∀ (j:Nat) (t:T),ts[j]? = some t→∃ c:AV,cs[j]? = some c∧c.cellT=some t
 | [],ts,h=>by simp [allT] at h; subst h; simp
 | v::r,ts,h=>by
  simp only [allT] at h
  cases h1:v.cellT with
  | none=>simp [h1] at h
  | some t =>
   cases h2:allT r with
   | none=>simp [h1,h2] at h
   | some us =>
    simp [h1,h2] at h
    subst h
    obtain ⟨hl,hr⟩:=zmh h2
    refine ⟨by simp [hl],fun j u hj=>?_⟩
    cases j with
    | zero=>simp at hj; subst hj; exact ⟨v,rfl,h1⟩
    | succ j=>simp at hj; simpa using hr j u hj
theorem RepA.toT {G:Gh} {x:AV} {v:Value} {t:T} (h:RepA G x v) (e:x.toT=some t):RepT G.rd t v:=by
 cases h with
 | agg cs vs hn hv hk =>
  simp only [AV.toT] at e
  cases h1:allT cs with
  | none=>simp [h1] at e
  | some ts =>
   simp [h1] at e
   subst e
   obtain ⟨hl,hr⟩:=zmh h1
   refine .agg ts vs (hn.trans hl.symm) (fun j t hj=>?_) (fun j t hj=>?_)
   ·obtain ⟨c,hc,ht⟩:=hr j t hj; exact (hv j c hc).cellT ht
   ·obtain ⟨c,hc,ht⟩:=hr j t hj; exact hk j c hc
 | p t v h=>exact (RepA.p t v h).cellT e
 | full es a h=>exact (RepA.full es a h).cellT e
 | own id es a a' cap cap' n s h hl hn he hs=>exact (RepA.own id es a a' cap cap' n s h hl hn he hs).cellT e
 | bptr id off b hl=>simp [AV.toT,AV.cellT] at e
 | mclo f caps vs hn hv=>simp [AV.toT,AV.cellT] at e
 | top v=>simp [AV.toT,AV.cellT] at e
 | tup cs vs hn hv=>simp [AV.toT,AV.cellT] at e
 | nils cap=>exact (RepA.nils cap).cellT e
 | nns es a cap h=>exact (RepA.nns es a cap h).cellT e
 | msl id ver s off len a a' a2 cap cap' ver' c2 hl hn he hc hm hz h2 ha=>simp [AV.toT,AV.cellT] at e
 | mptr id ver s i off b o a a' cap cap' ver' hl hn he hi ha=>simp [AV.toT,AV.cellT] at e
 | bnd f id off b hl=>simp [AV.toT,AV.cellT] at e
 | mapr id b hl=>simp [AV.toT,AV.cellT] at e
theorem zqC:∀ {cs:List AV} {ts:List T},toTs cs=some ts→ts.length=cs.length ∧ ∀ (j:Nat) (t:T),ts[j]? = some t→∃ c:AV,cs[j]? = some c∧c.toT=some t
 | [],ts,h=>by simp [toTs] at h; subst h; simp
 | v::r,ts,h=>by
  simp only [toTs] at h
  cases h1:v.toT with
  | none=>simp [h1] at h
  | some t =>
   cases h2:toTs r with
   | none=>simp [h1,h2] at h
   | some us =>
    simp [h1,h2] at h
    subst h
    obtain ⟨hl,hr⟩:=zqC h2
    refine ⟨by simp [hl],fun j u hj=>?_⟩
    cases j with
    | zero=>simp at hj; subst hj; exact ⟨v,rfl,h1⟩
    | succ j=>simp at hj; simpa using hr j u hj
theorem RepA.pur {G:Gh} {x y:AV} {v:Value} (h:RepA G x v) (e:x.pur=some y) {G':Gh} (hr:∀ b o c,G.rd b o=some c→G'.rd b o=some c):RepA G' y v:=by
 have plain:∀ {z:AV} {u:Value} {t:T},RepA G z u→z.toT=some t→RepA G' (.p t) u:=fun r e=>.p _ _ ((r.toT e).mono hr)
 cases x with
 | tup vs =>
  simp only [AV.pur] at e
  cases h1:toTs vs with
  | none=>simp [h1] at e
  | some ts =>
   simp [h1] at e
   subst e
   obtain ⟨hl,hs⟩:=zqC h1
   cases h with
   | tup cs vs' hn hv =>
    refine .tup _ _ (by simp [hn,hl]) (fun j c hj=>?_)
    simp only [List.getElem?_map,Option.map_eq_some_iff] at hj
    obtain ⟨t,ht,rfl⟩:=hj
    obtain ⟨c,hc,hct⟩:=hs j t ht
    exact plain (hv j c hc) hct
 | _ =>
  simp only [AV.pur] at e
  split at e
  ·simp at e; subst e; exact plain h (by assumption)
  ·simp at e
theorem zru (G:Gh) (v:Value):RepA G (zmB v) v:=by
 unfold zmB
 split
 ·exact .p _ _ (.bool _)
 ·exact .p _ _ (.int _ _)
 ·rename_i s
  split
  ·rename_i hl
   have:Value.string s=.string ⟨s.data.toList.toArray⟩:=by simp
   rw [this]
   exact .p _ _ (.str _ (by unfold maxLen; omega))
  ·exact .top _
 ·exact .full [] none (.nil none 0)
 ·exact .p _ _ (.raw _ rfl)
 ·exact .p _ _ (.raw _ rfl)
 ·exact .p _ _ (.raw _ rfl)
 ·exact .p _ _ (.raw _ rfl)
 ·exact .top _
theorem zfv (G:Gh) (v:Value):RepA G (zgx v) v:=by
 unfold zgx
 split
 ·rename_i vs
  split
  ·rename_i h
   rw [List.all_eq_true] at h
   refine .agg _ vs (by simp) (fun j c hj=>?_) (fun j c hj=>?_)
   all_goals
    simp only [List.getElem?_map,Option.map_eq_some_iff] at hj
    obtain ⟨x,hx,rfl⟩:=hj
    have hg:vs.getD j undef=x:=by
     rw [Array.getD_eq_getD_getElem?]
     simp at hx
     simp [hx]
    rw [hg]
   ·exact zru G x
   ·exact h x (List.mem_of_getElem? hx)
  ·exact .top _
 ·exact zru G v
def RepTm (G:Gh) (t:List AV) (tm:Array Value):Prop:=tm.size=t.length ∧ ∀ i,RepA G (t.getD i .top) (tm.getD i undef)
theorem RepTm.rho {G:Gh} {t:List AV} {a:Act} (h:RepTm G t a.tmps) (x:Operand):RepA G (rho t x) (a.eval x):=by
 cases x with
 | tmp i=>exact h.2 i
 | const v=>exact zfv G v
 | func f=>exact .p _ _ (.func f [] #[] rfl (by simp))
 | global g=>exact .top _
theorem RepTm.mono {G G':Gh} (g:Grow G G') {t:List AV} {tm:Array Value} (h:RepTm G t tm):RepTm G' t tm:=⟨h.1,fun i=>(h.2 i).mono g⟩
def setD (t:List AV) (d:Option Nat) (v:AV):List AV :=
 match d with
 | some i=>t.set i v
 | none=>t
theorem RepTm.put {G:Gh} {t:List AV} {a:Act} (h:RepTm G t a.tmps) (d:Option Tmp) {x:AV} {v:Value} (r:RepA G x v):RepTm G (setD t d x) (a.put d v).tmps:=by
 cases d with
 | none=>exact h
 | some d =>
  refine ⟨by simp [setD,Act.put,h.1],fun i=>?_⟩
  simp only [setD,Act.put,List.getD_eq_getElem?_getD,Array.getD_eq_getD_getElem?,List.getElem?_set,Array.getElem?_setIfInBounds]
  by_cases hi:d=i
  ·subst hi
   simp only [if_true]
   by_cases hd:d < t.length
   ·simp [hd,h.1,r]
   ·simp [hd,h.1]; exact .top _
  ·simp only [hi,if_false]
   have:=h.2 i
   simpa [List.getD_eq_getElem?_getD,Array.getD_eq_getD_getElem?] using this
theorem RepA.elems {G:Gh} {x:AV} {v:Value} {es:List T} (h:RepA G x v) (e:x.elems=some es):RepT G.rd (.slice es) v:=by
 cases h with
 | p t v h=>cases t <;> simp [AV.elems] at e; exact e ▸ h
 | full es a h=>simp [AV.elems] at e; exact e ▸ h
 | own id es a a' cap cap' n s h hl hn he hs=>simp [AV.elems] at e; exact e ▸ h
 | nils cap=>simp [AV.elems] at e; subst e; exact .nil none cap
 | nns es a cap h=>simp [AV.elems] at e; exact e ▸ h
 | _=>simp [AV.elems] at e
end Go.Abs
end

section
/- The operations that only reckon: what each abstract one answers the model's one answers too. -/
namespace Go.Abs
variable {P:Program}
theorem zd9 {G:Gh} {k:IntKind} {n:Int} {v:Value}:RepA G (.p (.int k n)) v↔v=.int k n:=zbp.trans zkR
theorem zat {G:Gh} {b:Bool} {v:Value}:RepA G (.p (.bool b)) v↔v=.bool b:=zbp.trans zES
theorem zi1 {G:Gh} {s:List UInt8} {v:Value}:RepA G (.p (.str s)) v↔v=.string ⟨s.toArray⟩∧s.length≤maxLen:=zbp.trans zxD
theorem zgh {G:Gh} {x v:Value}:RepA G (.p (.raw x)) v↔v=x∧zQ x=true:=zbp.trans zF3
theorem zkp (s:List UInt8):(⟨s.toArray⟩:ByteArray).toList=s:=by rw [ByteArray.toList_eq]
theorem zzV {op:BinOp} {k:IntKind} {a b:Int} {K:AV→Prop} {t:TypeId} (h:zdM op k a b K) :
  ∃ r,K r ∧ ∀ (w:World) (G:Gh) , ∃ v,(binOp op t (.int k a) (.int k b)).run P w=.ok v w∧RepA G r v:=by
 cases op with
 | add=>exact ⟨_,h,fun w G=>⟨_,by simp only [binOp,Op.intArith,ne_eq,not_true_eq_false,if_false]; rfl,.p _ _ (.int _ _)⟩⟩
 | sub=>exact ⟨_,h,fun w G=>⟨_,by simp only [binOp,Op.intArith,ne_eq,not_true_eq_false,if_false]; rfl,.p _ _ (.int _ _)⟩⟩
 | mul=>exact ⟨_,h,fun w G=>⟨_,by simp only [binOp,Op.intArith,ne_eq,not_true_eq_false,if_false]; rfl,.p _ _ (.int _ _)⟩⟩
 | quo=>obtain ⟨h1,h2⟩:=h; exact ⟨_,h2,fun w G=>⟨_,by simp only [binOp,Op.intDiv,ne_eq,not_true_eq_false,if_false,if_neg h1]; rfl,.p _ _ (.int _ _)⟩⟩
 | rem=>obtain ⟨h1,h2⟩:=h; exact ⟨_,h2,fun w G=>⟨_,by simp only [binOp,Op.intDiv,ne_eq,not_true_eq_false,if_false,if_neg h1]; rfl,.p _ _ (.int _ _)⟩⟩
 | and=>exact ⟨_,h,fun w G=>⟨_,by simp only [binOp,Op.intBits,ne_eq,not_true_eq_false,if_false]; rfl,.p _ _ (.int _ _)⟩⟩
 | or=>exact ⟨_,h,fun w G=>⟨_,by simp only [binOp,Op.intBits,ne_eq,not_true_eq_false,if_false]; rfl,.p _ _ (.int _ _)⟩⟩
 | xor=>exact ⟨_,h,fun w G=>⟨_,by simp only [binOp,Op.intBits,ne_eq,not_true_eq_false,if_false]; rfl,.p _ _ (.int _ _)⟩⟩
 | andNot=>exact ⟨_,h,fun w G=>⟨_,by simp only [binOp,Op.intBits,ne_eq,not_true_eq_false,if_false]; rfl,.p _ _ (.int _ _)⟩⟩
 | shl=>obtain ⟨h1,h2⟩:=h; exact ⟨_,h2,fun w G=>⟨_,by simp only [binOp,Op.shift,if_neg (show ¬ b < 0 by omega)]; rfl,.p _ _ (.int _ _)⟩⟩
 | shr=>obtain ⟨h1,h2⟩:=h; exact ⟨_,h2,fun w G=>⟨_,by simp only [binOp,Op.shift,if_neg (show ¬ b < 0 by omega)]; rfl,.p _ _ (.int _ _)⟩⟩
 | eql=>exact ⟨_,h,fun w G=>⟨_,by simp only [binOp,Op.intCmp,ne_eq,not_true_eq_false,if_false]; rfl,.p _ _ (.bool _)⟩⟩
 | neq=>exact ⟨_,h,fun w G=>⟨_,by simp only [binOp,Op.intCmp,ne_eq,not_true_eq_false,if_false]; rfl,.p _ _ (.bool _)⟩⟩
 | lss=>exact ⟨_,h,fun w G=>⟨_,by simp only [binOp,Op.intCmp,ne_eq,not_true_eq_false,if_false]; rfl,.p _ _ (.bool _)⟩⟩
 | leq=>exact ⟨_,h,fun w G=>⟨_,by simp only [binOp,Op.intCmp,ne_eq,not_true_eq_false,if_false]; rfl,.p _ _ (.bool _)⟩⟩
 | gtr=>exact ⟨_,h,fun w G=>⟨_,by simp only [binOp,Op.intCmp,ne_eq,not_true_eq_false,if_false]; rfl,.p _ _ (.bool _)⟩⟩
 | geq=>exact ⟨_,h,fun w G=>⟨_,by simp only [binOp,Op.intCmp,ne_eq,not_true_eq_false,if_false]; rfl,.p _ _ (.bool _)⟩⟩
theorem zAi {op:BinOp} {a b:List UInt8} {K:AV→Prop} {t:TypeId} (h:zAh op a b K) :
  ∃ r,K r ∧ ∀ (w:World) (G:Gh) , ∃ v,(binOp op t (.string ⟨a.toArray⟩) (.string ⟨b.toArray⟩)).run P w=.ok v w∧RepA G r v:=by
 cases op with
 | add =>
  obtain ⟨h1,h2⟩:=h
  refine ⟨_,h2,fun w G=>⟨_, ?_,.p _ _ (.str _ (by simpa using h1))⟩⟩
  have hm:maxLen=9223372036854775807:=rfl
  have e:(⟨a.toArray⟩:ByteArray)++⟨b.toArray⟩=⟨(a++b).toArray⟩:=by
   apply ByteArray.ext; simp
  have hs:¬ ((((⟨a.toArray⟩:ByteArray).size + (⟨b.toArray⟩:ByteArray).size:Nat):Int) > IntKind.i64.max):=by
   have e1:(⟨a.toArray⟩:ByteArray).size=a.length:=by simp [ByteArray.size]
   have e2:(⟨b.toArray⟩:ByteArray).size=b.length:=by simp [ByteArray.size]
   have e3:IntKind.i64.max=9223372036854775807:=by decide
   rw [e1,e2,e3]; omega
  simp only [binOp,Op.stringOp,if_neg hs,e]; rfl
 | eql=>exact ⟨_,h,fun w G=>⟨_,by simp only [binOp,Op.stringOp,zkp]; rfl,.p _ _ (.bool _)⟩⟩
 | neq=>exact ⟨_,h,fun w G=>⟨_,by simp only [binOp,Op.stringOp,zkp]; rfl,.p _ _ (.bool _)⟩⟩
 | lss=>exact ⟨_,h,fun w G=>⟨_,by simp only [binOp,Op.stringOp,zkp]; rfl,.p _ _ (.bool _)⟩⟩
 | leq=>exact ⟨_,h,fun w G=>⟨_,by simp only [binOp,Op.stringOp,zkp]; rfl,.p _ _ (.bool _)⟩⟩
 | gtr=>exact ⟨_,h,fun w G=>⟨_,by simp only [binOp,Op.stringOp,zkp]; rfl,.p _ _ (.bool _)⟩⟩
 | geq=>exact ⟨_,h,fun w G=>⟨_,by simp only [binOp,Op.stringOp,zkp]; rfl,.p _ _ (.bool _)⟩⟩
 | _=>exact h.elim
theorem zu {t:TypeId} {d:TypeDesc} (h:P.underlying t=some d) (w:World):(underlying t).run P w=.ok d w:=by
 simp [underlying,h]
theorem zwp {t:TypeId} (h:P.underlying t=some .bool) (a b:Bool) (w:World):(Op.equal t (.bool a) (.bool b)).run P w=.ok (a == b) w:=by
 show (Op.equalIn (9999 + 1) t (.bool a) (.bool b)).run P w=_
 unfold Op.equalIn
 rw [Sem.run_bind,zu h]
 rfl
theorem zyZ {t e:TypeId} (h:P.underlying t=some (.pointer e)) (w:World):(Op.equal t (.pointer none) (.pointer none)).run P w=.ok true w:=by
 show (Op.equalIn (9999 + 1) t (.pointer none) (.pointer none)).run P w=_
 unfold Op.equalIn
 rw [Sem.run_bind,zu h]
 rfl
theorem zhp {t e:TypeId} (h:P.underlying t=some (.pointer e)) (a:Addr) (w:World):(Op.equal t (.pointer (some a)) (.pointer none)).run P w=.ok false w:=by
 show (Op.equalIn (9999 + 1) t (.pointer (some a)) (.pointer none)).run P w=_
 unfold Op.equalIn
 rw [Sem.run_bind,zu h]
 rfl
theorem zkg {t:TypeId} {x y:Value} {b:Bool} {w:World} (hx:binOp .eql t x y=(do pure (.bool (← Op.equal t x y)))) (h:(Op.equal t x y).run P w=.ok b w) :
  (binOp .eql t x y).run P w=.ok (.bool b) w:=by
 rw [hx,Sem.run_bind,h]; rfl
theorem zkh {t:TypeId} {x y:Value} {b:Bool} {w:World} (hx:binOp .neq t x y=(do pure (.bool (!(← Op.equal t x y))))) (h:(Op.equal t x y).run P w=.ok b w) :
  (binOp .neq t x y).run P w=.ok (.bool (!b)) w:=by
 rw [hx,Sem.run_bind,h]; rfl
theorem zBa {t:TypeId} {op:BinOp} {x y:AV} {K:AV→Prop} (h:eqBin (zs1 P t) (zxf P t) op x y K) :
  ∃ r,K r ∧ ∀ (w:World) (G:Gh) (vx vy:Value),RepA G x vx→RepA G y vy→∃ v,(binOp op t vx vy).run P w=.ok v w∧RepA G r v∧(∀ ox oy,(eqGuard op t ox oy vx vy).run P w=.ok () w):=by
 have hb:zs1 P t=true→P.underlying t=some .bool:=by
  unfold zs1; split <;> simp_all
 have hp:zxf P t=true→∃ e,P.underlying t=some (.pointer e):=by
  unfold zxf; split <;> simp_all
 unfold eqBin at h
 split at h
 ·obtain ⟨h1,h2⟩:=h
  refine ⟨_,h2,fun w G vx vy rx ry=>?_⟩
  obtain rfl:=zat.1 rx
  obtain rfl:=zat.1 ry
  exact ⟨_,zkg rfl (zwp (hb h1) _ _ w),.p _ _ (.bool _),fun ox oy=>rfl⟩
 ·obtain ⟨h1,h2⟩:=h
  refine ⟨_,h2,fun w G vx vy rx ry=>?_⟩
  obtain rfl:=zat.1 rx
  obtain rfl:=zat.1 ry
  exact ⟨_,zkh rfl (zwp (hb h1) _ _ w),.p _ _ (.bool _),fun ox oy=>rfl⟩
 ·obtain ⟨h1,h2⟩:=h
  obtain ⟨e,h3⟩:=hp h1
  refine ⟨_,h2,fun w G vx vy rx ry=>?_⟩
  obtain ⟨rfl,_⟩:=zgh.1 rx
  obtain ⟨rfl,_⟩:=zgh.1 ry
  exact ⟨_,zkg rfl (zyZ h3 w),.p _ _ (.bool _),fun ox oy=>rfl⟩
 ·obtain ⟨h1,h2⟩:=h
  obtain ⟨e,h3⟩:=hp h1
  refine ⟨_,h2,fun w G vx vy rx ry=>?_⟩
  obtain ⟨rfl,_⟩:=zgh.1 rx
  obtain ⟨rfl,_⟩:=zgh.1 ry
  exact ⟨_,zkh rfl (zyZ h3 w),.p _ _ (.bool _),fun ox oy=>rfl⟩
 ·obtain ⟨h1,h2⟩:=h
  obtain ⟨e,h3⟩:=hp h1
  refine ⟨_,h2,fun w G vx vy rx ry=>?_⟩
  cases rx
  obtain ⟨rfl,_⟩:=zgh.1 ry
  exact ⟨_,zkg rfl (zhp h3 _ w),.p _ _ (.bool _),fun ox oy=>rfl⟩
 ·obtain ⟨h1,h2⟩:=h
  obtain ⟨e,h3⟩:=hp h1
  refine ⟨_,h2,fun w G vx vy rx ry=>?_⟩
  cases rx
  obtain ⟨rfl,_⟩:=zgh.1 ry
  exact ⟨_,zkh rfl (zhp h3 _ w),.p _ _ (.bool _),fun ox oy=>rfl⟩
 ·obtain ⟨h1,h2⟩:=h
  obtain ⟨e,h3⟩:=hp h1
  refine ⟨_,h2,fun w G vx vy rx ry=>?_⟩
  have rx:=zbp.1 rx
  cases rx
  obtain ⟨rfl,_⟩:=zgh.1 ry
  exact ⟨_,zkg rfl (zhp h3 _ w),.p _ _ (.bool _),fun ox oy=>rfl⟩
 ·obtain ⟨h1,h2⟩:=h
  obtain ⟨e,h3⟩:=hp h1
  refine ⟨_,h2,fun w G vx vy rx ry=>?_⟩
  have rx:=zbp.1 rx
  cases rx
  obtain ⟨rfl,_⟩:=zgh.1 ry
  exact ⟨_,zkh rfl (zhp h3 _ w),.p _ _ (.bool _),fun ox oy=>rfl⟩
 ·exact h.elim
theorem zwr {t e:TypeId} (h:P.underlying t=some (.slice e)) (c:Nat) (w:World):(Op.equal t (.slice none 0 c) (.slice none 0 0)).run P w=.ok true w:=by
 show (Op.equalIn (9999 + 1) t (.slice none 0 c) (.slice none 0 0)).run P w=_
 unfold Op.equalIn
 rw [Sem.run_bind,zu h]
 rfl
theorem zg4 {t e:TypeId} (h:P.underlying t=some (.slice e)) (a:Addr) (n c:Nat) (w:World):(Op.equal t (.slice (some a) n c) (.slice none 0 0)).run P w=.ok false w:=by
 show (Op.equalIn (9999 + 1) t (.slice (some a) n c) (.slice none 0 0)).run P w=_
 unfold Op.equalIn
 rw [Sem.run_bind,zu h]
 rfl
theorem zwq {t:TypeId} {ms:Array (String×TypeId)} (h:P.underlying t=some (.interface ms)) (w:World):(Op.equal t .nilIface .nilIface).run P w=.ok true w:=by
 show (Op.equalIn (9999 + 1) t .nilIface .nilIface).run P w=_
 unfold Op.equalIn
 rw [Sem.run_bind,zu h]
 rfl
theorem zDl {t:TypeId} {op:BinOp} {x:AV} {K:AV→Prop} (h:aNilI (isIfT P t) op x K) :
  ∃ r,K r ∧ ∀ (w:World) (G:Gh) (vx:Value),RepA G x vx→∃ v,(binOp op t vx .nilIface).run P w=.ok v w∧RepA G r v∧(∀ ox,(eqGuard op t ox (.const .nilIface) vx .nilIface).run P w=.ok () w):=by
 have hs:isIfT P t=true→∃ ms,P.underlying t=some (.interface ms):=by
  unfold isIfT; split <;> simp_all
 unfold aNilI at h
 split at h
 ·obtain ⟨h1,h2⟩:=h
  obtain ⟨e,h3⟩:=hs h1
  refine ⟨_,h2,fun w G vx rx=>?_⟩
  obtain ⟨rfl,_⟩:=zgh.1 rx
  exact ⟨_,zkg rfl (zwq h3 w),.p _ _ (.bool _),fun ox=>by cases ox <;> rfl⟩
 ·obtain ⟨h1,h2⟩:=h
  obtain ⟨e,h3⟩:=hs h1
  refine ⟨_,h2,fun w G vx rx=>?_⟩
  obtain ⟨rfl,_⟩:=zgh.1 rx
  exact ⟨_,zkh rfl (zwq h3 w),.p _ _ (.bool _),fun ox=>by cases ox <;> rfl⟩
 ·exact h.elim
theorem zEN {t:TypeId} {op:BinOp} {x:AV} {K:AV→Prop} (h:aNil (isSlT P t) op x K) :
  ∃ r,K r ∧ ∀ (w:World) (G:Gh) (vx:Value),RepA G x vx→∃ v,(binOp op t vx (.slice none 0 0)).run P w=.ok v w∧RepA G r v∧(∀ ox oy,(eqGuard op t ox oy vx (.slice none 0 0)).run P w=.ok () w):=by
 have hs:isSlT P t=true→∃ e,P.underlying t=some (.slice e):=by
  unfold isSlT; split <;> simp_all
 unfold aNil at h
 split at h
 ·obtain ⟨h1,h2⟩:=h
  obtain ⟨e,h3⟩:=hs h1
  refine ⟨_,h2,fun w G vx rx=>?_⟩
  cases rx
  exact ⟨_,zkg rfl (zwr h3 _ w),.p _ _ (.bool _),fun ox oy=>rfl⟩
 ·obtain ⟨h1,h2⟩:=h
  obtain ⟨e,h3⟩:=hs h1
  refine ⟨_,h2,fun w G vx rx=>?_⟩
  cases rx
  exact ⟨_,zkh rfl (zwr h3 _ w),.p _ _ (.bool _),fun ox oy=>rfl⟩
 ·obtain ⟨h1,h2⟩:=h
  obtain ⟨e,h3⟩:=hs h1
  refine ⟨_,h2,fun w G vx rx=>?_⟩
  cases rx
  exact ⟨_,zkg rfl (zg4 h3 _ _ _ w),.p _ _ (.bool _),fun ox oy=>rfl⟩
 ·obtain ⟨h1,h2⟩:=h
  obtain ⟨e,h3⟩:=hs h1
  refine ⟨_,h2,fun w G vx rx=>?_⟩
  cases rx
  exact ⟨_,zkh rfl (zg4 h3 _ _ _ w),.p _ _ (.bool _),fun ox oy=>rfl⟩
 ·obtain ⟨⟨h0,h1⟩,h2⟩:=h
  obtain ⟨e,h3⟩:=hs h1
  refine ⟨_,h2,fun w G vx rx=>?_⟩
  cases rx with
  | msl _ _ _ _ _ a a' a2 cap cap' ver' c2 hl hn he hc hm hz hc2 ha =>
   obtain ⟨b,o,rfl⟩:=hz (by omega)
   rw [ha (by omega)]
   exact ⟨_,zkg rfl (zg4 h3 _ _ _ w),.p _ _ (.bool _),fun ox oy=>rfl⟩
 ·obtain ⟨⟨h0,h1⟩,h2⟩:=h
  obtain ⟨e,h3⟩:=hs h1
  refine ⟨_,h2,fun w G vx rx=>?_⟩
  cases rx with
  | msl _ _ _ _ _ a a' a2 cap cap' ver' c2 hl hn he hc hm hz hc2 ha =>
   obtain ⟨b,o,rfl⟩:=hz (by omega)
   rw [ha (by omega)]
   exact ⟨_,zkh rfl (zg4 h3 _ _ _ w),.p _ _ (.bool _),fun ox oy=>rfl⟩
 ·split at h
  ·rename_i es hel
   obtain ⟨⟨h0,h1⟩,h2⟩:=h
   obtain ⟨e,h3⟩:=hs h1
   refine ⟨_,h2,fun w G vx rx=>?_⟩
   have hr:=rx.elems hel
   cases hr with
   | nil=>exact absurd rfl h0
   | slice=>exact ⟨_,zkg rfl (zg4 h3 _ _ _ w),.p _ _ (.bool _),fun ox oy=>rfl⟩
  ·exact h.elim
 ·split at h
  ·rename_i es hel
   obtain ⟨⟨h0,h1⟩,h2⟩:=h
   obtain ⟨e,h3⟩:=hs h1
   refine ⟨_,h2,fun w G vx rx=>?_⟩
   have hr:=rx.elems hel
   cases hr with
   | nil=>exact absurd rfl h0
   | slice=>exact ⟨_,zkh rfl (zg4 h3 _ _ _ w),.p _ _ (.bool _),fun ox oy=>rfl⟩
  ·exact h.elim
 ·exact h.elim
theorem zEo {t:TypeId} {op:BinOp} {x y:AV} {K:AV→Prop} (h:aBin (zs1 P t) (zxf P t) op x y K) :
  ∃ r,K r ∧ ∀ (w:World) (G:Gh) (vx vy:Value),RepA G x vx→RepA G y vy→∃ v,(binOp op t vx vy).run P w=.ok v w∧RepA G r v∧(∀ ox oy,(eqGuard op t ox oy vx vy).run P w=.ok () w):=by
 have int:∀ {op k k' a b},(op=.shl∨op=.shr∨k=k')→zdM op k a b K→∃ r,K r ∧ ∀ (w:World) (G:Gh) (vx vy:Value),RepA G (.p (.int k a)) vx→RepA G (.p (.int k' b)) vy →
   ∃ v,(binOp op t vx vy).run P w=.ok v w∧RepA G r v∧(∀ ox oy,(eqGuard op t ox oy vx vy).run P w=.ok () w):=by
  intro op k k' a b hk hi
  obtain ⟨r,hr,hrun⟩:=zzV (P:=P) (t:=t) hi
  refine ⟨r,hr,fun w G vx vy rx ry=>?_⟩
  obtain rfl:=zd9.1 rx
  obtain rfl:=zd9.1 ry
  obtain ⟨v,h1,h2⟩:=hrun w G
  refine ⟨v, ?_,h2,fun ox oy=>by cases op <;> simp [eqGuard]⟩
  rcases hk with rfl | rfl | rfl
  ·simp only [binOp,Op.shift] at h1 ⊢; exact h1
  ·simp only [binOp,Op.shift] at h1 ⊢; exact h1
  ·exact h1
 unfold aBin at h
 split at h
 ·split at h
  ·exact int (.inl rfl) h
  ·exact int (.inr (.inl rfl)) h
  ·exact int (.inr (.inr h.1)) h.2
 ·obtain ⟨r,hr,hrun⟩:=zAi (P:=P) (t:=t) h
  refine ⟨r,hr,fun w G vx vy rx ry=>?_⟩
  obtain ⟨rfl,_⟩:=zi1.1 rx
  obtain ⟨rfl,_⟩:=zi1.1 ry
  obtain ⟨v,h1,h2⟩:=hrun w G
  exact ⟨v,h1,h2,fun ox oy=>by cases op <;> simp [eqGuard]⟩
 ·exact zBa h
theorem zGb {op:UnOp} {x:AV} {K:AV→Prop} (h:aUn op x K) :
  ∃ r,K r ∧ ∀ (w:World) (G:Gh) (vx:Value),RepA G x vx→∃ v,(Op.unary op vx).run P w=.ok v w∧RepA G r v:=by
 unfold aUn at h
 split at h
 ·exact ⟨_,h,fun w G vx rx=>by obtain rfl:=zd9.1 rx; exact ⟨_,rfl,.p _ _ (.int _ _)⟩⟩
 ·exact ⟨_,h,fun w G vx rx=>by obtain rfl:=zd9.1 rx; exact ⟨_,rfl,.p _ _ (.int _ _)⟩⟩
 ·exact ⟨_,h,fun w G vx rx=>by obtain rfl:=zat.1 rx; exact ⟨_,rfl,.p _ _ (.bool _)⟩⟩
 ·exact h.elim
end Go.Abs
end

section
/- How the invariant is kept: a new block, a new object, a write into an object's block. -/
namespace Go.Abs
variable {P:Program}
theorem Holds.keep {w w':World} {G G':Gh} {l:Loc} {ob:Ob} (h:Holds w G l ob) (g:Grow G G') (hs:w.heap.size≤w'.heap.size)
  (hb:∀ b,l.blk=some b→w'.heap[b]? = w.heap[b]? ∧ ∀ o,G.rd b o=none→G'.rd b o=none):Holds w' G' l ob:=by
 cases l with
 | box b =>
  obtain ⟨h1,h2⟩:=hb b rfl
  cases ob with
  | box cells =>
   obtain ⟨cs,ty,e1,e2,e3,e4⟩:=h
   exact ⟨cs,ty,h1.trans e1,e2,fun j c hj=>⟨(e3 j c hj).1.mono g,(e3 j c hj).2⟩,fun o=>h2 o (e4 o)⟩
  | fz cs =>
   obtain ⟨e1,e2⟩:=h
   refine ⟨Nat.lt_of_lt_of_le e1 hs,fun j c hj=>?_⟩
   obtain ⟨v,e3,e4,e5⟩:=e2 j c hj
   exact ⟨v,g.rd _ _ _ e3,e4.mono g.rd,e5⟩
  | mapo es =>
   obtain ⟨ms,e1,e2,e3⟩:=h
   exact ⟨ms,h1.trans e1,e2.mono g.rd,fun o=>h2 o (e3 o)⟩
  | _=>exact h.elim
 | mrow a cap v s =>
  cases ob with
  | mrow v' s' es =>
   refine ⟨h.1,fun hlt=>?_⟩
   obtain ⟨b,o,ha,⟨cs,ty,e5,e6,e7⟩,e8⟩:=h.2 hlt
   subst ha
   obtain ⟨h1,h2⟩:=hb b (by simp [Loc.blk,hlt])
   exact ⟨b,o,rfl,⟨cs,ty,h1.trans e5,e6,fun i j e c he hc=>⟨(e7 i j e c he hc).1.mono g.rd,(e7 i j e c he hc).2⟩⟩,fun o'=>h2 _ (e8 o')⟩
  | frow v' s' es =>
   refine ⟨h.1,fun hlt=>?_⟩
   obtain ⟨b,o,ha,e5,e7⟩:=h.2 hlt
   refine ⟨b,o,ha,Nat.lt_of_lt_of_le e5 hs,fun i j e c he hc=>?_⟩
   obtain ⟨u,g1,g2,g3⟩:=e7 i j e c he hc
   exact ⟨u,g.rd _ _ _ g1,g2.mono g.rd,g3⟩
  | _=>exact h.elim
 | row a cap n s =>
  cases ob with
  | row n' s' =>
   obtain ⟨e1,e2,e3,e4⟩:=h
   refine ⟨e1,e2,e3,fun hlt=>?_⟩
   obtain ⟨b,o,ha,⟨cs,ty,fr,e5,e6⟩,e7⟩:=e4 hlt
   subst ha
   obtain ⟨h1,h2⟩:=hb b (by simp [Loc.blk,hlt])
   refine ⟨b,o,rfl,⟨cs,ty,fr,h1.trans e5,e6⟩,fun k hk1 hk2=>?_⟩
   obtain ⟨e8,e9⟩:=e7 k hk1 hk2
   refine ⟨?_,h2 _ e9⟩
   rw [← e8]
   unfold World.frozen?
   rw [h1]
  | _=>exact h.elim
def Gh.withRd (G:Gh) (b:Nat) (r:Nat→Option Value):Gh:={ G with rd:=fun b' o=>if b'=b then r o else G.rd b' o }
def Gh.withLoc (G:Gh) (id:Nat) (l:Loc):Gh:={ G with loc:=fun i=>if i=id then some l else G.loc i }
theorem Inv.rd_lt {w:World} {G:Gh} {H:List Ob} (h:Inv w G H) {b o:Nat} {c:Value} (e:G.rd b o=some c):b < w.heap.size:=by
 have:=h.rd b o c e
 unfold World.cell? at this
 rcases Nat.lt_or_ge b w.heap.size with h1 | h1
 ·exact h1
 ·simp [Array.getElem?_eq_none h1] at this
theorem Inv.loc_lt {w:World} {G:Gh} {H:List Ob} (h:Inv w G H) {id:Nat} {l:Loc} (e:G.loc id=some l):id < H.length:=by
 obtain ⟨ob,ho,_⟩:=h.obj id l e
 rcases Nat.lt_or_ge id H.length with h1 | h1
 ·exact h1
 ·simp [List.getElem?_eq_none h1] at ho
theorem Inv.loc_none {w:World} {G:Gh} {H:List Ob} (h:Inv w G H) {id:Nat} (hid:H.length≤id):G.loc id=none:=by
 cases e:G.loc id with
 | none=>rfl
 | some l=>have:=h.loc_lt e; omega
theorem ztI {w w':World} {ob:Obj} (hh:w'.heap=w.heap.push ob) {b o:Nat} (hb:b < w.heap.size):w'.cell? ⟨b,o,none⟩=w.cell? ⟨b,o,none⟩:=by
 unfold World.cell?
 have:w'.heap[b]? = w.heap[b]?:=by rw [hh,Array.getElem?_push,if_neg (by omega)]
 simp only [this]
structure Same (w w':World):Prop where
 os:w'.os=w.os
 tape:w'.tape=w.tape
 output:w'.output=w.output
 drawn:w.drawn≤w'.drawn
theorem Same.refl (w:World):Same w w:=⟨rfl,rfl,rfl,Nat.le_refl _⟩
theorem zs0 {w w':World} {G:Gh} {H:List Ob} (hi:Inv w G H) (hh:w'.heap=w.heap):Inv w' G H:=by
 refine ⟨fun b o c e=>?_,fun id l e=>?_,hi.dis,hi.tab.keep (fun _ _ _ e=>e) (fun _ _ _=>by rw [hh])⟩
 ·have:=hi.rd b o c e
  unfold World.cell? at this ⊢
  rwa [hh]
 ·obtain ⟨ob,ho,hl⟩:=hi.obj id l e
  exact ⟨ob,ho,hl.keep (Grow.refl G) (by rw [hh]; exact Nat.le_refl _) (fun b _=>⟨by rw [hh],fun _ h=>h⟩)⟩
theorem zus {w w':World} {G:Gh} (hs:Same w w') (hh:w'.heap=w.heap):Step w G w' G:=fun n =>
 ⟨hs.os,hs.tape,hs.output,hs.drawn,by rw [hh]; exact Nat.le_refl _,fun b _ _=>by rw [hh],fun _ _ _ h=>h,fun _ _ _ h=>.inl h,fun _ _ l h=>⟨l,h,.refl l⟩,fun id _ h=>.inr ⟨id,h⟩⟩
theorem zif {w w':World} {G:Gh} {H:List Ob} (hi:Inv w G H) {cs:Array Value} {ty:TypeId} {fr:Nat×Nat} (hh:w'.heap=w.heap.push (.cells cs ty fr)) (hs:Same w w')
  (r:Nat→Option Value) (hr:∀ o c,r o=some c→cs[o]? = some c) :
  Inv w' (G.withRd w.heap.size r) H∧Step w G w' (G.withRd w.heap.size r):=by
 have hsz:w'.heap.size=w.heap.size + 1:=by rw [hh]; simp
 have hrd:∀ b o c,G.rd b o=some c→(G.withRd w.heap.size r).rd b o=some c:=by
  intro b o c e
  have:=hi.rd_lt e
  simp only [Gh.withRd]
  rw [if_neg (by omega)]
  exact e
 have hg:Grow G (G.withRd w.heap.size r):=⟨hrd,fun _ l e=>⟨l,e,.refl l⟩⟩
 have hblk:∀ b,b < w.heap.size→w'.heap[b]? = w.heap[b]?:=by
  intro b hb
  rw [hh,Array.getElem?_push,if_neg (by omega)]
 refine ⟨⟨fun b o c e=>?_,fun id l e=>?_,hi.dis,hi.tab.keep hrd (fun g _ hlt=>hblk g hlt)⟩,fun n=>⟨hs.os,hs.tape,hs.output,hs.drawn,by omega,fun b hb _=>hblk b hb,hrd,fun b o c e=>?_,fun _ _ l e=>⟨l,e,.refl l⟩,fun id b e=>.inr ⟨id,e⟩⟩⟩
 ·simp only [Gh.withRd] at e
  split at e
  ·rename_i hb
   subst hb
   have:=hr o c e
   unfold World.cell?
   simp [hh,this]
  ·rw [ztI hh (hi.rd_lt e)]
   exact hi.rd b o c e
 ·obtain ⟨ob,ho,hl⟩:=hi.obj id l e
  refine ⟨ob,ho,hl.keep hg (by omega) (fun b hb=>?_)⟩
  have hlt:b < w.heap.size:=hi.blk_lt (id:=id) (by show (G.loc id).bind Loc.blk=some b; rw [show G.loc id=some l from e]; exact hb)
  exact ⟨hblk b hlt,fun o ho=>by simp only [Gh.withRd]; rw [if_neg (by omega)]; exact ho⟩
 ·simp only [Gh.withRd] at e
  split at e
  ·rename_i hb; exact .inr (.inl (by omega))
  ·exact .inl e
theorem zqm {w w':World} {G:Gh} {H:List Ob} (hi:Inv w G H) {cs:Array Value} {ty:TypeId} {fr:Nat×Nat} (hh:w'.heap=w.heap.push (.cells cs ty fr)) (hs:Same w w')
  (r:Nat→Option Value) (hr:∀ o c,r o=some c→cs[o]? = some c) (l:Loc) (ob:Ob) (hb:∀ b,l.blk=some b→b=w.heap.size)
  (hl:Holds w' ((G.withRd w.heap.size r).withLoc H.length l) l ob) :
  Inv w' ((G.withRd w.heap.size r).withLoc H.length l) (H++[ob])∧Step w G w' ((G.withRd w.heap.size r).withLoc H.length l):=by
 obtain ⟨i1,s1⟩:=zif hi hh hs r hr
 have hn:G.loc H.length=none:=hi.loc_none (Nat.le_refl _)
 have hg:Grow (G.withRd w.heap.size r) ((G.withRd w.heap.size r).withLoc H.length l):=by
  refine ⟨fun _ _ _ e=>e,fun id l' e=>⟨l', ?_,.refl l'⟩⟩
  simp only [Gh.withLoc]
  split
  ·rename_i h; subst h; rw [show (G.withRd w.heap.size r).loc H.length=none from hn] at e; simp at e
  ·exact e
 have hsz:w'.heap.size=w.heap.size + 1:=by rw [hh]; simp
 have hold:∀ id b,G.blk id=some b→b≠w.heap.size:=fun id b e=>Nat.ne_of_lt (hi.blk_lt e)
 have hcase:∀ id b,((G.withRd w.heap.size r).withLoc H.length l).blk id=some b→(id=H.length∧b=w.heap.size)∨(id≠H.length∧G.blk id=some b):=by
  intro id b e
  simp only [Gh.blk,Gh.withLoc] at e
  split at e
  ·rename_i h; exact .inl ⟨h,hb b (by simpa using e)⟩
  ·rename_i h; exact .inr ⟨h,e⟩
 refine ⟨⟨i1.rd,fun id l' e=>?_,fun i j b e1 e2=>?_,i1.tab⟩,fun n=>⟨hs.os,hs.tape,hs.output,hs.drawn,by omega,(s1 n).keep,(s1 n).rd,(s1 n).rdn,fun id hid l' e=>?_,fun id b e=>?_⟩⟩
 ·simp only [Gh.withLoc] at e
  split at e
  ·rename_i h
   subst h
   simp at e; subst e
   exact ⟨ob,by simp,hl⟩
  ·obtain ⟨ob',ho,hl'⟩:=i1.obj id l' e
   refine ⟨ob', ?_,hl'.keep hg (Nat.le_refl _) (fun b _=>⟨rfl,fun _ h=>h⟩)⟩
   rw [List.getElem?_append_left (i1.loc_lt e)]
   exact ho
 ·rcases hcase i b e1 with ⟨h1,h2⟩ | ⟨h1,h2⟩ <;> rcases hcase j b e2 with ⟨h3,h4⟩ | ⟨h3,h4⟩
  ·omega
  ·exact absurd h2 (hold j b h4)
  ·exact absurd h4 (hold i b h2)
  ·exact hi.dis i j b h2 h4
 ·obtain ⟨l1,e1,h1⟩:=(s1 n).loc id hid l' e
  obtain ⟨l2,e2,h2⟩:=hg.loc id l1 e1
  exact ⟨l2,e2,h1.trans h2⟩
 ·rcases hcase id b e with ⟨_,h2⟩ | ⟨_,h2⟩
  ·exact .inl (by omega)
  ·exact .inr ⟨id,h2⟩
end Go.Abs
end

section
/- Rows of cells: written in part, loaded, stored. -/
namespace Go.Abs
variable {P:Program}
def RepCs (G:Gh) (xs:List AV) (cs:Array Value):Prop:=cs.size=xs.length ∧ ∀ (k:Nat) (c:AV),xs[k]? = some c→RepA G c (cs.getD k undef)∧zQ (cs.getD k undef)=true
theorem RepA.repCs {G:Gh} {x:AV} {v:Value} (h:RepA G x v) (hs:x.storable=true):RepCs G x.cells v.cells:=h.cells hs
theorem RepCs.mono {G G':Gh} (g:Grow G G') {xs:List AV} {cs:Array Value} (h:RepCs G xs cs):RepCs G' xs cs:=⟨h.1,fun k c e=>⟨(h.2 k c e).1.mono g,(h.2 k c e).2⟩⟩
def setR (cs:Array Value) (off:Nat):List Value→Array Value
 | []=>cs
 | v::r=>setR (cs.setIfInBounds off v) (off + 1) r
theorem zko (vs:List Value):∀ (cs:Array Value) (off:Nat),(setR cs off vs).size=cs.size:=by
 induction vs with
 | nil=>intro cs off; rfl
 | cons v r ih=>intro cs off; simp [setR,ih]
theorem zjm (vs:List Value):∀ (cs:Array Value) (off k:Nat),off + vs.length≤cs.size→(setR cs off vs)[k]? = if off≤k∧k < off + vs.length then vs[k - off]? else cs[k]?:=by
 induction vs with
 | nil=>intro cs off k h; simp [setR]; intro h1 h2; omega
 | cons v r ih =>
  intro cs off k h
  simp only [List.length_cons] at h
  rw [setR,ih _ _ _ (by simp; omega)]
  by_cases h1:off + 1≤k∧k < off + 1 + r.length
  ·rw [if_pos h1,if_pos (by simp; omega)]
   rw [show k - off=(k - (off + 1)) + 1 by omega,List.getElem?_cons_succ]
  ·rw [if_neg h1]
   by_cases h2:k=off
   ·subst h2
    rw [if_pos (by simp)]
    simp [show k < cs.size by omega]
   ·rw [if_neg (by simp; omega)]
    rw [Array.getElem?_setIfInBounds,if_neg (by omega)]
theorem zw5 (vs:List Value):∀ (cs:Array Value) (off j:Nat),(vs.zipIdx j).foldl (fun cs (x:Value×Nat)=>cs.setIfInBounds (off + x.2) x.1) cs=setR cs (off + j) vs:=by
 induction vs with
 | nil=>intro cs off j; rfl
 | cons v r ih =>
  intro cs off j
  simp only [List.zipIdx_cons,List.foldl_cons,setR]
  rw [ih]
  rfl
theorem zse {α:Type} (xs:List α) (off:Nat) (ys:List α) (h:off + ys.length≤xs.length):(put xs off ys).length=xs.length:=by
 simp [put]; omega
theorem zD8 {α:Type} (xs:List α) (off:Nat) (ys:List α) (k:Nat) (h:off + ys.length≤xs.length) :
  (put xs off ys)[k]? = if off≤k∧k < off + ys.length then ys[k - off]? else xs[k]?:=by
 unfold put
 have hl:(xs.take off).length=off:=by simp; omega
 by_cases h1:k < off
 ·rw [if_neg (by omega),List.append_assoc,List.getElem?_append_left (by omega),List.getElem?_take,if_pos h1]
 ·by_cases h2:k < off + ys.length
  ·rw [if_pos ⟨by omega,h2⟩,List.append_assoc,List.getElem?_append_right (by omega),hl,List.getElem?_append_left (by omega)]
  ·rw [if_neg (by omega),List.getElem?_append_right (by simp; omega),List.getElem?_drop]
   congr 1
   simp
   omega
theorem RepCs.put {G:Gh} {xs ys:List AV} {cs vs:Array Value} (h:RepCs G xs cs) (h':RepCs G ys vs) (off:Nat) (hl:off + ys.length≤xs.length) :
  RepCs G (put xs off ys) (setR cs off vs.toList):=by
 have e1:=h.1
 have e2:=h'.1
 have hv:off + vs.toList.length≤cs.size:=by simp; omega
 refine ⟨by rw [zko,zse _ _ _ hl]; exact e1,fun k c hk=>?_⟩
 rw [zD8 _ _ _ _ hl] at hk
 have hg:(setR cs off vs.toList).getD k undef=if off≤k∧k < off + ys.length then vs.getD (k - off) undef else cs.getD k undef:=by
  simp only [Array.getD_eq_getD_getElem?,zjm _ _ _ _ hv]
  have:vs.toList.length=ys.length:=by simp; omega
  rw [this]
  split <;> simp
 rw [hg]
 split
 ·rename_i hin
  rw [if_pos hin] at hk
  exact h'.2 _ c hk
 ·rename_i hout
  rw [if_neg hout] at hk
  exact h.2 k c hk
theorem zw3 (place:Nat→Option (Nat×Nat)) (G:Gh):∀ (parts:List (Nat×Value)) (l:List (Nat×Nat×AV)) (xs:List AV) (cs:Array Value),
  RepCs G xs cs→l.length=parts.length→(∀ (j:Nat) (i:Nat) (v:Value) (x:Nat×Nat×AV),parts[j]? = some (i,v)→l[j]? = some x→place i=some (x.1,x.2.1)∧RepA G x.2.2 v) →
  ∀ (ys:List AV),aFill xs l (fun zs=>zs=ys)→∃ cs',Instr.fill place cs parts=some cs'∧RepCs G ys cs'
 | [],[],xs,cs,hr,_,_,ys,h=>⟨cs,rfl,by simp only [aFill] at h; exact h ▸ hr⟩
 | (i,v)::parts,(off,s,x)::l,xs,cs,hr,hl,hp,ys,h=>by
  obtain ⟨h1,h2⟩:=hp 0 i v (off,s,x) rfl rfl
  replace h1:place i=some (off,s):=h1
  replace h2:RepA G x v:=h2
  simp only [aFill] at h
  obtain ⟨⟨h3,h4,h5⟩,h6⟩:=h
  have hc:=h2.repCs h3
  have e1:=hr.1
  have e2:=hc.1
  have:=zw3 place G parts l (Abs.put xs off x.cells) (setR cs off v.cells.toList) (hr.put hc off (by omega)) (by simpa using hl)
   (fun j i' v' x' ha hb=>hp (j + 1) i' v' x' (by simpa using ha) (by simpa using hb)) ys h6
  obtain ⟨cs',hf,hrep⟩:=this
  refine ⟨cs', ?_,hrep⟩
  simp only [Instr.fill,h1]
  rw [if_neg (by simp; omega)]
  rw [← hf]
  congr 1
  rw [← Array.foldl_toList,Array.toList_zipIdx]
  have:=zw5 v.cells.toList cs off 0
  simpa using this
 | [],_::_,_,_,_,hl,_,_,_=>by simp at hl
 | _::_,[],_,_,_,hl,_,_,_=>by simp at hl
theorem zyP:∀ (l:List (Nat×Nat×AV)) (xs:List AV) (K:List AV→Prop),aFill xs l K→∃ ys,aFill xs l (fun zs=>zs=ys)∧K ys
 | [],xs,K,h=>⟨xs,rfl,h⟩
 | (off,s,v)::l,xs,K,h=>by
  obtain ⟨h1,h2⟩:=h
  obtain ⟨ys,h3,h4⟩:=zyP l _ K h2
  exact ⟨ys,⟨h1,h3⟩,h4⟩
end Go.Abs
end

section
/- More operations that only reckon: places, parts, slices, lengths, conversions, literals. -/
namespace Go.Abs
variable {P:Program}
theorem zbb (b o n:Nat):(⟨b,o,none⟩:Addr).add n=⟨b,o + n,none⟩:=by
 unfold Addr.add
 split
 ·rename_i h; simp [h]
 ·rfl
theorem zdx {t:TypeId} {i:TypeInfo} (h:P.info? t=some i) (w:World):(sizeOf t).run P w=.ok i.size w:=by simp [sizeOf,typeInfo,h]
theorem zrp {s:TypeId} {fs:Array Field} {f:Nat} {fl:Field} {i:TypeInfo} {x:AV} {K:AV→Prop} (hs:P.underlying s=some (.struct fs)) (hf:fs[f]? = some fl) (hi:P.info? fl.type=some i)
  (hz:i.size≠0) (h:za fl.offset x K) :
  ∃ r,K r ∧ ∀ (G:Gh) (vx:Value),RepA G x vx→∃ v,(∀ w:World,(Instr.fieldAt s vx f).run P w=.ok v w)∧RepA G r v:=by
 have run:∀ (w:World) (b o:Nat),(Instr.fieldAt s (.pointer (some ⟨b,o,none⟩)) f).run P w=.ok (.pointer (some ⟨b,o + fl.offset,none⟩)) w:=by
  intro w b o
  simp [Instr.fieldAt,zu hs,hf,Instr.sureAddr,fieldPlace,zdx hi,hz,zbb]
 unfold za at h
 split at h
 ·refine ⟨_,h,fun G vx rx=>?_⟩
  cases rx with
  | bptr id off b hl=>exact ⟨_,fun w=>run w b _,.bptr _ _ b hl⟩
 ·refine ⟨_,h,fun G vx rx=>?_⟩
  have rx:=zbp.1 rx
  cases rx with
  | imm _ off b o val hr hv hk =>
   refine ⟨_,fun w=>run w b _,.p _ _ ?_⟩
   rw [Nat.add_assoc]
   exact .imm _ _ b o val hr hv hk
 ·rename_i id ver s' i' off
  refine ⟨_,h,fun G vx rx=>?_⟩
  cases rx with
  | mptr _ _ _ _ _ b o a a' cap cap' ver' hl hn he hi2 ha =>
   refine ⟨_,fun w=>run w b _, ?_⟩
   rw [Nat.add_assoc (o + i' * s') off fl.offset]
   exact .mptr id ver s' i' _ b o a a' cap cap' ver' hl hn he hi2 ha
 ·exact h.elim
theorem zrq {t e:TypeId} {i:TypeInfo} {x ix:AV} {K:AV→Prop} (ht:P.underlying t=some (.slice e)) (hi:P.info? e=some i) (h:zb i.size x ix K) :
  ∃ r,K r ∧ ∀ (G:Gh) (vx vi:Value),RepA G x vx→RepA G ix vi→∃ v,(∀ w:World,(Instr.indexAt t vx vi).run P w=.ok v w)∧RepA G r v:=by
 unfold zb at h
 split at h
 ·rename_i id ver s' off len k n
  obtain ⟨hs,⟨h0,h1⟩,h3⟩:=h
  subst hs
  refine ⟨_,h3,fun G vx vi rx ri=>?_⟩
  obtain rfl:=zd9.1 ri
  cases rx with
  | msl _ _ _ _ _ a a' a2 cap cap' ver' c2 hl hn he hc hm hz h2 ha =>
   obtain ⟨b,o,rfl⟩:=hz (by omega)
   have ha:=ha (by omega)
   subst ha
   refine ⟨.pointer (some ⟨b,o + off * i.size + n.toNat * i.size,none⟩), ?_, ?_⟩
   ·intro w
    simp [Instr.indexAt,zu ht,asIntOf,h0,h1,zdx hi,zbb]
   ·have:=RepA.mptr id ver i.size (off + n.toNat) 0 b o _ a' cap cap' ver' hl hn he (by omega) rfl
    rw [Nat.add_mul,← Nat.add_assoc] at this
    exact this
 split at h
 ·rename_i es k n hel _
  obtain ⟨⟨h0,h1⟩,h2,h3⟩:=h
  refine ⟨_,h3,fun G vx vi rx ri=>?_⟩
  obtain rfl:=zd9.1 ri
  have hr:=rx.elems hel
  have hlt:n.toNat < es.length:=by omega
  generalize hes:es=es' at hr
  cases hr with
  | nil a cap=>subst hes; simp at hlt
  | slice _ b o cap s val hs hr hv hk hl hc =>
   subst hes
   have he:es[n.toNat]? = some (es.getD n.toNat default):=by
    rw [List.getD_eq_getElem?_getD,List.getElem?_eq_getElem hlt]; rfl
   have hsz:(es.getD n.toNat default).cells.length=s:=hs _ (List.mem_of_getElem? he)
   refine ⟨.pointer (some ⟨b,o + n.toNat * s,none⟩), ?_,.p _ _ ?_⟩
   ·intro w
    have:i.size=s:=by omega
    subst this
    simp [Instr.indexAt,zu ht,asIntOf,h0,h1,zdx hi,zbb]
   ·have:=RepT.imm (rd:=G.rd) (es.getD n.toNat default).cells 0 b (o + n.toNat * s) (fun j=>val n.toNat j) (fun j c hc=>hr _ _ _ _ he hc) (fun j c hc=>hv _ _ _ _ he hc) (fun j c hc=>hk _ _ _ _ he hc)
    simpa using this
 ·exact h.elim
theorem zBu {t:TypeId} {x ix:AV} {K:AV→Prop} (ht:P.underlying t=some .string) (h:zkr x ix K) :
  ∃ r,K r ∧ ∀ (w:World) (G:Gh) (vx vi:Value),RepA G x vx→RepA G ix vi→∃ v,(Instr.index t vx vi).run P w=.ok v w∧RepA G r v:=by
 unfold zkr at h
 split at h
 ·rename_i s k n
  obtain ⟨⟨h0,h1⟩,h3⟩:=h
  refine ⟨_,h3,fun w G vx vi rx ri=>?_⟩
  obtain rfl:=zd9.1 ri
  obtain ⟨rfl,_⟩:=zi1.1 rx
  have hlt:n.toNat < s.length:=by omega
  have he:(⟨s.toArray⟩:ByteArray)[n.toNat]? = some (s.getD n.toNat 0):=by
   rw [ByteArray.getElem?_lt' _ _ (by simpa [ByteArray.size] using hlt)]
   rw [List.getD_eq_getElem?_getD,List.getElem?_eq_getElem hlt]
   rfl
  refine ⟨_, ?_,.p _ _ (.int _ _)⟩
  simp [Instr.index,zu ht,asIntOf,h0,he]
 ·exact h.elim
theorem zeN {b:Option AV} {d:Int} {K:Int→Prop} (h:zc8 b d K):∃ n,K n∧((b=none∧n=d) ∨ ∃ k,b=some (.p (.int k n))):=by
 unfold zc8 at h
 split at h
 ·exact ⟨_,h,.inl ⟨rfl,rfl⟩⟩
 ·exact ⟨_,h,.inr ⟨_,rfl⟩⟩
 ·exact h.elim
theorem zjJ {lo hi mx:Option Value} {isSlice:Bool} {len cap:Nat} {l h m:Int} (hl0:0≤l) (hlh:l≤h) (hhm:h≤m) (hm:m≤cap)
  (elo:(lo=none∧l=0) ∨ ∃ k,lo=some (.int k l)) (ehi:(hi=none∧mx=none∧h=len) ∨ ∃ k,hi=some (.int k h)) (emx:(mx=none∧m=cap) ∨ ∃ k,mx=some (.int k m)) (w:World) :
  (Instr.sliceBounds isSlice len cap lo hi mx).run P w=.ok (l.toNat,h.toNat,m.toNat) w:=by
 have bnd:∀ (k:IntKind) (n:Int) (y:Nat) (c:BoundsCode),0≤n→n≤y→(Instr.sliceBound (.int k n) y c).run P w=.ok n.toNat w:=by
  intro k n y c h0 h1
  simp [Instr.sliceBound,asIntOf,h0,h1]
 have hcap:(m.toNat:Int)=m:=by omega
 have hh:(h.toNat:Int)=h:=by omega
 unfold Instr.sliceBounds
 rcases emx with ⟨rfl,e3⟩ | ⟨km,rfl⟩
 ·have e3':cap=m.toNat:=by omega
  rcases ehi with ⟨rfl,_,e2⟩ | ⟨kh,rfl⟩
  ·have e2':len=h.toNat:=by omega
   rcases elo with ⟨rfl,e1⟩ | ⟨kl,rfl⟩
   ·subst e1; simp [← e2',← e3']
   ·simp only [Sem.run_bind,Sem.run_pure,Result.andThen]
    rw [bnd kl l len _ hl0 (by omega)]
    simp [← e2',← e3']
  ·rcases elo with ⟨rfl,e1⟩ | ⟨kl,rfl⟩
   ·subst e1
    simp only [Sem.run_bind,Sem.run_pure,Result.andThen]
    rw [bnd kh h cap _ (by omega) (by omega)]
    simp [← e3']
   ·simp only [Sem.run_bind,Sem.run_pure,Result.andThen]
    rw [bnd kh h cap _ (by omega) (by omega)]
    simp only []
    rw [bnd kl l h.toNat _ hl0 (by omega)]
    simp [← e3']
 ·rcases ehi with ⟨rfl,hn,e2⟩ | ⟨kh,rfl⟩
  ·simp at hn
  ·rcases elo with ⟨rfl,e1⟩ | ⟨kl,rfl⟩
   ·subst e1
    simp only [Sem.run_bind,Sem.run_pure,Result.andThen]
    rw [bnd km m cap _ (by omega) (by omega)]
    simp only []
    rw [bnd kh h m.toNat _ (by omega) (by omega)]
    simp
   ·simp only [Sem.run_bind,Sem.run_pure,Result.andThen]
    rw [bnd km m cap _ (by omega) (by omega)]
    simp only []
    rw [bnd kh h m.toNat _ (by omega) (by omega)]
    simp only []
    rw [bnd kl l h.toNat _ hl0 (by omega)]
theorem RepT.sub {rd:Rd} {es:List T} {b o cap s:Nat} (h:RepT rd (.slice es) (.slice (some ⟨b,o,none⟩) es.length cap)) (hs:∀ e∈es,e.cells.length=s) (l k:Nat) (hlk:l≤k) (hk:k≤es.length) (cap':Nat) (hc:k - l≤cap') :
  RepT rd (.slice ((es.take k).drop l)) (.slice (some ⟨b,o + l * s,none⟩) (k - l) cap'):=by
 have hlen:((es.take k).drop l).length=k - l:=by simp; omega
 by_cases h0:k - l=0
 ·have:(es.take k).drop l=[]:=List.eq_nil_of_length_eq_zero (by omega)
  rw [this,h0]
  exact .nil _ _
 generalize hv:Value.slice (some ⟨b,o,none⟩) es.length cap=v at h
 generalize hes:es=es' at h
 cases h with
 | nil a c=>subst hes; simp at hk; omega
 | slice _ b' o' cap2 s' val hs' hr hv' hk' hl hc' =>
  subst hes
  injection hv with e1 e2 e3
  injection e1 with e1
  injection e1 with e4 e5
  subst e4 e5
  have hne:0 < es.length:=by omega
  have he0:es[0]? = some es[0]:=List.getElem?_eq_getElem hne
  have hss:s'=s:=by
   rw [← hs' _ (List.mem_of_getElem? he0),hs _ (List.mem_of_getElem? he0)]
  subst hss
  have look:∀ i e,((es.take k).drop l)[i]? = some e→es[l + i]? = some e:=by
   intro i e he
   rw [List.getElem?_drop,List.getElem?_take] at he
   split at he
   ·exact he
   ·simp at he
  have:=RepT.slice (rd:=rd) ((es.take k).drop l) b (o + l * s') cap' s' (fun i j=>val (l + i) j)
   (fun e he=>hs e (List.mem_of_mem_take (List.mem_of_mem_drop he)))
   (fun i j e c he hc=>by have:=hr (l + i) j e c (look i e he) hc; rw [← this]; congr 1; rw [Nat.add_mul]; omega)
   (fun i j e c he hc=>hv' (l + i) j e c (look i e he) hc) (fun i j e c he hc=>hk' (l + i) j e c (look i e he) hc) (by omega) (by omega)
  rwa [hlen] at this
theorem RepT.sizes {rd:Rd} {es:List T} {v:Value} (h:RepT rd (.slice es) v):es=[] ∨ ∃ b o s cap,v=.slice (some ⟨b,o,none⟩) es.length cap ∧ ∀ e∈es,e.cells.length=s:=by
 cases h with
 | nil a cap=>exact .inl rfl
 | slice _ b o cap s val hs hr hv hk hl hc=>exact .inr ⟨b,o,s,cap,rfl,hs⟩
def RepO (G:Gh) (x:Option AV) (v:Option Value):Prop:=(x=none∧v=none) ∨ ∃ y u,x=some y∧v=some u∧RepA G y u
theorem RepO.bound {G:Gh} {b:Option AV} {v:Option Value} {d n:Int} (h:RepO G b v) (e:(b=none∧n=d) ∨ ∃ k,b=some (.p (.int k n))) :
  (b=none∧v=none∧n=d) ∨ ∃ k,v=some (.int k n):=by
 rcases e with ⟨rfl,rfl⟩ | ⟨k,rfl⟩
 ·rcases h with ⟨_,rfl⟩ | ⟨y,u,h1,_⟩
  ·exact .inl ⟨rfl,rfl,rfl⟩
  ·simp at h1
 ·rcases h with ⟨h1,_⟩ | ⟨y,u,h1,rfl,r⟩
  ·simp at h1
  ·simp at h1; subst h1
   obtain rfl:=zd9.1 r
   exact .inr ⟨k,rfl⟩
theorem zDz {rd:Rd} {G:Gh} (hg:G.rd=rd) {es:List T} {a:Option Addr} {n cap:Nat} (h:RepT rd (.slice es) (.slice a n cap)) (hn:es.length=n) (hc:cap=n):RepA G (.full es) (.slice a n cap):=by
 subst hn hc hg
 exact .full es a h
theorem zAb {t e:TypeId} {i:TypeInfo} {id ver s' off len:Nat} {lo hi mx:Option AV} {K:AV→Prop} (ht:P.underlying t=some (.slice e)) (hi':P.info? e=some i) (h:zj7 i.size id ver s' off len lo hi mx K) :
  ∃ r,K r ∧ ∀ (w:World) (G:Gh) (vx:Value) (vlo vhi vmx:Option Value),RepA G (.msl id ver s' off len) vx→RepO G lo vlo→RepO G hi vhi→RepO G mx vmx →
   ∃ v,(Instr.sliceAt t vx vlo vhi vmx).run P w=.ok v w∧RepA G r v:=by
 unfold zj7 at h
 obtain ⟨l,h,el⟩:=zeN h
 obtain ⟨u,h,eu⟩:=zeN h
 obtain ⟨⟨hs,h0,h1,h2⟩,h⟩:=h
 have part:∀ (w:World) (G:Gh) (a:Option Addr) (cap:Nat) (vlo vhi vmx:Option Value) (m:Int),len≤cap→RepO G lo vlo→RepO G hi vhi →
   u≤m→m≤cap→((vmx=none∧m=cap)∨((∃ k,vmx=some (.int k m))∧hi.isSome=true)) →
   (Instr.sliceAt t (.slice a len cap) vlo vhi vmx).run P w=.ok (.slice (if m.toNat=l.toNat then a else a.map (·.add (l.toNat * i.size))) (u.toNat - l.toNat) (m.toNat - l.toNat)) w:=by
  intro w G a cap vlo vhi vmx m hcap rlo rhi hm1 hm2 em
  have blo:=rlo.bound el
  have bhi:=rhi.bound eu
  have hrun:=zjJ (P:=P) (isSlice:=true) (len:=len) (cap:=cap) (l:=l) (h:=u) (m:=m) (lo:=vlo) (hi:=vhi) (mx:=vmx) h0 h1 hm1 hm2
   (by
     rcases blo with ⟨_,e1,e2⟩ | e
     ·exact .inl ⟨e1,e2⟩
     ·exact .inr e)
   (by
     rcases bhi with ⟨e0,e1,e2⟩ | e
     ·rcases em with ⟨e3,_⟩ | ⟨_,e3⟩
      ·exact .inl ⟨e1,e3,e2⟩
      ·rw [e0] at e3; simp at e3
     ·exact .inr e)
   (by
     rcases em with ⟨e3,e4⟩ | ⟨e3,_⟩
     ·exact .inl ⟨e3,e4⟩
     ·exact .inr e3) w
  simp [Instr.sliceAt,Instr.slice,zu ht,hrun,zdx hi']
 cases mx with
 | none =>
  refine ⟨_,h,fun w G vx vlo vhi vmx rx rlo rhi rmx=>?_⟩
  have hv:vmx=none:=by
   rcases rmx with ⟨_,e⟩ | ⟨y,z,e,_⟩
   ·exact e
   ·simp at e
  cases rx with
  | msl _ _ _ _ _ a a' a2 cap cap' ver' c2 hl hn he hc hm hz h2' ha =>
   have h5:=part w G a2 c2 vlo vhi vmx c2 (by omega) rlo rhi (by omega) (by omega) (.inl ⟨hv,rfl⟩)
   refine ⟨_,h5, ?_⟩
   subst hs
   refine .msl id ver i.size (off + l.toNat) (u.toNat - l.toNat) a a' _ cap cap' ver' _ hl hn he (by omega) (by omega) hz (by omega) (fun hlt=>?_)
   rw [if_neg (by omega),ha (by omega)]
   obtain ⟨b,o,rfl⟩:=hz (by omega)
   simp only [Option.map_some,zbb]
   rw [Nat.add_mul,Nat.add_assoc]
 | some m =>
  obtain ⟨hsome,h7⟩:=h
  obtain ⟨m',⟨⟨h4,h6⟩,h8⟩,em⟩:=zeN h7
  subst h4
  refine ⟨_,h8,fun w G vx vlo vhi vmx rx rlo rhi rmx=>?_⟩
  have bm:=rmx.bound em
  have hv:∃ k,vmx=some (.int k m'):=by
   rcases bm with ⟨e,_⟩ | e
   ·simp at e
   ·exact e
  cases rx with
  | msl _ _ _ _ _ a a' a2 cap cap' ver' c2 hl hn he hc hm hz h2' ha =>
   have h5:=part w G a2 c2 vlo vhi vmx m' (by omega) rlo rhi (Int.le_refl _) (by omega) (.inr ⟨hv,hsome⟩)
   refine ⟨_,h5, ?_⟩
   have e0:m'.toNat - l.toNat=0:=by omega
   rw [e0]
   exact .full [] _ (.nil _ 0)
theorem zyI {t e:TypeId} {i:TypeInfo} {x:AV} {lo hi mx:Option AV} {K:AV→Prop} (ht:P.underlying t=some (.slice e)) (hi':P.info? e=some i) (h:zbg false i.size x lo hi mx K) :
  ∃ r,K r ∧ ∀ (w:World) (G:Gh) (vx:Value) (vlo vhi vmx:Option Value),RepA G x vx→RepO G lo vlo→RepO G hi vhi→RepO G mx vmx →
   ∃ v,(Instr.sliceAt t vx vlo vhi vmx).run P w=.ok v w∧RepA G r v:=by
 simp only [zbg] at h
 split at h
 ·exact zAb ht hi' h
 cases hel:x.elems with
 | none=>simp [hel] at h
 | some es =>
  simp only [hel,zbU] at h
  obtain ⟨l,h,el⟩:=zeN h
  obtain ⟨u,h,eu⟩:=zeN h
  obtain ⟨⟨h0,h1,h2⟩,h3,h⟩:=h
  have lu:u.toNat - l.toNat=((es.take u.toNat).drop l.toNat).length:=by simp; omega
  -- the value's part
  have part:∀ (w:World) (G:Gh) (a:Option Addr) (cap:Nat) (vlo vhi vmx:Option Value) (m:Int),RepT G.rd (.slice es) (.slice a es.length cap)→es.length≤cap→RepO G lo vlo→RepO G hi vhi →
    u≤m→m≤cap→((vmx=none∧m=cap)∨((∃ k,vmx=some (.int k m))∧hi.isSome=true)) →
    ∃ a',(Instr.sliceAt t (.slice a es.length cap) vlo vhi vmx).run P w=.ok (.slice a' (u.toNat - l.toNat) (m.toNat - l.toNat)) w ∧
     RepT G.rd (.slice ((es.take u.toNat).drop l.toNat)) (.slice a' (u.toNat - l.toNat) (m.toNat - l.toNat)):=by
   intro w G a cap vlo vhi vmx m hr hcap rlo rhi hm1 hm2 em
   have blo:=rlo.bound el
   have bhi:=rhi.bound eu
   have hrun:=zjJ (P:=P) (isSlice:=true) (len:=es.length) (cap:=cap) (l:=l) (h:=u) (m:=m) (lo:=vlo) (hi:=vhi) (mx:=vmx) h0 h1 hm1 hm2
    (by
      rcases blo with ⟨_,e1,e2⟩ | e
      ·exact .inl ⟨e1,e2⟩
      ·exact .inr e)
    (by
      rcases bhi with ⟨e0,e1,e2⟩ | e
      ·rcases em with ⟨e3,_⟩ | ⟨_,e3⟩
       ·exact .inl ⟨e1,e3,e2⟩
       ·rw [e0] at e3; simp at e3
      ·exact .inr e)
    (by
      rcases em with ⟨e3,e4⟩ | ⟨e3,_⟩
      ·exact .inl ⟨e3,e4⟩
      ·exact .inr e3) w
   have hrun2:(Instr.sliceAt t (.slice a es.length cap) vlo vhi vmx).run P w=.ok (.slice (if m.toNat=l.toNat then a else a.map (·.add (l.toNat * i.size))) (u.toNat - l.toNat) (m.toNat - l.toNat)) w:=by
    simp [Instr.sliceAt,Instr.slice,zu ht,hrun,zdx hi']
   refine ⟨_,hrun2, ?_⟩
   by_cases hz:u=l
   ·have:(es.take u.toNat).drop l.toNat=[]:=List.eq_nil_of_length_eq_zero (by omega)
    rw [this]
    have:u.toNat - l.toNat=0:=by omega
    rw [this]
    exact .nil _ _
   ·rw [if_neg (by omega)]
    rcases hr.sizes with e0 | ⟨b,o,s,cap',ev,hs⟩
    ·subst e0; simp at h2; omega
    ·injection ev with e1 _ _
     subst e1
     have hadd:l.toNat * i.size=l.toNat * s:=by
      by_cases hl:l=0
      ·subst hl; simp
      ·rcases el with ⟨_,e2⟩ | ⟨k,e2⟩
       ·omega
       ·subst e2
        have:=h3 (by omega)
        have hlt:l.toNat < es.length:=by omega
        have he:es[l.toNat]? = some (es.getD l.toNat default):=by
         rw [List.getD_eq_getElem?_getD,List.getElem?_eq_getElem hlt]; rfl
        rw [← this,hs _ (List.mem_of_getElem? he)]
     rw [hadd]
     simp only [Option.map_some,zbb]
     exact hr.sub hs l.toNat u.toNat (by omega) (by omega) _ (by omega)
  cases mx with
  | none =>
   refine ⟨_,h,fun w G vx vlo vhi vmx rx rlo rhi rmx=>?_⟩
   have hr:=rx.elems hel
   obtain ⟨a,cap,rfl,hc,_⟩:=hr.slice_form
   have hv:vmx=none:=by
    rcases rmx with ⟨_,e⟩ | ⟨y,z,e,_⟩
    ·exact e
    ·simp at e
   obtain ⟨a',h5,h6⟩:=part w G a cap vlo vhi vmx cap hr hc rlo rhi (by omega) (by omega) (.inl ⟨hv,rfl⟩)
   exact ⟨_,h5,.p _ _ h6⟩
  | some m =>
   obtain ⟨hsome,h⟩:=h
   obtain ⟨m',⟨h4,h⟩,em⟩:=zeN h
   subst h4
   refine ⟨_,h,fun w G vx vlo vhi vmx rx rlo rhi rmx=>?_⟩
   have hr:=rx.elems hel
   obtain ⟨a,cap,rfl,hc,_⟩:=hr.slice_form
   have bm:=rmx.bound em
   have hv:∃ k,vmx=some (.int k m'):=by
    rcases bm with ⟨e,_⟩ | e
    ·simp at e
    ·exact e
   obtain ⟨a',h5,h6⟩:=part w G a cap vlo vhi vmx m' hr hc rlo rhi (Int.le_refl _) (by omega) (.inr ⟨hv,hsome⟩)
   exact ⟨_,h5,zDz rfl h6 lu.symm rfl⟩
theorem zxK {t:TypeId} {x:AV} {lo hi mx:Option AV} {K:AV→Prop} (ht:P.underlying t=some .string) (h:zbg true 0 x lo hi mx K) :
  ∃ r,K r ∧ ∀ (w:World) (G:Gh) (vx:Value) (vlo vhi vmx:Option Value),RepA G x vx→RepO G lo vlo→RepO G hi vhi→RepO G mx vmx →
   ∃ v,(Instr.sliceAt t vx vlo vhi vmx).run P w=.ok v w∧RepA G r v:=by
 simp only [zbg] at h
 split at h
 ·rename_i s
  simp only [zyQ] at h
  obtain ⟨l,h,el⟩:=zeN h
  obtain ⟨u,h,eu⟩:=zeN h
  obtain ⟨⟨h0,h1,h2⟩,h⟩:=h
  refine ⟨_,h,fun w G vx vlo vhi vmx rx rlo rhi rmx=>?_⟩
  obtain ⟨rfl,hlen⟩:=zi1.1 rx
  have hv:vmx=none:=by
   rcases rmx with ⟨_,e⟩ | ⟨y,z,e,_⟩
   ·exact e
   ·simp at e
  subst hv
  have hsz:(⟨s.toArray⟩:ByteArray).size=s.length:=by simp [ByteArray.size]
  have blo:=rlo.bound el
  have bhi:=rhi.bound eu
  have hrun:=zjJ (P:=P) (isSlice:=false) (len:=s.length) (cap:=s.length) (l:=l) (h:=u) (m:=s.length) (lo:=vlo) (hi:=vhi) (mx:=none) h0 h1 h2 (Int.le_refl _)
   (by
     rcases blo with ⟨_,e1,e2⟩ | e
     ·exact .inl ⟨e1,e2⟩
     ·exact .inr e)
   (by
     rcases bhi with ⟨e0,e1,e2⟩ | e
     ·exact .inl ⟨e1,rfl,e2⟩
     ·exact .inr e)
   (.inl ⟨rfl,rfl⟩) w
  refine ⟨.string ((⟨s.toArray⟩:ByteArray).extract l.toNat u.toNat), ?_, ?_⟩
  ·simp [Instr.sliceAt,Instr.slice,zu ht,hrun,hsz]
  ·have e:(⟨s.toArray⟩:ByteArray).extract l.toNat u.toNat=⟨((s.take u.toNat).drop l.toNat).toArray⟩:=by
    apply ByteArray.ext
    simp [ByteArray.data_extract,List.drop_take]
   rw [e]
   exact .p _ _ (.str _ (by simp; omega))
 ·exact h.elim
theorem zro {x:AV} {i:Nat} {K:AV→Prop} (h:zB x i K) :
  ∃ r,K r ∧ ∀ (G:Gh) (vx:Value),RepA G x vx→∃ v,(∀ w:World,(Instr.extract vx i).run P w=.ok v w)∧RepA G r v:=by
 unfold zB at h
 split at h
 ·rename_i vs
  obtain ⟨h1,h2⟩:=h
  refine ⟨_,h2,fun G vx rx=>?_⟩
  cases rx with
  | tup _ us hn hv =>
   have hi:i < us.size:=by omega
   refine ⟨us[i],fun w=>by simp [Instr.extract,Array.getElem?_eq_getElem hi], ?_⟩
   have:=hv i (vs.getD i .top) (by rw [List.getD_eq_getElem?_getD,List.getElem?_eq_getElem h1]; rfl)
   simpa [Array.getD_eq_getD_getElem?,Array.getElem?_eq_getElem hi] using this
 ·exact h.elim
theorem zxk {draw:Bool} {n:Nat} {K:AV→Prop} (h:lenK draw n K):(draw=true→K (.p (.int .i64 n)))∧(n≤maxLen→K (.p (.int .i64 n))):=by
 cases draw with
 | true=>exact ⟨fun _=>h.2,fun _=>h.2⟩
 | false=>exact ⟨fun e=>by simp at e,h⟩
theorem zrr {t ty:TypeId} {draw:Bool} {x:AV} {K:AV→Prop} (ht:P.underlying t=some .string) (h:aLen draw true x K) :
  ∃ r,(draw=true→K r) ∧ ∀ (G:Gh) (vx:Value),RepA G x vx→K r ∧ ∃ v,(∀ w:World,(Builtin.len_ #[t] ty #[vx]).run P w=.ok v w)∧RepA G r v:=by
 simp only [aLen] at h
 split at h
 ·rename_i s
  obtain ⟨h1,h2⟩:=zxk h
  refine ⟨.p (.int .i64 s.length),h1,fun G vx rx=>?_⟩
  obtain ⟨rfl,hl⟩:=zi1.1 rx
  have hsz:(⟨s.toArray⟩:ByteArray).size=s.length:=by simp [ByteArray.size]
  exact ⟨h2 hl,.int .i64 s.length,fun w=>by simp [Builtin.len_,zu ht,hsz,goInt],.p _ _ (.int _ _)⟩
 ·exact h.elim
theorem zs5 {t e ty:TypeId} {draw:Bool} {x:AV} {K:AV→Prop} (ht:P.underlying t=some (.slice e)) (h:aLen draw false x K) :
  ∃ r,(draw=true→K r) ∧ ∀ (G:Gh) (vx:Value),RepA G x vx→K r ∧ ∃ v,(∀ w:World,(Builtin.len_ #[t] ty #[vx]).run P w=.ok v w)∧RepA G r v:=by
 simp only [aLen] at h
 split at h
 ·rename_i id ver s off len
  obtain ⟨h1,h2⟩:=zxk h
  refine ⟨.p (.int .i64 len),h1,fun G vx rx=>?_⟩
  cases rx with
  | msl _ _ _ _ _ a a' a2 cap cap' ver' c2 hl hn he hc hm hz h2' ha =>
   exact ⟨h2 hm,.int .i64 len,fun w=>by simp [Builtin.len_,zu ht,goInt],.p _ _ (.int _ _)⟩
 split at h
 ·rename_i es hel
  obtain ⟨h1,h2⟩:=zxk h
  refine ⟨.p (.int .i64 es.length),h1,fun G vx rx=>?_⟩
  obtain ⟨a,cap,rfl,hc,hl⟩:=(rx.elems hel).slice_form
  exact ⟨h2 hl,.int .i64 es.length,fun w=>by simp [Builtin.len_,zu ht,goInt],.p _ _ (.int _ _)⟩
 ·exact h.elim
theorem zA7 {src dst:TypeId} {d:TypeDesc} {k:IntKind} (hs:P.underlying src=some d) (hd:P.underlying dst=some (.int k)) (k':IntKind) (n:Int) (w:World) :
  (convert src dst (.int k' n)).run P w=.ok (.int k (k.wrap n)) w:=by
 simp [convert,zu hs,zu hd,Conv.intToInt]
theorem zsC:∀ {es:List T} {l:List UInt8},zbR es=some l→∃ ns:List Int,es=ns.map (T.int .u8)∧l=ns.map (fun n=>UInt8.ofNat n.toNat)
 | [],l,h=>by simp [zbR] at h; subst h; exact ⟨[],rfl,rfl⟩
 | .int .u8 n::r,l,h=>by
  simp only [zbR] at h
  cases hr:zbR r with
  | none=>simp [hr] at h
  | some l' =>
   simp [hr] at h
   subst h
   obtain ⟨ns,rfl,rfl⟩:=zsC hr
   exact ⟨n::ns,rfl,rfl⟩
 | .int .i8 _::_,_,h=>by simp [zbR] at h
 | .int .i16 _::_,_,h=>by simp [zbR] at h
 | .int .i32 _::_,_,h=>by simp [zbR] at h
 | .int .i64 _::_,_,h=>by simp [zbR] at h
 | .int .u16 _::_,_,h=>by simp [zbR] at h
 | .int .u32 _::_,_,h=>by simp [zbR] at h
 | .int .u64 _::_,_,h=>by simp [zbR] at h
 | .bool _::_,_,h=>by simp [zbR] at h
 | .str _::_,_,h=>by simp [zbR] at h
 | .slice _::_,_,h=>by simp [zbR] at h
 | .imm _ _::_,_,h=>by simp [zbR] at h
 | .func _ _::_,_,h=>by simp [zbR] at h
 | .agg _::_,_,h=>by simp [zbR] at h
 | .raw _::_,_,h=>by simp [zbR] at h
theorem zC0 (ns:List Int):∀ (s:List UInt8),ns.foldl (fun (r:ByteArray) n=>r.push (UInt8.ofNat n.toNat)) ⟨s.toArray⟩=⟨(s++ns.map (fun n=>UInt8.ofNat n.toNat)).toArray⟩:=by
 induction ns with
 | nil=>intro s; simp
 | cons n ns ih =>
  intro s
  have:(⟨s.toArray⟩:ByteArray).push (UInt8.ofNat n.toNat)=⟨(s++[UInt8.ofNat n.toNat]).toArray⟩:=by
   apply ByteArray.ext; simp [ByteArray.push]
  rw [List.foldl_cons,this,ih]
  simp
theorem zqG {es:List T} {l:List UInt8} (hb:zbR es=some l) {w:World} {G:Gh} {H:List Ob} (hi:Inv w G H) {v:Value} (hr:RepT G.rd (.slice es) v) :
  (Conv.bytesToString v).run P w=.ok (.string ⟨l.toArray⟩) w∧l.length≤maxLen:=by
 obtain ⟨ns,rfl,rfl⟩:=zsC hb
 obtain ⟨_,_,_,_,hl⟩:=hr.slice_form
 refine ⟨?_,by simpa using hl⟩
 generalize hes:ns.map (T.int .u8)=es at hr
 cases hr with
 | nil a cap =>
  have:ns=[]:=by simpa using hes
  subst this
  cases a with
  | none=>rfl
  | some a =>
   have:=run_bytesToString (P:=P) w a 0 cap [] (by simp [loadCells,loadCellsFrom])
   rw [this]; rfl
 | slice _ b o cap s val hs hrd hv hk hl hc =>
  subst hes
  have hlen:(ns.map (T.int .u8)).length=(ns.map (Value.int .u8)).length:=by simp
  have hload:(loadCells ⟨b,o,none⟩ (ns.map (T.int .u8)).length).run P w=.ok (ns.map (Value.int .u8)).toArray w:=by
   rw [hlen]
   refine run_loadCells_list w _ _ (fun j v hj=>?_)
   simp only [List.getElem?_map,Option.map_eq_some_iff] at hj
   obtain ⟨n,hn,rfl⟩:=hj
   have he:(ns.map (T.int .u8))[j]? = some (T.int .u8 n):=by simp [hn]
   have hc0:(T.int .u8 n).cells[0]? = some (T.int .u8 n):=rfl
   have hs1:s=1:=(hs _ (List.mem_of_getElem? he)).symm
   subst hs1
   have h1:=hi.rd _ _ _ (hrd j 0 _ _ he hc0)
   have h2:=zkR.1 (hv j 0 _ _ he hc0)
   rw [h2] at h1
   rw [zbb]
   simpa using h1
  have:=run_bytesToString (P:=P) w ⟨b,o,none⟩ (ns.map (T.int .u8)).length cap ns hload
  rw [this,show ByteArray.empty=(⟨([]:List UInt8).toArray⟩:ByteArray) from rfl,zC0]
  simp
end Go.Abs
end

section
/- The operations that only reckon, all together; literals of slices, texts as bytes, calls. -/
namespace Go.Abs
variable {P:Program}
def Dom (H:List Ob) (G G':Gh):Prop:=∀ id,id < H.length→G.loc id=none→G'.loc id=none
def Does (P:Program) (o:Oper) (ρ:Operand→AV) (r:AV) (H H':List Ob):Prop :=
 ∀ (a:Act) (w:World) (G:Gh),Inv w G H→(∀ x∈o.op.operands,RepA G (ρ x) (a.eval x))→∀ (next:Act→World→Prop) (Q:Exit→Act→World→Prop),
  (∀ v w' G',RepA G' r v→Inv w' G' H'→Step w G w' G'→Dom H G G'→next (a.put o.dst v) w')→o.wp P a w next Q
def DoesW (P:Program) (o:Oper) (ρ:Operand→AV) (r:AV) (H H':List Ob):Prop :=
 ∀ (a:Act) (w:World) (G:Gh),Inv w G H→(∀ x∈o.op.operands,RepA G (ρ x) (a.eval x))→∀ (next:Act→World→Prop) (Q:Exit→Act→World→Prop),
  (∀ v w' G',RepA G' r v→Inv w' G' H'→Step w G w' G'→next (a.put o.dst v) w')→o.wp P a w next Q
theorem Does.weak {o:Oper} {ρ:Operand→AV} {r:AV} {H H':List Ob} (h:Does P o ρ r H H'):DoesW P o ρ r H H' :=
 fun a w G hi hx next Q hn=>h a w G hi hx next Q fun v w' G' h1 h2 h3 _=>hn v w' G' h1 h2 h3
theorem zcE {o:Oper} {ρ:Operand→AV} {r:AV} {H H':List Ob}
  (h:∀ (a:Act) (w:World) (G:Gh),Inv w G H→(∀ x∈o.op.operands,RepA G (ρ x) (a.eval x)) →
   ∃ v w' G',(execOp a.eval o).run P w=.ok (.value v) w'∧RepA G' r v∧(Inv w' G' H'∧Step w G w' G')∧Dom H G G'):Does P o ρ r H H':=by
 intro a w G hi hx next Q hn
 obtain ⟨v,w',G',e,hr,⟨hi',hs⟩,hd⟩:=h a w G hi hx
 unfold Oper.wp
 rw [e]
 exact hn v w' G' hr hi' hs hd
theorem zO {o:Oper} {ρ:Operand→AV} {r:AV} {H:List Ob}
  (h:∀ (a:Act) (w:World) (G:Gh),Inv w G H→(∀ x∈o.op.operands,RepA G (ρ x) (a.eval x))→∃ v,(execOp a.eval o).run P w=.ok (.value v) w∧RepA G r v):Does P o ρ r H H :=
 zcE fun a w G hi hx=>let ⟨v,e,hr⟩:=h a w G hi hx; ⟨v,w,G,e,hr,⟨hi,.refl w G⟩,fun _ _ h=>h⟩
def Gh.bare (G:Gh):Gh:=⟨G.rd,fun _=>none⟩
theorem Inv.bare {w:World} {G:Gh} {H:List Ob} (h:Inv w G H):Inv w G.bare [] :=
 ⟨h.rd,fun _ _ e=>by simp [Gh.bare] at e,fun _ _ _ e=>by simp [Gh.bare,Gh.blk] at e,h.tab⟩
theorem zku (G:Gh) (id:Nat):G.bare.blk id=none:=rfl
theorem zth {G0 G':Gh} {φ:Nat→Nat} (hrd:∀ b o c,G0.rd b o=some c→G'.rd b o=some c) (hloc:∀ id l,G0.loc id=some l→G'.loc (φ id)=some l) {x:AV} {v:Value} (r:RepA G0 x v):RepA G' (x.ren1 φ) v:=by
 cases r with
 | p t v h=>exact .p t v (h.mono hrd)
 | full es a h=>exact .full es a (h.mono hrd)
 | own id es a a' cap cap' n s h hl hn he hs=>exact .own _ es a a' cap cap' n s (h.mono hrd) (hloc _ _ hl) hn he hs
 | bptr id off b hl=>exact .bptr _ off b (hloc _ _ hl)
 | mclo f caps vs hn hv =>
  refine .mclo f _ vs (by simpa using hn) (fun j c hj=>?_)
  simp only [List.getElem?_map,Option.map_eq_some_iff] at hj
  obtain ⟨c',hc',rfl⟩:=hj
  obtain ⟨b,hb,hv'⟩:=hv j c' hc'
  exact ⟨b,hloc _ _ hb,hv'⟩
 | top v=>exact .top v
 | nils cap=>exact .nils cap
 | nns es a cap h=>exact .nns es a cap (h.mono hrd)
 | msl id ver s off len a a' a2 cap cap' ver' c2 hl hn he hc hm hz h2 ha=>exact .msl _ ver s off len a a' a2 cap cap' ver' c2 (hloc _ _ hl) hn he hc hm hz h2 ha
 | mptr id ver s i off b o a a' cap cap' ver' hl hn he hi ha=>exact .mptr _ ver s i off b o a a' cap cap' ver' (hloc _ _ hl) hn he hi ha
 | bnd f id off b hl=>exact .bnd f _ off b (hloc _ _ hl)
 | mapr id b hl=>exact .mapr _ b (hloc _ _ hl)
 | agg cs vs=>exact .top _
 | tup cs vs=>exact .top _
theorem zD9 {G0 G':Gh} {φ:Nat→Nat} (hrd:∀ b o c,G0.rd b o=some c→G'.rd b o=some c) (hloc:∀ id l,G0.loc id=some l→G'.loc (φ id)=some l) {x:AV} {v:Value} (r:RepA G0 x v):RepA G' (x.ren φ) v:=by
 cases x with
 | agg cs =>
  cases r with
  | agg _ vs hn hv hk =>
   refine .agg _ vs (by simpa using hn) (fun j c hj=>?_) (fun j c hj=>?_)
   ·simp only [List.getElem?_map,Option.map_eq_some_iff] at hj
    obtain ⟨c',hc',rfl⟩:=hj
    exact zth hrd hloc (hv j c' hc')
   ·simp only [List.getElem?_map,Option.map_eq_some_iff] at hj
    obtain ⟨c',hc',rfl⟩:=hj
    exact hk j c' hc'
 | tup cs =>
  cases r with
  | tup _ vs hn hv =>
   refine .tup _ vs (by simpa using hn) (fun j c hj=>?_)
   simp only [List.getElem?_map,Option.map_eq_some_iff] at hj
   obtain ⟨c',hc',rfl⟩:=hj
   exact zth hrd hloc (hv j c' hc')
 | _=>exact zth hrd hloc r
theorem zud {w:World} {G0 G':Gh} {φ:Nat→Nat} (hrd:G'.rd=G0.rd) (hloc:∀ id l,G0.loc id=some l→G'.loc (φ id)=some l) {l:Loc} {ob:Ob} (h:Holds w G0 l ob):Holds w G' l (ob.ren φ):=by
 cases l with
 | box b =>
  cases ob with
  | box cells =>
   obtain ⟨cs,ty,e1,e2,e3,e4⟩:=h
   refine ⟨cs,ty,e1,by simpa using e2,fun j c hj=>?_,by rw [hrd]; exact e4⟩
   simp only [List.getElem?_map,Option.map_eq_some_iff] at hj
   obtain ⟨c',hc',rfl⟩:=hj
   exact ⟨zth (fun _ _ _ e=>by rw [hrd]; exact e) hloc (e3 j c' hc').1,(e3 j c' hc').2⟩
  | fz cs=>obtain ⟨e1,e2⟩:=h; exact ⟨e1,by rw [hrd]; exact e2⟩
  | mapo es=>obtain ⟨ms,e1,e2,e3⟩:=h; exact ⟨ms,e1,by rw [hrd]; exact e2,by rw [hrd]; exact e3⟩
  | _=>exact h.elim
 | row a cap n s =>
  cases ob with
  | row n' s'=>exact ⟨h.1,h.2.1,h.2.2.1,by rw [hrd]; exact h.2.2.2⟩
  | _=>exact h.elim
 | mrow a cap v s =>
  cases ob with
  | mrow v' s' es=>exact ⟨h.1,by rw [hrd]; exact h.2⟩
  | frow v' s' es=>exact ⟨h.1,by rw [hrd]; exact h.2⟩
  | _=>exact h.elim
theorem zyU {w w':World} {G G0:Gh} {H Hn:List Ob} (hi:Inv w G H) (hi0:Inv w' G0 Hn) (hm:Move 0 w G.bare w' G0) :
  Inv w' ⟨G0.rd,fun id=>if id < H.length then G.loc id else G0.loc (id - H.length)⟩ (H++Hn.map (Ob.shift H.length)) ∧
  Step w G w' ⟨G0.rd,fun id=>if id < H.length then G.loc id else G0.loc (id - H.length)⟩ ∧
  ∀ x v,RepA G0 x v→RepA ⟨G0.rd,fun id=>if id < H.length then G.loc id else G0.loc (id - H.length)⟩ (x.shift H.length) v:=by
 generalize hG:(⟨G0.rd,fun id=>if id < H.length then G.loc id else G0.loc (id - H.length)⟩:Gh)=G'
 have erd:G'.rd=G0.rd:=by rw [← hG]
 have eloc:∀ id,G'.loc id=if id < H.length then G.loc id else G0.loc (id - H.length):=by intro id; rw [← hG]
 have enew:∀ id,G'.loc (H.length + id)=G0.loc id:=by
  intro id
  rw [eloc,if_neg (by omega)]
  congr 1
  omega
 have hg:Grow G G':=by
  refine ⟨fun b o c e=>by rw [erd]; exact hm.rd b o c e,fun id l e=>⟨l, ?_,.refl l⟩⟩
  rw [eloc,if_pos (hi.loc_lt e)]
  exact e
 have hkeep:∀ b,b < w.heap.size→w'.heap[b]? = w.heap[b]?:=fun b hb=>hm.keep b hb (fun id=>by simp [zku])
 have hnew:∀ id b,G0.blk id=some b→w.heap.size≤b:=by
  intro id b e
  rcases hm.new id b e with h | ⟨j,h⟩
  ·exact h
  ·simp [zku] at h
 have hblk:∀ id b,G'.blk id=some b→(id < H.length∧G.blk id=some b∧b < w.heap.size)∨(H.length≤id∧G0.blk (id - H.length)=some b∧w.heap.size≤b):=by
  intro id b e
  unfold Gh.blk at e
  rw [eloc] at e
  split at e
  ·rename_i h; exact .inl ⟨h,e,hi.blk_lt e⟩
  ·rename_i h; exact .inr ⟨by omega,e,hnew _ _ e⟩
 have hloc:∀ id l,G0.loc id=some l→G'.loc (H.length + id)=some l:=fun id l e=>by rw [enew]; exact e
 refine ⟨⟨fun b o c e=>hi0.rd b o c (by rw [← erd]; exact e),fun id l e=>?_,fun i j b e1 e2=>?_,by rw [erd]; exact hi0.tab⟩,fun n=>⟨hm.os,hm.tape,hm.output,hm.drawn,hm.size,fun b hb _=>hkeep b hb,hg.rd,fun b o c e=>?_,fun id _ l e=>hg.loc id l e,fun id b e=>?_⟩,
  fun x v r=>zD9 (fun _ _ _ e=>by rw [erd]; exact e) hloc r⟩
 ·rw [eloc] at e
  split at e
  ·rename_i h
   obtain ⟨ob,ho,hl⟩:=hi.obj id l e
   refine ⟨ob,by rw [List.getElem?_append_left h]; exact ho,hl.keep hg hm.size (fun b hb=>?_)⟩
   have hlt:b < w.heap.size:=hi.blk_lt (id:=id) (by simp [Gh.blk,e,hb])
   refine ⟨hkeep b hlt,fun o ho=>?_⟩
   rw [erd]
   cases e2:G0.rd b o with
   | none=>rfl
   | some c =>
    rcases hm.rdn b o c e2 with h1 | h1 | ⟨_,h1⟩
    ·rw [show G.bare.rd b o=none from ho] at h1; simp at h1
    ·omega
    ·simp [zku] at h1
  ·rename_i h
   obtain ⟨ob,ho,hl⟩:=hi0.obj _ l e
   refine ⟨ob.shift H.length, ?_,zud erd hloc hl⟩
   rw [List.getElem?_append_right (by omega),List.getElem?_map,ho]; rfl
 ·rcases hblk i b e1 with ⟨h1,h2,h3⟩ | ⟨h1,h2,h3⟩ <;> rcases hblk j b e2 with ⟨h4,h5,h6⟩ | ⟨h4,h5,h6⟩
  ·exact hi.dis i j b h2 h5
  ·omega
  ·omega
  ·have:=hi0.dis _ _ b h2 h5
   omega
 ·rw [erd] at e
  rcases hm.rdn b o c e with h1 | h1 | ⟨_,h1⟩
  ·exact .inl h1
  ·exact .inr (.inl h1)
  ·simp [zku] at h1
 ·rcases hblk id b e with ⟨_,h2,_⟩ | ⟨_,_,h3⟩
  ·exact .inr ⟨id,h2⟩
  ·exact .inl h3
theorem zvX {w w':World} {G G0:Gh} {H Hn:List Ob} (hi:Inv w G H) (hi0:Inv w' G0 Hn) (hm:Move 0 w G.bare w' G0) :
  Inv w' ⟨G0.rd,G.loc⟩ H∧Step w G w' ⟨G0.rd,G.loc⟩:=by
 obtain ⟨i1,s1,_⟩:=zyU hi hi0 hm
 have hg:Grow G ⟨G0.rd,G.loc⟩:=⟨(s1 0).rd,fun _ l e=>⟨l,e,.refl l⟩⟩
 refine ⟨⟨i1.rd,fun id l e=>?_,hi.dis,hi0.tab⟩,fun n=>⟨hm.os,hm.tape,hm.output,hm.drawn,hm.size,(s1 n).keep,(s1 n).rd,(s1 n).rdn,fun _ _ l e=>⟨l,e,.refl l⟩,fun id b e=>.inr ⟨id,e⟩⟩⟩
 obtain ⟨ob,ho,hl⟩:=hi.obj id l e
 refine ⟨ob,ho,hl.keep hg hm.size (fun b hb=>?_)⟩
 have hlt:b < w.heap.size:=hi.blk_lt (id:=id) (by show (G.loc id).bind Loc.blk=some b; rw [show G.loc id=some l from e]; exact hb)
 refine ⟨hm.keep b hlt (fun id=>by simp [zku]),fun o ho=>?_⟩
 show G0.rd b o=none
 cases e2:G0.rd b o with
 | none=>rfl
 | some c =>
  rcases hm.rdn b o c e2 with h1 | h1 | ⟨_,h1⟩
  ·rw [show G.bare.rd b o=none from ho] at h1; simp at h1
  ·omega
  ·simp [zku] at h1
theorem zm2 {f:FuncId} (h:zcD P f=true) (args:Array Value) (w:World):(callFunc f args).run P w=.ok (.enter f args) w:=by
 unfold zcD at h
 split at h
 ·rename_i fn hf
  simp at h
  have hb:fn.body≠none:=by intro hx; simp [hx] at h
  simp [callFunc,hf,h.2,hb]
 ·simp at h
theorem zAX {o:Oper} {f:Operand} {args:Array Operand} {at':Array TypeId} (ho:o.op=.call { callee:=.value f,args:=args,argTypes:=at' }) {a:Act} {g:FuncId} {fs vs:Array Value}
  (hf:a.eval f=.func (.func g) fs vs) (hc:zcD P g=true) (w:World):(execOp a.eval o).run P w=.ok (.enter g (fs++args.map a.eval++vs)) w:=by
 unfold execOp
 rw [ho]
 simp only [resolve,hf,Deferred.ofValue,Sem.run_bind,Sem.run_pure,Result.andThen,invoke]
 rw [zm2 hc]
theorem zFo {G G':Gh} (hrd:G'.rd=G.rd) {ρ:Operand→AV} {a:Act} {args:Array Operand} {ts caps:List T} {vs:Array Value} (hx:∀ x∈args,RepA G (ρ x) (a.eval x))
  (ht:toTs (args.toList.map ρ)=some ts) (hn:vs.size=caps.length) (hv:∀ j c,caps[j]? = some c→RepT G.rd c (vs.getD j undef)) :
  RepL G' ((ts++caps).map .p) (args.map a.eval++vs):=by
 obtain ⟨hl,hs⟩:=zqC ht
 have hl':ts.length=args.size:=by simpa using hl
 refine ⟨by simp [hl',hn],fun j x hj=>?_⟩
 simp only [List.getElem?_map,Option.map_eq_some_iff] at hj
 obtain ⟨t,ht',rfl⟩:=hj
 refine .p _ _ ?_
 rw [hrd]
 rcases Nat.lt_or_ge j ts.length with h | h
 ·rw [List.getElem?_append_left h] at ht'
  obtain ⟨c,hc,hct⟩:=hs j t ht'
  simp only [List.getElem?_map,Option.map_eq_some_iff] at hc
  obtain ⟨x,hx',rfl⟩:=hc
  have hj':j < args.size:=by omega
  have hxe:args[j]=x:=by
   rw [Array.getElem?_toList,Array.getElem?_eq_getElem hj'] at hx'
   simpa using hx'
  have:=(hx x (hxe ▸ Array.getElem_mem hj')).toT hct
  have e:(args.map a.eval++vs).getD j undef=a.eval x:=by
   simp [Array.getD_eq_getD_getElem?,Array.getElem?_append,hj',hxe]
  rw [e]
  exact this
 ·rw [List.getElem?_append_right h] at ht'
  have:=hv _ t ht'
  have e:(args.map a.eval++vs).getD j undef=vs.getD (j - ts.length) undef:=by
   simp only [Array.getD_eq_getD_getElem?,Array.getElem?_append]
   rw [if_neg (by simp; omega)]
   simp [hl']
  rw [e]
  exact this
theorem zsS {G:Gh} {f:FuncId} {caps:List T} {v:Value} (h:RepA G (.p (.func f caps)) v):∃ vs:Array Value,v=.func (.func f) #[] vs∧vs.size=caps.length ∧ ∀ j c,caps[j]? = some c→RepT G.rd c (vs.getD j undef):=by
 have h:=zbp.1 h
 cases h with
 | func _ _ vs hn hv=>exact ⟨vs,rfl,hn,hv⟩
theorem zAW {o:Oper} {f:Operand} {args:Array Operand} {at':Array TypeId} (ho:o.op=.call { callee:=.value f,args:=args,argTypes:=at' }) {ρ:Operand→AV} {K:AV→Prop}
  (h:zJ P (ρ f) (args.toList.map ρ) K):∃ r,K r ∧ ∀ H,Does P o ρ r H H:=by
 unfold zJ at h
 split at h
 ·rename_i g caps ts hf ht
  obtain ⟨r,Hn,r',⟨hcal,hfn⟩,hp,hk⟩:=h
  refine ⟨r',hk,fun H a w G hi hx next Q hn=>?_⟩
  have hops:∀ x,x=f∨x∈args→RepA G (ρ x) (a.eval x):=by
   intro x hx'
   refine hx x ?_
   rw [ho]
   simp only [Op.operands,Call.operands]
   rcases hx' with rfl | h
   ·simp
   ·simp [h]
  have rf:=hops f (.inl rfl)
  rw [hf] at rf
  obtain ⟨vs,ef,hvn,hvv⟩:=zsS rf
  have hrl:=zFo (G':=G.bare) (G:=G) rfl (fun x hx=>hops x (.inr hx)) ht hvn hvv
  unfold Oper.wp
  rw [zAX ho ef hcal w,Oper.upon_enter]
  rw [show (#[]++args.map a.eval++vs:Array Value)=args.map a.eval++vs by simp]
  refine (hfn w G.bare _ hi.bare hrl).mono ?_
  rintro e w' ⟨v,G0,rfl,hrep,hi0,hm⟩
  obtain ⟨i1,s1⟩:=zvX hi hi0 hm
  exact hn v w' ⟨G0.rd,G.loc⟩ (hrep.pur hp (fun _ _ _ h=>h)) i1 s1 (fun _ _ h=>h)
 ·exact h.elim
theorem zCD {o:Oper} {f:Operand} {args:Array Operand} {at':Array TypeId} (ho:o.op=.call { callee:=.value f,args:=args,argTypes:=at' }) {ρ:Operand→AV} {H:List Ob} {K:AV→List Ob→Prop}
  (h:aCall P (ρ f) (args.toList.map ρ) H K):∃ r H',K r H'∧DoesW P o ρ r H H':=by
 obtain ⟨r,H',hd,hk⟩:=h
 refine ⟨r,H',hk,fun a w G hi hx next Q hn=>?_⟩
 have hops:∀ x,x=f∨x∈args→RepA G (ρ x) (a.eval x):=by
  intro x hx'
  refine hx x ?_
  rw [ho]
  simp only [Op.operands,Call.operands]
  rcases hx' with rfl | h
  ·simp
  ·simp [h]
 obtain ⟨g,fs,cs,ef,hcal,hc⟩:=hd w G (a.eval f) (args.map a.eval) hi (hops f (.inl rfl)) (by
  refine ⟨by simp,fun j x hj=>?_⟩
  simp only [List.getElem?_map,Option.map_eq_some_iff] at hj
  obtain ⟨y,hy,rfl⟩:=hj
  have hj':j < args.size:=by
   have:=(List.getElem?_eq_some_iff.1 hy).1
   simpa using this
  have hxe:args[j]=y:=by
   rw [Array.getElem?_toList,Array.getElem?_eq_getElem hj'] at hy
   simpa using hy
  have e:(args.map a.eval).getD j undef=a.eval y:=by
   simp [Array.getD_eq_getD_getElem?,hj',hxe]
  rw [e]
  exact hops y (.inr (hxe ▸ Array.getElem_mem hj')))
 unfold Oper.wp
 rw [zAX ho ef hcal w,Oper.upon_enter]
 refine hc.mono ?_
 rintro e w' ⟨v,G',rfl,hrep,hi',hs⟩
 exact hn v w' G' hrep hi' hs
theorem zDY (s:Nat):∀ (vs:List Value) (ps:List (Nat×Value)) (j:Nat) (cs:Array Value),ps.length=vs.length→(∀ k,k < vs.length→ps[k]? = (vs[k]?).map fun v=>(j + k,v))→(∀ v∈vs,v.cells.size=s)→(j + vs.length) * s≤cs.size →
  ∃ cs',Instr.fill (fun i=>some (i * s,s)) cs ps=some cs'∧cs'.size=cs.size∧(∀ k,k < j * s→cs'[k]? = cs[k]?) ∧ ∀ (i c:Nat) (v:Value),vs[i]? = some v→c < s→cs'[(j + i) * s + c]? = v.cells[c]?
 | [],[],j,cs,_,_,_,_=>⟨cs,rfl,rfl,fun _ _=>rfl,fun i c v h=>by simp at h⟩
 | v::vs,p::ps,j,cs,hl,hp,hs,hsz=>by
  have h0:=hp 0 (by simp)
  simp at h0
  subst h0
  have hv:v.cells.size=s:=hs v (by simp)
  have hmul:(j + (vs.length + 1)) * s=j * s + s + vs.length * s:=by rw [Nat.add_mul,Nat.add_mul]; omega
  simp only [List.length_cons] at hsz
  rw [hmul] at hsz
  have hj1:(j + 1) * s=j * s + s:=by rw [Nat.add_mul]; omega
  have hset:(setR cs (j * s) v.cells.toList).size=cs.size:=zko _ _ _
  obtain ⟨cs',e1,e2,e3,e4⟩:=zDY s vs ps (j + 1) (setR cs (j * s) v.cells.toList) (by simpa using hl)
   (fun k hk=>by have:=hp (k + 1) (by simp; omega); simp at this; rw [this]; congr 1; funext v; simp; omega) (fun v hv=>hs v (by simp [hv]))
   (by rw [hset,Nat.add_mul,hj1]; omega)
  refine ⟨cs', ?_,by rw [e2,hset],fun k hk=>?_,fun i c u hu hc=>?_⟩
  ·simp only [Instr.fill]
   rw [if_neg (by simp; omega),← e1]
   congr 1
   rw [← Array.foldl_toList,Array.toList_zipIdx]
   have:=zw5 v.cells.toList cs (j * s) 0
   simpa using this
  ·rw [e3 k (by omega),zjm _ _ _ _ (by simp; omega),if_neg (by omega)]
  ·cases i with
   | zero =>
    simp at hu; subst hu
    rw [Nat.add_zero,e3 _ (by omega),zjm _ _ _ _ (by simp; omega),if_pos (by simp; omega)]
    simp
   | succ i =>
    simp at hu
    have:=e4 i c u hu hc
    rw [← this,show j + (i + 1)=j + 1 + i by omega]
 | [],_::_,_,_,hl,_,_,_=>by simp at hl
 | _::_,[],_,_,hl,_,_,_=>by simp at hl
theorem zvK (s:Nat):∀ (xs:List AV) (K:List T→Prop),zgB s xs K→∃ es,K es∧es.length=xs.length ∧ ∀ (i:Nat) (e:T),es[i]? = some e→e.cells.length=s ∧ ∃ x:AV,xs[i]? = some x∧x.toT=some e
 | [],K,h=>⟨[],h,rfl,fun i e he=>by simp at he⟩
 | x::xs,K,h=>by
  simp only [zgB] at h
  cases ht:x.toT with
  | none=>simp [ht] at h
  | some t =>
   simp only [ht] at h
   obtain ⟨h1,h2⟩:=h
   obtain ⟨es,h3,h4,h5⟩:=zvK s xs _ h2
   refine ⟨t::es,h3,by simp [h4],fun i e he=>?_⟩
   cases i with
   | zero=>simp at he; subst he; exact ⟨h1,x,rfl,ht⟩
   | succ i=>simp at he; simpa using h5 i e he
theorem zsZ:∀ (l:List (Nat×Operand)) (k:Nat),zsY k l=true→∀ i x,l[i]? = some x→x.1=k + i
 | [],k,_,i,x,hx=>by simp at hx
 | (j,y)::r,k,h,i,x,hx=>by
  simp [zsY] at h
  cases i with
  | zero=>simp at hx; subst hx; simp [h.1]
  | succ i =>
   simp at hx
   have:=zsZ r (k + 1) h.2 i x hx
   omega
theorem ztG {o:Oper} {t e:TypeId} {n:Nat} {parts:Array (Nat×Operand)} {i:TypeInfo} (ho:o.op=.buildSlice t n parts) (ht:P.underlying t=some (.slice e)) (hi:P.info? e=some i)
  (hord:zsY 0 parts.toList=true) (hn:parts.toList.length=n) (hsz:n * i.size≤2 ^ 24) (hn2:n≤2 ^ 24) (hz:i.zero.isSome=true) {ρ:Operand→AV} {K:AV→Prop} (h:zk i.size (parts.toList.map fun x=>ρ x.2) K) :
  ∃ r,K r ∧ ∀ H,Does P o ρ r H H:=by
 obtain ⟨es,hk,hlen,hes⟩:=zvK _ _ _ h
 refine ⟨_,hk,fun H=>zcE fun a w G hi' hx=>?_⟩
 have hlen':es.length=n:=by simpa [hn] using hlen
 obtain ⟨z,hz⟩:=Option.isSome_iff_exists.1 hz
 have hx':∀ (k:Nat) (y:Nat×Operand),parts.toList[k]? = some y→RepA G (ρ y.2) (a.eval y.2):=by
  intro k y hy
  refine hx _ ?_
  rw [ho]
  simp only [Op.operands,List.mem_toArray,List.mem_map]
  exact ⟨y,List.mem_of_getElem? hy,rfl⟩
 let vs:List Value:=parts.toList.map fun x=>a.eval x.2
 have hvs:∀ (k:Nat) (v:Value),vs[k]? = some v→∃ e,es[k]? = some e∧RepT G.rd e v:=by
  intro k v hv
  simp only [vs,List.getElem?_map,Option.map_eq_some_iff] at hv
  obtain ⟨y,hy,rfl⟩:=hv
  have hlt:k < es.length:=by
   have:=(List.getElem?_eq_some_iff.1 hy).1
   omega
  obtain ⟨_,x,hx1,hx2⟩:=hes k es[k] (List.getElem?_eq_getElem hlt)
  simp only [List.getElem?_map,Option.map_eq_some_iff] at hx1
  obtain ⟨y',hy',rfl⟩:=hx1
  rw [hy] at hy'; simp at hy'; subst hy'
  exact ⟨es[k],List.getElem?_eq_getElem hlt,(hx' k y hy).toT hx2⟩
 have hcells:∀ (k:Nat) (v:Value) (e:T),vs[k]? = some v→es[k]? = some e→v.cells.size=i.size ∧ ∀ j c,e.cells[j]? = some c→RepT G.rd c (v.cells.getD j undef)∧zQ (v.cells.getD j undef)=true:=by
  intro k v e hv he
  obtain ⟨e',he',hr⟩:=hvs k v hv
  rw [he] at he'; simp at he'; subst he'
  have hc:=(RepA.p e v hr).cells rfl
  have hsz:=(hes k e he).1
  have el:(AV.p e).cells=e.cells.map .p:=rfl
  rw [el] at hc
  refine ⟨by simpa [hsz] using hc.1,fun j c hj=>?_⟩
  have:=hc.2 j (.p c) (by simp [hj])
  exact ⟨zbp.1 this.1,this.2⟩
 have hall:∀ v∈vs,v.cells.size=i.size:=by
  intro v hv
  obtain ⟨k,hk⟩:=List.getElem?_of_mem hv
  obtain ⟨e,he,_⟩:=hvs k v hk
  exact (hcells k v e hk he).1
 have hvl:vs.length=n:=by simpa [vs] using hn
 obtain ⟨zc,hzc⟩:∃ zc:Array Value,zc=if n * i.size=0 then #[] else z.cells:=⟨_,rfl⟩
 obtain ⟨cs',f1,f2,_,f4⟩:=zDY i.size vs (parts.map fun (i,x)=>(i,a.eval x)).toList 0 ((Array.range (n * i.size)).map fun k=>zc[k % zc.size]!)
  (by simp [vs]) (fun k hk=>by
   simp only [vs,Array.toList_map,List.getElem?_map,Option.map_map]
   have hk':k < parts.toList.length:=by simpa [vs] using hk
   rw [List.getElem?_eq_getElem hk']
   have:=zsZ _ 0 hord k parts.toList[k] (List.getElem?_eq_getElem hk')
   simp only [Option.map_some,Function.comp]
   rw [← this]) hall (by simp [hvl])
 refine ⟨.slice (some ⟨w.heap.size,0,none⟩) n n,{ w with heap:=w.heap.push (.cells cs' e) },G.withRd w.heap.size (fun o=>cs'[o]?), ?_, ?_, ?_,fun _ _ h=>h⟩
 ·unfold execOp
  rw [ho]
  have hbig:¬ n * i.size > 2 ^ 24:=by omega
  by_cases h0:n * i.size=0
  ·rw [if_pos h0] at hzc
   rw [hzc] at f1
   simp only [Instr.buildSlice,Sem.run_bind,zu ht,Result.andThen,zdx hi,if_neg hbig,if_pos h0,Sem.run_pure]
   rw [f1]
   simp [newRow]
  ·rw [if_neg h0] at hzc
   rw [hzc] at f1
   have hzv:(zeroValue e).run P w=.ok z w:=by simp [zeroValue,typeInfo,hi,hz]
   simp only [Instr.buildSlice,Sem.run_bind,zu ht,Result.andThen,zdx hi,if_neg hbig,if_neg h0,Sem.run_pure,hzv]
   rw [f1]
   simp [newRow]
 ·have hrep:RepT (G.withRd w.heap.size (fun o=>cs'[o]?)).rd (.slice es) (.slice (some ⟨w.heap.size,0,none⟩) es.length es.length):=by
   have hmono:∀ b o c,G.rd b o=some c→(G.withRd w.heap.size (fun o=>cs'[o]?)).rd b o=some c:=by
    intro b o c e
    have:=hi'.rd_lt e
    simp only [Gh.withRd]
    rw [if_neg (by omega)]
    exact e
   have hget:∀ (k:Nat) (e:T),es[k]? = some e→∃ v,vs[k]? = some v:=by
    intro k e he
    have:k < vs.length:=by have:=(List.getElem?_eq_some_iff.1 he).1; omega
    exact ⟨vs[k],List.getElem?_eq_getElem this⟩
   refine .slice es w.heap.size 0 es.length i.size (fun k j=>((vs.getD k undef).cells.getD j undef)) (fun e he=>?_) (fun k j e c he hc=>?_) (fun k j e c he hc=>?_) (fun k j e c he hc=>?_) ?_ (Nat.le_refl _)
   ·obtain ⟨k,hk⟩:=List.getElem?_of_mem he
    exact (hes k e hk).1
   ·obtain ⟨v,hv⟩:=hget k e he
    have hj:j < i.size:=by
     have:=(List.getElem?_eq_some_iff.1 hc).1
     have:=(hes k e he).1
     omega
    have h4:=f4 k j v hv hj
    have hsz:=(hcells k v e hv he).1
    simp only [Gh.withRd,if_true,Nat.zero_add] at h4 ⊢
    rw [h4]
    have hj':j < v.cells.size:=by omega
    rw [show vs.getD k undef=v by rw [List.getD_eq_getElem?_getD,hv]; rfl]
    rw [Array.getD_eq_getD_getElem?,Array.getElem?_eq_getElem hj']
    rfl
   ·obtain ⟨v,hv⟩:=hget k e he
    rw [show vs.getD k undef=v by rw [List.getD_eq_getElem?_getD,hv]; rfl]
    exact ((hcells k v e hv he).2 j c hc).1.mono hmono
   ·obtain ⟨v,hv⟩:=hget k e he
    rw [show vs.getD k undef=v by rw [List.getD_eq_getElem?_getD,hv]; rfl]
    exact ((hcells k v e hv he).2 j c hc).2
   ·unfold maxLen
    omega
  rw [← hlen']
  exact .full es _ hrep
 ·have:=zif hi' (w':={ w with heap:=w.heap.push (.cells cs' e) }) (cs:=cs') (ty:=e) (fr:=(0,0)) rfl ⟨rfl,rfl,rfl,Nat.le_refl _⟩ (fun o=>cs'[o]?) (fun o c h=>h)
  exact this
end Go.Abs
end

section
/- The operations that only reckon: the whole class. -/
namespace Go.Abs
variable {P:Program}
theorem zBx {α:Type} (l:Array α) (x:α) (f:α→α):(l.push x).modify l.size f=l.push (f x):=by
 apply Array.ext_getElem?
 intro i
 rw [Array.getElem?_modify,Array.getElem?_push,Array.getElem?_push]
 by_cases h:l.size=i
 ·subst h; simp
 ·rw [if_neg h]
  have h':¬ i=l.size:=fun e=>h e.symm
  rw [if_neg h',if_neg h']
theorem zxP {o:Oper} {src dst e:TypeId} {x:Operand} (ho:o.op=.convert src dst x) (hs:P.underlying src=some .string) (hd:P.underlying dst=some (.slice e)) (he:P.underlying e=some (.int .u8))
  {ρ:Operand→AV} {s:List UInt8} (hx0:ρ x=.p (.str s)) (H:List Ob):Does P o ρ (.p (.slice (s.map byteT))) H H:=by
 refine zcE fun a w G hi hx=>?_
 have rx:=hx x (by rw [ho]; simp [Op.operands])
 rw [hx0] at rx
 obtain ⟨ev,hl⟩:=zi1.1 rx
 have hsz:(⟨s.toArray⟩:ByteArray).size=s.length:=by simp [ByteArray.size]
 generalize hcap:(Question.appendCap s.length 0 e).cut (w.tape w.drawn (.appendCap s.length 0 e))=cap
 have hcl:s.length≤cap:=by rw [← hcap]; simp only [Question.cut]; exact Nat.le_add_right _ _
 generalize hcs:(s.toArray.map (fun b=>Value.int .u8 b.toNat)++Array.replicate (cap - s.length) (Value.int .u8 0):Array Value)=cs
 have hget:∀ (k:Nat) (b:UInt8),s[k]? = some b→cs[k]? = some (Value.int .u8 b.toNat):=by
  intro k b hb
  have hk:k < s.length:=(List.getElem?_eq_some_iff.1 hb).1
  rw [← hcs,Array.getElem?_append_left (by simpa using hk)]
  simp [hb]
 refine ⟨.slice (some ⟨w.heap.size,0,none⟩) s.length cap,{ w with heap:=w.heap.push (.cells cs e (cs.size,cs.size + 1)),drawn:=w.drawn + 1 },G.withRd w.heap.size (fun o=>cs[o]?), ?_,.p _ _ ?_, ?_,fun _ _ h=>h⟩
 ·unfold execOp
  rw [ho]
  have hf:(Question.appendCap s.length 0 e).forced=false:=rfl
  simp only [ev,convert,Sem.run_bind,zu hs,zu hd,zu he,Result.andThen,Conv.stringToBytes,hsz,run_choose,hf,hcap,Bool.false_eq_true,if_false]
  have hcs':(Array.map (fun b:UInt8=>Value.int .u8 (b.toNat:Int)) s.toArray++Array.replicate (cap - s.length) (Value.int .u8 0))=cs:=hcs
  simp only [newRow,Sem.run_bind,run_newObj,Result.andThen,Sem.run_pure,hcs',markStringish,run_shape,World.shape?,Array.getElem?_push_size,run_freeze,World.freeze]
  rw [if_neg (by decide),zBx]
  rfl
 ·have hlen:(s.map byteT).length=s.length:=by simp
  rw [← hlen]
  refine .slice _ _ 0 cap 1 (fun i _=>.int .u8 (s.getD i 0).toNat) (fun e he=>?_) (fun i j e c he hc=>?_) (fun i j e c he hc=>?_) (fun _ _ _ _ _ _=>rfl) (by simpa using hl) (by simpa using hcl)
  ·simp only [List.mem_map] at he
   obtain ⟨b,_,rfl⟩:=he
   rfl
  ·simp only [List.getElem?_map,Option.map_eq_some_iff] at he
   obtain ⟨b,hb,rfl⟩:=he
   have hj:j=0:=by
    have:=(List.getElem?_eq_some_iff.1 hc).1
    simp [byteT,T.cells] at this
    exact this
   subst hj
   simp only [Gh.withRd,if_true]
   rw [show 0 + i * 1 + 0=i by omega,hget i b hb]
   rw [List.getD_eq_getElem?_getD,hb]
   rfl
  ·simp only [List.getElem?_map,Option.map_eq_some_iff] at he
   obtain ⟨b,hb,rfl⟩:=he
   have hj:j=0:=by
    have:=(List.getElem?_eq_some_iff.1 hc).1
    simp [byteT,T.cells] at this
    exact this
   subst hj
   simp [byteT,T.cells] at hc
   subst hc
   rw [List.getD_eq_getElem?_getD,hb]
   exact .int _ _
 ·exact zif hi (w':={ w with heap:=w.heap.push (.cells cs e (cs.size,cs.size + 1)),drawn:=w.drawn + 1 }) (cs:=cs) (ty:=e) (fr:=(cs.size,cs.size + 1)) rfl ⟨rfl,rfl,rfl,Nat.le_succ _⟩ (fun o=>cs[o]?) (fun o c h=>h)
theorem zu6 {ρ:Operand→AV} {pls:List (Nat×Nat)}:∀ {parts:List (Nat×Operand)} {l:List (Nat×Nat×AV)},places ρ pls parts=some l →
  l.length=parts.length ∧ ∀ (j:Nat) (i:Nat) (x:Operand) (y:Nat×Nat×AV),parts[j]? = some (i,x)→l[j]? = some y→pls[i]? = some (y.1,y.2.1)∧y.2.2=ρ x
 | [],l,h=>by simp [places] at h; subst h; simp
 | (i,x)::r,l,h=>by
  simp only [places] at h
  cases h1:pls[i]? with
  | none=>simp [h1] at h
  | some f =>
   cases h2:places ρ pls r with
   | none=>simp [h1,h2] at h
   | some l' =>
    simp [h1,h2] at h
    subst h
    obtain ⟨h3,h4⟩:=zu6 h2
    refine ⟨by simp [h3],fun j i' x' y hp hl=>?_⟩
    cases j with
    | zero=>simp at hp hl; obtain ⟨rfl,rfl⟩:=hp; subst hl; exact ⟨h1,rfl⟩
    | succ j=>simp at hp hl; exact h4 j i' x' y hp hl
theorem zx9 (G:Gh) (v:Value) (h:v.cells.toList.all zQ=true):RepCs G (v.cells.toList.map zgx) v.cells:=by
 refine ⟨by simp,fun k c hk=>?_⟩
 simp only [List.getElem?_map,Option.map_eq_some_iff] at hk
 obtain ⟨u,hu,rfl⟩:=hk
 have e:v.cells.getD k undef=u:=by
  rw [Array.getElem?_toList] at hu
  rw [Array.getD_eq_getD_getElem?,hu]; rfl
 rw [e]
 exact ⟨zfv G u,List.all_eq_true.1 h u (List.mem_of_getElem? hu)⟩
theorem zAV {o:Oper} {t:TypeId} {parts:Array (Nat×Operand)} (ho:o.op=.build t parts) {fs:Array Field} (ht:P.underlying t=some (.struct fs)) {pls:List (Nat×Nat)} (hp:zpu P fs=some pls)
  {ρ:Operand→AV} {l:List (Nat×Nat×AV)} (hl:places ρ pls parts.toList=some l) {K:AV→Prop} (h:zeroCells P t fun z=>zp z l K):∃ r,K r ∧ ∀ H,Does P o ρ r H H:=by
 unfold zeroCells at h
 cases hi:P.info? t with
 | none=>simp [hi] at h
 | some i =>
  cases hz:i.zero with
  | none=>simp [hi,hz] at h
  | some z =>
   simp only [hi,hz] at h
   split at h
   ·rename_i hsc
    unfold zp at h
    obtain ⟨ys,h1,h2⟩:=zyP _ _ _ h
    refine ⟨_,h2,fun H=>zO fun a w G hi' hx=>?_⟩
    obtain ⟨hlen,hsp⟩:=zu6 hl
    have hx':∀ (k:Nat) (y:Nat×Operand),parts.toList[k]? = some y→RepA G (ρ y.2) (a.eval y.2):=by
     intro k y hy
     refine hx _ ?_
     rw [ho]
     simp only [Op.operands,List.mem_toArray,List.mem_map]
     exact ⟨y,List.mem_of_getElem? hy,rfl⟩
    obtain ⟨cs',f1,f2⟩:=zw3 (fun x=>pls.toArray[x]?) G (parts.map fun (i,x)=>(i,a.eval x)).toList l (z.cells.toList.map zgx) z.cells (zx9 G z hsc) (by simp [hlen])
     (fun j k v y hj hy=>by
      simp only [Array.toList_map,List.getElem?_map,Option.map_eq_some_iff] at hj
      obtain ⟨⟨k',x⟩,hx1,hx2⟩:=hj
      simp at hx2
      obtain ⟨rfl,rfl⟩:=hx2
      obtain ⟨g1,g2⟩:=hsp j k' x y hx1 hy
      exact ⟨by simpa using g1,by rw [g2]; exact hx' j _ hx1⟩) ys h1
    have hb:P.built t (parts.map fun (i,x)=>(i,a.eval x)).toList=some cs':=by
     unfold Program.built
     simp only [hi,ht,hz]
     unfold zpu at hp
     rw [hp]
     exact f1
    refine ⟨.agg cs', ?_,.agg ys cs' f2.1 (fun j c hj=>(f2.2 j c hj).1) (fun j c hj=>(f2.2 j c hj).2)⟩
    unfold execOp
    rw [ho]
    simp only [Sem.run_bind,run_build w t _ cs' hb,Result.andThen]
    rfl
   ·exact h.elim
theorem zBk {s:TypeId} {fs:Array Field} {f:Nat} {fl:Field} {i:TypeInfo} {d:TypeDesc} {x:AV} {K:AV→Prop} (hs:P.underlying s=some (.struct fs)) (hf:fs[f]? = some fl) (hi:P.info? fl.type=some i) (hd:P.underlying fl.type=some d)
  (hz:aggD d=true∨i.size=1) (h:zvM (aggD d) fl.offset i.size x K) :
  ∃ r,K r ∧ ∀ (w:World) (G:Gh) (vx:Value),RepA G x vx→∃ v,(Instr.field s vx f).run P w=.ok v w∧RepA G r v:=by
 have hagg:∀ w,(isAgg fl.type).run P w=.ok (aggD d) w:=by
  intro w
  simp only [isAgg,Sem.run_bind,zu hd,Result.andThen]
  cases d <;> rfl
 have run:∀ (w:World) (vs:Array Value),(Instr.field s (.agg vs) f).run P w=(if aggD d then .ok (.agg (vs.extract fl.offset (fl.offset + i.size))) w else (match vs[fl.offset]? with | some v=>(.ok v w:Result Value) | none=>.halt (.stuck "part: no such cell") w)):=by
  intro w vs
  simp only [Instr.field,Sem.run_bind,zu hs,Result.andThen,hf,asAgg,Sem.run_pure,part,hagg]
  cases hb:aggD d with
  | true=>simp [zdx hi]
  | false=>simp only [Bool.false_eq_true,if_false]; cases vs[fl.offset]? <;> rfl
 unfold zvM at h
 split at h
 ·rename_i cs
  obtain ⟨h1,h2⟩:=h
  refine ⟨_,h2,fun w G vx rx=>?_⟩
  cases rx with
  | agg _ vs hn hv hk =>
   rw [run]
   cases hb:aggD d with
   | true =>
    refine ⟨.agg (vs.extract fl.offset (fl.offset + i.size)),rfl, ?_⟩
    have look:∀ j c,((cs.drop fl.offset).take i.size)[j]? = some c→cs[fl.offset + j]? = some c∧(vs.extract fl.offset (fl.offset + i.size)).getD j undef=vs.getD (fl.offset + j) undef:=by
     intro j c hj
     rw [List.getElem?_take] at hj
     split at hj
     ·rename_i hjs
      rw [List.getElem?_drop] at hj
      refine ⟨hj, ?_⟩
      simp only [Array.getD_eq_getD_getElem?,Array.getElem?_extract]
      rw [if_pos (by omega)]
     ·simp at hj
    refine .agg _ _ (by simp; omega) (fun j c hj=>?_) (fun j c hj=>?_)
    ·obtain ⟨e1,e2⟩:=look j c hj; rw [e2]; exact hv _ _ e1
    ·obtain ⟨e1,e2⟩:=look j c hj; rw [e2]; exact hk _ _ e1
   | false =>
    have hs1:i.size=1:=by
     rcases hz with h | h
     ·rw [hb] at h; simp at h
     ·exact h
    have hlt:fl.offset < vs.size:=by omega
    have hlt':fl.offset < cs.length:=by omega
    refine ⟨vs[fl.offset],by simp [Array.getElem?_eq_getElem hlt], ?_⟩
    have:=hv fl.offset (cs.getD fl.offset .top) (by rw [List.getD_eq_getElem?_getD,List.getElem?_eq_getElem hlt']; rfl)
    simpa [Array.getD_eq_getD_getElem?,Array.getElem?_eq_getElem hlt] using this
 ·rename_i cs
  obtain ⟨h1,h2⟩:=h
  refine ⟨_,h2,fun w G vx rx=>?_⟩
  have rx:=zbp.1 rx
  cases rx with
  | agg _ vs hn hv hk =>
   rw [run]
   cases hb:aggD d with
   | true =>
    refine ⟨.agg (vs.extract fl.offset (fl.offset + i.size)),rfl,.p _ _ ?_⟩
    have look:∀ j c,((cs.drop fl.offset).take i.size)[j]? = some c→cs[fl.offset + j]? = some c∧(vs.extract fl.offset (fl.offset + i.size)).getD j undef=vs.getD (fl.offset + j) undef:=by
     intro j c hj
     rw [List.getElem?_take] at hj
     split at hj
     ·rename_i hjs
      rw [List.getElem?_drop] at hj
      refine ⟨hj, ?_⟩
      simp only [Array.getD_eq_getD_getElem?,Array.getElem?_extract]
      rw [if_pos (by omega)]
     ·simp at hj
    refine .agg _ _ (by simp; omega) (fun j c hj=>?_) (fun j c hj=>?_)
    ·obtain ⟨e1,e2⟩:=look j c hj; rw [e2]; exact hv _ _ e1
    ·obtain ⟨e1,e2⟩:=look j c hj; rw [e2]; exact hk _ _ e1
   | false =>
    have hs1:i.size=1:=by
     rcases hz with h | h
     ·rw [hb] at h; simp at h
     ·exact h
    have hlt:fl.offset < vs.size:=by omega
    have hlt':fl.offset < cs.length:=by omega
    refine ⟨vs[fl.offset],by simp [Array.getElem?_eq_getElem hlt],.p _ _ ?_⟩
    have:=hv fl.offset (cs.getD fl.offset default) (by rw [List.getD_eq_getElem?_getD,List.getElem?_eq_getElem hlt']; rfl)
    simpa [Array.getD_eq_getD_getElem?,Array.getElem?_eq_getElem hlt] using this
 ·exact h.elim
theorem zAa {G:Gh} {ρ:Operand→AV} {a:Act} {x:Option Operand} (h:∀ y,x=some y→RepA G (ρ y) (a.eval y)):RepO G (x.map ρ) (x.map a.eval):=by
 cases x with
 | none=>exact .inl ⟨rfl,rfl⟩
 | some y=>exact .inr ⟨ρ y,a.eval y,rfl,rfl,h y rfl⟩
theorem zAf {draw:Bool} {ρ:Operand→AV} {o:Oper} {K:AV→Prop} (hc:cls draw o.op=.pure) (h:aP P draw ρ o.op K) :
  ∃ r,(draw=true→K r)∧(∀ (a:Act) (w:World) (G:Gh) (H:List Ob),Inv w G H→(∀ x∈o.op.operands,RepA G (ρ x) (a.eval x))→K r) ∧ ∀ H,Does P o ρ r H H:=by
 have easy:(∃ r,K r ∧ ∀ H,Does P o ρ r H H)→∃ r,(draw=true→K r)∧(∀ (a:Act) (w:World) (G:Gh) (H:List Ob),Inv w G H→(∀ x∈o.op.operands,RepA G (ρ x) (a.eval x))→K r) ∧ ∀ H,Does P o ρ r H H :=
  fun ⟨r,h1,h2⟩=>⟨r,fun _=>h1,fun _ _ _ _ _ _=>h1,h2⟩
 obtain ⟨op,hop⟩:∃ op,o.op=op:=⟨_,rfl⟩
 rw [hop] at h
 have mem:∀ x,x∈op.operands→x∈o.op.operands:=fun x hx=>hop ▸ hx
 cases op with
 | move x =>
  refine easy ⟨_,h,fun H=>zO fun a w G hi hx=>⟨a.eval x, ?_,hx x (mem x (by simp [Op.operands]))⟩⟩
  unfold execOp; rw [hop]; rfl
 | assign x =>
  refine easy ⟨_,h,fun H=>zO fun a w G hi hx=>⟨a.eval x, ?_,hx x (mem x (by simp [Op.operands]))⟩⟩
  unfold execOp; rw [hop]; rfl
 | pick c x y =>
  refine easy ?_
  simp only [aP,aPick] at h
  split at h
  ·rename_i b hb
   cases b with
   | true =>
    refine ⟨_,h,fun H=>zO fun a w G hi hx=>⟨a.eval x, ?_,hx x (mem x (by simp [Op.operands]))⟩⟩
    have rc:=hx c (mem c (by simp [Op.operands]))
    rw [hb] at rc
    unfold execOp; rw [hop]; simp only [zat.1 rc]; rfl
   | false =>
    refine ⟨_,h,fun H=>zO fun a w G hi hx=>⟨a.eval y, ?_,hx y (mem y (by simp [Op.operands]))⟩⟩
    have rc:=hx c (mem c (by simp [Op.operands]))
    rw [hb] at rc
    unfold execOp; rw [hop]; simp only [zat.1 rc]; rfl
  ·exact h.elim
 | nilCheck x =>
  refine easy ?_
  simp only [aP,zbz] at h
  split at h
  ·rename_i id off hb
   refine ⟨_,h,fun H=>zO fun a w G hi hx=>?_⟩
   have rx:=hx x (mem x (by simp [Op.operands]))
   refine ⟨a.eval x, ?_,rx⟩
   rw [hb] at rx
   unfold execOp; rw [hop]
   have hv:(∃ ad,a.eval x=.pointer (some ad)) ∨ ∃ g vs,a.eval x=.func (.func g) #[] vs:=by
    generalize a.eval x=v at rx
    cases rx
    first | exact .inl ⟨_,rfl⟩ | exact .inr ⟨_,_,rfl⟩
   rcases hv with ⟨ad,ev⟩ | ⟨g,vs,ev⟩ <;> simp only [ev] <;> rfl
  ·rename_i id off hb
   refine ⟨_,h,fun H=>zO fun a w G hi hx=>?_⟩
   have rx:=hx x (mem x (by simp [Op.operands]))
   refine ⟨a.eval x, ?_,rx⟩
   rw [hb] at rx
   unfold execOp; rw [hop]
   have hv:(∃ ad,a.eval x=.pointer (some ad)) ∨ ∃ g vs,a.eval x=.func (.func g) #[] vs:=by
    generalize a.eval x=v at rx
    have rx:=zbp.1 rx
    cases rx
    first | exact .inl ⟨_,rfl⟩ | exact .inr ⟨_,_,rfl⟩
   rcases hv with ⟨ad,ev⟩ | ⟨g,vs,ev⟩ <;> simp only [ev] <;> rfl
  ·rename_i id off hb
   refine ⟨_,h,fun H=>zO fun a w G hi hx=>?_⟩
   have rx:=hx x (mem x (by simp [Op.operands]))
   refine ⟨a.eval x, ?_,rx⟩
   rw [hb] at rx
   unfold execOp; rw [hop]
   have hv:(∃ ad,a.eval x=.pointer (some ad)) ∨ ∃ g vs,a.eval x=.func (.func g) #[] vs:=by
    generalize a.eval x=v at rx
    have rx:=zbp.1 rx
    cases rx
    first | exact .inl ⟨_,rfl⟩ | exact .inr ⟨_,_,rfl⟩
   rcases hv with ⟨ad,ev⟩ | ⟨g,vs,ev⟩ <;> simp only [ev] <;> rfl
  ·rename_i id off hb
   refine ⟨_,h,fun H=>zO fun a w G hi hx=>?_⟩
   have rx:=hx x (mem x (by simp [Op.operands]))
   refine ⟨a.eval x, ?_,rx⟩
   rw [hb] at rx
   unfold execOp; rw [hop]
   have hv:(∃ ad,a.eval x=.pointer (some ad)) ∨ ∃ g vs,a.eval x=.func (.func g) #[] vs:=by
    generalize a.eval x=v at rx
    cases rx
    first | exact .inl ⟨_,rfl⟩ | exact .inr ⟨_,_,rfl⟩
   rcases hv with ⟨ad,ev⟩ | ⟨g,vs,ev⟩ <;> simp only [ev] <;> rfl
  ·rename_i id ver s i off hb
   refine ⟨_,h,fun H=>zO fun a w G hi hx=>?_⟩
   have rx:=hx x (mem x (by simp [Op.operands]))
   refine ⟨a.eval x, ?_,rx⟩
   rw [hb] at rx
   unfold execOp; rw [hop]
   have hv:(∃ ad,a.eval x=.pointer (some ad)) ∨ ∃ g vs,a.eval x=.func (.func g) #[] vs:=by
    generalize a.eval x=v at rx
    cases rx
    first | exact .inl ⟨_,rfl⟩ | exact .inr ⟨_,_,rfl⟩
   rcases hv with ⟨ad,ev⟩ | ⟨g,vs,ev⟩ <;> simp only [ev] <;> rfl
  ·rename_i f id off hb
   refine ⟨_,h,fun H=>zO fun a w G hi hx=>?_⟩
   have rx:=hx x (mem x (by simp [Op.operands]))
   refine ⟨a.eval x, ?_,rx⟩
   rw [hb] at rx
   unfold execOp; rw [hop]
   have hv:∃ g fs vs,a.eval x=.func (.func g) fs vs:=by
    generalize a.eval x=v at rx
    cases rx
    exact ⟨_,_,_,rfl⟩
   obtain ⟨g,fs,vs,ev⟩:=hv
   simp only [ev]
   rfl
  ·exact h.elim
 | binOp op t x y yt =>
  cases hny:zC9 y with
  | true =>
   simp only [aP,hny] at h
   have hy:y=.const (.slice none 0 0):=by unfold zC9 at hny; split at hny <;> simp_all
   subst hy
   obtain ⟨r,hk,hr⟩:=zEN h
   refine easy ⟨r,hk,fun H=>zO fun a w G hi hx=>?_⟩
   obtain ⟨v,h1,h2,h3⟩:=hr w G _ (hx x (mem x (by simp [Op.operands])))
   refine ⟨v, ?_,h2⟩
   unfold execOp; rw [hop]
   have ec:a.eval (.const (.slice none 0 0))=.slice none 0 0:=rfl
   simp only [Sem.run_bind,ec,h3,Result.andThen,h1]; rfl
  | false =>
   cases hni:zDa y with
   | true =>
   simp only [aP,hny,hni] at h
   have hy:y=.const .nilIface:=by unfold zDa at hni; split at hni <;> simp_all
   subst hy
   obtain ⟨r,hk,hr⟩:=zDl h
   refine easy ⟨r,hk,fun H=>zO fun a w G hi hx=>?_⟩
   obtain ⟨v,h1,h2,h3⟩:=hr w G _ (hx x (mem x (by simp [Op.operands])))
   refine ⟨v, ?_,h2⟩
   unfold execOp; rw [hop]
   have ec:a.eval (.const .nilIface)=.nilIface:=rfl
   simp only [Sem.run_bind,ec,h3,Result.andThen,h1]; rfl
   | false =>
   simp only [aP,hny,hni] at h
   obtain ⟨r,hk,hr⟩:=zEo h
   refine easy ⟨r,hk,fun H=>zO fun a w G hi hx=>?_⟩
   obtain ⟨v,h1,h2,h3⟩:=hr w G _ _ (hx x (mem x (by simp [Op.operands]))) (hx y (mem y (by simp [Op.operands])))
   refine ⟨v, ?_,h2⟩
   unfold execOp; rw [hop]
   simp only [Sem.run_bind,h3,Result.andThen,h1]; rfl
 | unOp op t x =>
  obtain ⟨r,hk,hr⟩:=zGb (P:=P) h
  refine easy ⟨r,hk,fun H=>zO fun a w G hi hx=>?_⟩
  obtain ⟨v,h1,h2⟩:=hr w G _ (hx x (mem x (by simp [Op.operands])))
  refine ⟨v, ?_,h2⟩
  unfold execOp; rw [hop]
  simp only [Sem.run_bind,Result.andThen,h1]; rfl
 | convert src dst x =>
  refine easy ?_
  simp only [aP,aConv] at h
  split at h
  ·rename_i d k hs hd
   unfold zhi at h
   split at h
   ·rename_i k' n hx0
    refine ⟨_,h,fun H=>zO fun a w G hi hx=>⟨_, ?_,.p _ _ (.int _ _)⟩⟩
    have rx:=hx x (mem x (by simp [Op.operands]))
    rw [hx0] at rx
    unfold execOp; rw [hop]
    simp only [zd9.1 rx,Sem.run_bind,zA7 hs hd,Result.andThen]; rfl
   ·exact h.elim
  ·rename_i hs hd
   unfold zvJ at h
   split at h
   ·rename_i s hx0
    refine ⟨_,h,fun H=>zO fun a w G hi hx=>?_⟩
    have rx:=hx x (mem x (by simp [Op.operands]))
    rw [hx0] at rx
    refine ⟨a.eval x, ?_,rx⟩
    unfold execOp; rw [hop]
    simp only [(zi1.1 rx).1,Sem.run_bind,convert,zu hs,zu hd,Result.andThen]; rfl
   ·exact h.elim
  ·rename_i e hs hd
   split at h
   ·rename_i he
    unfold zyN at h
    split at h
    ·rename_i es hel
     split at h
     ·rename_i l hb
      refine ⟨_,h,fun H=>zO fun a w G hi hx=>?_⟩
      have rx:=hx x (mem x (by simp [Op.operands]))
      have hr:=rx.elems hel
      obtain ⟨h1,h2⟩:=zqG (P:=P) hb hi hr
      refine ⟨_, ?_,.p _ _ (.str _ h2)⟩
      unfold execOp; rw [hop]
      obtain ⟨ad,cap,ev,_,_⟩:=hr.slice_form
      rw [ev] at h1
      simp only [ev,Sem.run_bind,run_convert_bytes_string w src dst e ad es.length cap hs he hd,h1,Result.andThen]; rfl
     ·exact h.elim
    ·exact h.elim
   ·exact h.elim
  ·rename_i e hs hd
   split at h
   ·rename_i he
    unfold zql at h
    split at h
    ·rename_i s hx0
     exact ⟨_,h,fun H=>zxP hop hs hd he hx0 H⟩
    ·exact h.elim
   ·exact h.elim
  ·exact h.elim
 | build t parts =>
  refine easy ?_
  simp only [aP] at h
  split at h
  ·rename_i fs ht
   split at h
   ·rename_i pls hp
    split at h
    ·rename_i l hl
     exact zAV hop ht hp hl h
    ·exact h.elim
   ·exact h.elim
  ·exact h.elim
 | buildSlice t n parts =>
  refine easy ?_
  simp only [aP] at h
  split at h
  ·rename_i e ht
   split at h
   ·rename_i i hi
    split at h
    ·rename_i hcond
     simp only [Bool.and_eq_true,beq_iff_eq,decide_eq_true_eq] at hcond
     obtain ⟨⟨⟨⟨h1,h2⟩,h3⟩,h4⟩,h5⟩:=hcond
     exact ztG hop ht hi h1 h2 h3 h4 h5 h
    ·exact h.elim
   ·exact h.elim
  ·exact h.elim
 | fieldAddr s x f =>
  refine easy ?_
  simp only [aP] at h
  split at h
  ·rename_i fs hs
   split at h
   ·rename_i fl hf
    split at h
    ·rename_i i hi
     split at h
     ·exact h.elim
     ·rename_i hz
      obtain ⟨r,hk,hr⟩:=zrp hs hf hi (by simpa using hz) h
      refine ⟨r,hk,fun H=>zO fun a w G hi hx=>?_⟩
      obtain ⟨v,h1,h2⟩:=hr G _ (hx x (mem x (by simp [Op.operands])))
      refine ⟨v, ?_,h2⟩
      unfold execOp; rw [hop]
      simp only [Sem.run_bind,Result.andThen,h1]; rfl
    ·exact h.elim
   ·exact h.elim
  ·exact h.elim
 | field s x f =>
  refine easy ?_
  simp only [aP] at h
  split at h
  ·rename_i fs hs
   split at h
   ·rename_i fl hf
    split at h
    ·rename_i i d hi hd
     split at h
     ·rename_i hz
      obtain ⟨r,hk,hr⟩:=zBk hs hf hi hd (by simpa using hz) h
      refine ⟨r,hk,fun H=>zO fun a w G hi hx=>?_⟩
      obtain ⟨v,h1,h2⟩:=hr w G _ (hx x (mem x (by simp [Op.operands])))
      refine ⟨v, ?_,h2⟩
      unfold execOp; rw [hop]
      simp only [Sem.run_bind,Result.andThen,h1]; rfl
     ·exact h.elim
    ·exact h.elim
   ·exact h.elim
  ·exact h.elim
 | indexAddr t x ix =>
  refine easy ?_
  simp only [aP] at h
  split at h
  ·rename_i e ht
   split at h
   ·rename_i j hj
    obtain ⟨r,hk,hr⟩:=zrq ht hj h
    refine ⟨r,hk,fun H=>zO fun a w G hi hx=>?_⟩
    obtain ⟨v,h1,h2⟩:=hr G _ _ (hx x (mem x (by simp [Op.operands]))) (hx ix (mem ix (by simp [Op.operands])))
    refine ⟨v, ?_,h2⟩
    unfold execOp; rw [hop]
    simp only [Sem.run_bind,Result.andThen,h1]; rfl
   ·exact h.elim
  ·exact h.elim
 | index t x ix =>
  refine easy ?_
  simp only [aP] at h
  split at h
  ·rename_i ht
   obtain ⟨r,hk,hr⟩:=zBu ht h
   refine ⟨r,hk,fun H=>zO fun a w G hi hx=>?_⟩
   obtain ⟨v,h1,h2⟩:=hr w G _ _ (hx x (mem x (by simp [Op.operands]))) (hx ix (mem ix (by simp [Op.operands])))
   refine ⟨v, ?_,h2⟩
   unfold execOp; rw [hop]
   simp only [Sem.run_bind,Result.andThen,h1]; rfl
  ·exact h.elim
 | slice t x lo hi mx =>
  refine easy ?_
  have rest:(∃ r,K r ∧ ∀ (w:World) (G:Gh) (vx:Value) (vlo vhi vmx:Option Value),RepA G (ρ x) vx→RepO G (lo.map ρ) vlo→RepO G (hi.map ρ) vhi→RepO G (mx.map ρ) vmx →
   ∃ v,(Instr.sliceAt t vx vlo vhi vmx).run P w=.ok v w∧RepA G r v)→∃ r,K r ∧ ∀ H,Does P o ρ r H H:=by
   rintro ⟨r,hk,hr⟩
   refine ⟨r,hk,fun H=>zO fun a w G hi' hx=>?_⟩
   obtain ⟨v,h1,h2⟩:=hr w G _ _ _ _ (hx x (mem x (by simp [Op.operands]))) (zAa (a:=a) (fun y e=>hx y (mem y (by simp [Op.operands,e])))) (zAa (a:=a) (fun y e=>hx y (mem y (by simp [Op.operands,e])))) (zAa (a:=a) (fun y e=>hx y (mem y (by simp [Op.operands,e]))))
   refine ⟨v, ?_,h2⟩
   unfold execOp; rw [hop]
   simp only [Sem.run_bind,Result.andThen,h1]; rfl
  simp only [aP] at h
  split at h
  ·rename_i ht
   exact rest (zxK ht h)
  ·rename_i e ht
   split at h
   ·rename_i i hi'
    exact rest (zyI ht hi' h)
   ·exact h.elim
  ·exact h.elim
 | extract x i =>
  obtain ⟨r,hk,hr⟩:=zro (P:=P) h
  refine easy ⟨r,hk,fun H=>zO fun a w G hi hx=>?_⟩
  obtain ⟨v,h1,h2⟩:=hr G _ (hx x (mem x (by simp [Op.operands])))
  refine ⟨v, ?_,h2⟩
  unfold execOp; rw [hop]
  simp only [Sem.run_bind,Result.andThen,h1]; rfl
 | call c =>
  obtain ⟨callee,args,argTypes⟩:=c
  cases callee with
  | value f =>
   cases draw with
   | true=>exact easy (zAW hop h)
   | false=>rw [hop] at hc; simp [cls] at hc
  | invoke r m=>simp [aP] at h
  | builtin b =>
   cases b <;> try (simp [aP] at h; done)
   simp only [aP] at h
   split at h
   ·rename_i x t hx0 ht0
    have ea:args = #[x]:=by apply Array.ext'; simpa using hx0
    have et:argTypes = #[t]:=by apply Array.ext'; simpa using ht0
    subst ea et
    have rest:(∃ r,(draw=true→K r) ∧ ∀ (G:Gh) (vx:Value),RepA G (ρ x) vx→K r ∧ ∃ v,(∀ w:World,(Builtin.len_ #[t] o.type #[vx]).run P w=.ok v w)∧RepA G r v) →
     ∃ r,(draw=true→K r)∧(∀ (a:Act) (w:World) (G:Gh) (H:List Ob),Inv w G H→(∀ x∈o.op.operands,RepA G (ρ x) (a.eval x))→K r) ∧ ∀ H,Does P o ρ r H H:=by
     rintro ⟨r,h1,h2⟩
     refine ⟨r,h1,fun a w G H _ hx=>(h2 G _ (hx x (mem x (by simp [Op.operands,Call.operands])))).1,fun H=>zO fun a w G hi hx=>?_⟩
     obtain ⟨_,v,h3,h4⟩:=h2 G _ (hx x (mem x (by simp [Op.operands,Call.operands])))
     refine ⟨v, ?_,h4⟩
     unfold execOp; rw [hop]
     simp only [resolve,Sem.run_bind,Sem.run_pure,Result.andThen,invoke,builtin]
     have:(#[x]:Array Operand).map a.eval = #[a.eval x]:=by simp
     rw [this,h3]
    split at h
    ·rename_i ht; exact rest (zrr ht h)
    ·rename_i e ht; exact rest (zs5 ht h)
    ·exact h.elim
   ·exact h.elim
 | _=>first | (simp [aP] at h; done) | (rw [hop] at hc; simp [cls] at hc; done)
end Go.Abs
end

section
/- Operations that look at the objects, or turn them: loads, stores, new variables, closures. -/
namespace Go.Abs
variable {P:Program}
theorem zr3 {t:TypeId} {d:TypeDesc} {i:TypeInfo} (hd:P.underlying t=some d) (hi:P.info? t=some i) (hz:aggD d=true∨i.size=1) {w:World} {b o:Nat} {f:Nat→Value}
  (hc:∀ j,j < i.size→w.cell? ⟨b,o + j,none⟩=some (f j)) :
  (Instr.loadAt t (.pointer (some ⟨b,o,none⟩))).run P w=.ok (if aggD d then .agg ((List.range i.size).map f).toArray else f 0) w:=by
 have hagg:(isAgg t).run P w=.ok (aggD d) w:=by
  simp only [isAgg,Sem.run_bind,zu hd,Result.andThen]
  cases d <;> rfl
 simp only [Instr.loadAt,Instr.sureAddr,Sem.run_bind,Sem.run_pure,Result.andThen,loadVar,hagg]
 cases hb:aggD d with
 | true =>
  simp only [if_true,Sem.run_bind,zdx hi,Result.andThen]
  rw [run_loadCells w ⟨b,o,none⟩ i.size f (fun j hj=>by rw [zbb]; exact hc j hj)]
  rfl
 | false =>
  have hs:i.size=1:=by
   rcases hz with h | h
   ·rw [hb] at h; simp at h
   ·exact h
  have:=hc 0 (by omega)
  simp only [Bool.false_eq_true,if_false,run_load]
  simp only [Nat.add_zero] at this
  rw [this]
theorem zzc {G:Gh} {cs:List AV} {f:Nat→Value} {off s:Nat} (hl:off + s≤cs.length) (h:∀ j c,cs[off + j]? = some c→RepA G c (f j)∧zQ (f j)=true) :
  RepA G (.agg ((cs.drop off).take s)) (.agg ((List.range s).map f).toArray):=by
 have look:∀ j c,((cs.drop off).take s)[j]? = some c→cs[off + j]? = some c∧(((List.range s).map f).toArray).getD j undef=f j:=by
  intro j c hj
  rw [List.getElem?_take] at hj
  split at hj
  ·rename_i hjs
   rw [List.getElem?_drop] at hj
   exact ⟨hj,by simp [Array.getD_eq_getD_getElem?,hjs]⟩
  ·simp at hj
 refine .agg _ _ (by simp; omega) (fun j c hj=>?_) (fun j c hj=>?_)
 ·obtain ⟨e1,e2⟩:=look j c hj; rw [e2]; exact (h j c e1).1
 ·obtain ⟨e1,e2⟩:=look j c hj; rw [e2]; exact (h j c e1).2
theorem zir {rd:Rd} {cs:List T} {f:Nat→Value} {off s:Nat} (hl:off + s≤cs.length) (h:∀ j c,cs[off + j]? = some c→RepT rd c (f j)∧zQ (f j)=true) :
  RepT rd (.agg ((cs.drop off).take s)) (.agg ((List.range s).map f).toArray):=by
 have look:∀ j c,((cs.drop off).take s)[j]? = some c→cs[off + j]? = some c∧(((List.range s).map f).toArray).getD j undef=f j:=by
  intro j c hj
  rw [List.getElem?_take] at hj
  split at hj
  ·rename_i hjs
   rw [List.getElem?_drop] at hj
   exact ⟨hj,by simp [Array.getD_eq_getD_getElem?,hjs]⟩
  ·simp at hj
 refine .agg _ _ (by simp; omega) (fun j c hj=>?_) (fun j c hj=>?_)
 ·obtain ⟨e1,e2⟩:=look j c hj; rw [e2]; exact (h j c e1).1
 ·obtain ⟨e1,e2⟩:=look j c hj; rw [e2]; exact (h j c e1).2
theorem zcR {α:Type} [Inhabited α] {l:List α} {i:Nat} (h:i < l.length) (d:α):l[i]? = some (l.getD i d):=by
 rw [List.getD_eq_getElem?_getD,List.getElem?_eq_getElem h]; rfl
theorem zAe {ρ:Operand→AV} {o:Oper} {H:List Ob} {K:AV→Prop} (h:aL P ρ o.op H K) :
  ∃ r,K r ∧ ∀ H':List Ob,(∀ x∈o.op.operands,∀ id,sees (ρ x) id→id < H.length→H'[id]? = H[id]?)→Does P o ρ r H' H':=by
 obtain ⟨op,hop⟩:∃ op,o.op=op:=⟨_,rfl⟩
 rw [hop] at h
 unfold aL at h
 split at h
 ·rename_i t x
  split at h
  ·rename_i d i hd hi
   split at h
   ·rename_i hz
    have hz:aggD d=true∨i.size=1:=by simpa using hz
    have memx:x∈o.op.operands:=by rw [hop]; simp [Op.operands]
    have fin:∀ {r:AV} {H':List Ob},(∀ (w:World) (G:Gh) (v:Value),Inv w G H'→RepA G (ρ x) v→∃ b o f,v=.pointer (some ⟨b,o,none⟩)∧(∀ j,j < i.size→w.cell? ⟨b,o + j,none⟩=some (f j)) ∧
      RepA G r (if aggD d then .agg ((List.range i.size).map f).toArray else f 0))→Does P o ρ r H' H':=by
     intro r H' hh
     refine zO fun a w G hi' hx=>?_
     obtain ⟨b,of,f,ev,hc,hr⟩:=hh w G _ hi' (hx x memx)
     refine ⟨_, ?_,hr⟩
     unfold execOp; rw [hop]
     simp only [ev,Sem.run_bind,zr3 hd hi hz hc,Result.andThen]; rfl
    unfold aLoad at h
    split at h
    ·rename_i id off hx0
     split at h
     ·rename_i cells hob
      obtain ⟨h1,h2⟩:=h
      refine ⟨_,h2,fun H' hag=>fin fun w G v hinv rx=>?_⟩
      have hob':H'[id]? = some (.box cells):=(hag x memx id (.inl ⟨off,hx0⟩) (List.getElem?_eq_some_iff.1 hob).1).trans hob
      rw [hx0] at rx
      cases rx with
      | bptr _ _ b hl =>
       obtain ⟨ob,ho,hh⟩:=hinv.obj id _ hl
       rw [hob'] at ho; simp at ho; subst ho
       obtain ⟨cs,ty,e1,e2,e3,e4⟩:=hh
       refine ⟨b,off,fun j=>cs.getD (off + j) undef,rfl,fun j hj=>?_, ?_⟩
       ·have hlt:off + j < cs.size:=by omega
        unfold World.cell?
        simp [e1,Array.getElem?_eq_getElem hlt,Array.getD_eq_getD_getElem?]
       ·cases hb:aggD d with
        | true=>exact zzc h1 (fun j c hj=>e3 _ c hj)
        | false =>
         have hs:i.size=1:=by
          rcases hz with h | h
          ·rw [hb] at h; simp at h
          ·exact h
         simpa using (e3 off (cells.getD off .top) (zcR (by omega) _)).1
     ·rename_i cs hob
      obtain ⟨h1,h2⟩:=h
      refine ⟨_,h2,fun H' hag=>fin fun w G v hinv rx=>?_⟩
      have hob':H'[id]? = some (.fz cs):=(hag x memx id (.inl ⟨off,hx0⟩) (List.getElem?_eq_some_iff.1 hob).1).trans hob
      rw [hx0] at rx
      cases rx with
      | bptr _ _ b hl =>
       obtain ⟨ob,ho,hh⟩:=hinv.obj id _ hl
       rw [hob'] at ho; simp at ho; subst ho
       obtain ⟨e1,e2⟩:=hh
       refine ⟨b,off,fun j=>(G.rd b (off + j)).getD undef,rfl,fun j hj=>?_,.p _ _ ?_⟩
       ·obtain ⟨v,g1,g2,g3⟩:=e2 (off + j) _ (zcR (by omega) default)
        rw [hinv.rd _ _ _ g1]
        show some v=some ((G.rd b (off + j)).getD undef)
        rw [g1]; rfl
       ·cases hb:aggD d with
        | true =>
         refine zir h1 (fun j c hj=>?_)
         obtain ⟨v,g1,g2,g3⟩:=e2 _ c hj
         show RepT G.rd c ((G.rd b (off + j)).getD undef)∧zQ ((G.rd b (off + j)).getD undef)=true
         rw [g1]; exact ⟨g2,g3⟩
        | false =>
         have hs:i.size=1:=by
          rcases hz with h | h
          ·rw [hb] at h; simp at h
          ·exact h
         obtain ⟨v,g1,g2,g3⟩:=e2 off (cs.getD off default) (zcR (by omega) _)
         simp only [Bool.false_eq_true,if_false,Nat.add_zero,g1,Option.getD_some]
         exact g2
     ·exact h.elim
    ·rename_i cs off hx0
     obtain ⟨h1,h2⟩:=h
     refine ⟨_,h2,fun H' hag=>fin fun w G v hinv rx=>?_⟩
     rw [hx0] at rx
     have rx:=zbp.1 rx
     cases rx with
     | imm _ _ b o' val hr hv hk =>
      refine ⟨b,o' + off,fun j=>val (off + j),rfl,fun j hj=>?_,.p _ _ ?_⟩
      ·rw [Nat.add_assoc]
       exact hinv.rd _ _ _ (hr (off + j) _ (zcR (by omega) default))
      ·cases hb:aggD d with
       | true=>exact zir h1 (fun j c hj=>⟨hv _ c hj,hk _ c hj⟩)
       | false =>
        have hs:i.size=1:=by
         rcases hz with h | h
         ·rw [hb] at h; simp at h
         ·exact h
        exact hv off (cs.getD off default) (zcR (by omega) _)
    ·rename_i id ver s' i' off hx0
     have row:∀ {w:World} {G:Gh} {v:Value} {es:List T} {v2 s2:Nat},RepA G (ρ x) v→(v2=ver∧s2=s'∧i' < es.length∧off + i.size≤s') →
       (∀ a cap,G.loc id=some (.mrow a cap v2 s2)→(v2=v2∧s2=s2∧es.length≤cap ∧ ∀ e∈es,e.cells.length=s2)∧(0 < cap→∃ b o,a=some ⟨b,o,none⟩ ∧ ∃ f:Nat→Value,∀ j e c,es[i']? = some e→e.cells[j]? = some c→w.cell? ⟨b,o + i' * s2 + j,none⟩=some (f j)∧RepT G.rd c (f j)∧zQ (f j)=true)) →
       (∀ l,G.loc id=some l→∃ a cap,l=.mrow a cap v2 s2) →
       ∃ b o f,v=.pointer (some ⟨b,o,none⟩)∧(∀ j,j < i.size→w.cell? ⟨b,o + j,none⟩=some (f j)) ∧
        RepA G (.p (if aggD d then .agg (((es.getD i' default).cells.drop off).take i.size) else (es.getD i' default).cells.getD off default)) (if aggD d then .agg ((List.range i.size).map f).toArray else f 0):=by
      intro w G v es v2 s2 rx hc hrow hloc
      obtain ⟨rfl,rfl,h3,h4⟩:=hc
      rw [hx0] at rx
      cases rx with
      | mptr _ _ _ _ _ b o a a' cap cap' ver' hl hn he hi2 ha =>
       obtain ⟨a2,cap2,e2⟩:=hloc _ hl
       injection e2 with e3 e4 e5 e6
       subst e3 e4 e5
       obtain ⟨rfl,rfl⟩:=he rfl
       obtain ⟨⟨_,_,h5,h6⟩,h7⟩:=hrow _ _ hl
       obtain ⟨b',o',e7,f,h8⟩:=h7 (by omega)
       rw [ha] at e7
       simp at e7
       obtain ⟨rfl,rfl⟩:=e7
       have hei:=zcR h3 default
       have hcl:=h6 _ (List.mem_of_getElem? hei)
       refine ⟨b,o + i' * s2 + off,fun j=>f (off + j),rfl,fun j hj=>?_,.p _ _ ?_⟩
       ·rw [Nat.add_assoc]
        exact (h8 (off + j) _ _ hei (zcR (by omega) default)).1
       ·cases hb:aggD d with
        | true=>exact zir (by omega) (fun j c hj=>(h8 _ _ c hei hj).2)
        | false =>
         have hs:i.size=1:=by
          rcases hz with h | h
          ·rw [hb] at h; simp at h
          ·exact h
         exact (h8 off _ _ hei (zcR (by omega) default)).2.1
     split at h
     ·rename_i v2 s2 es hob
      obtain ⟨h1,h2⟩:=h
      refine ⟨_,h2,fun H' hag=>fin fun w G v hinv rx=>?_⟩
      have hob':H'[id]? = some (.mrow v2 s2 es):=(hag x memx id (.inr ⟨ver,s',i',off,hx0⟩) (List.getElem?_eq_some_iff.1 hob).1).trans hob
      have hl2:∀ l,G.loc id=some l→(∃ a cap,l=.mrow a cap v2 s2)∧Holds w G l (.mrow v2 s2 es):=by
       intro l hl
       obtain ⟨ob,ho,hh⟩:=hinv.obj id _ hl
       rw [hob'] at ho; simp at ho; subst ho
       cases l with
       | mrow a cap v3 s3=>have hh1:=hh.1; obtain ⟨rfl,rfl,_,_⟩:=hh1; exact ⟨⟨a,cap,rfl⟩,hh⟩
       | box b=>exact hh.elim
       | row a cap n s=>exact hh.elim
      refine row rx h1 (fun a cap hl=>?_) (fun l hl=>(hl2 l hl).1)
      obtain ⟨_,hh⟩:=hl2 _ hl
      refine ⟨hh.1,fun hc=>?_⟩
      obtain ⟨b,o,e1,⟨cs,ty,e2,e3,e4⟩,_⟩:=hh.2 hc
      refine ⟨b,o,e1,fun j=>cs.getD (o + i' * s2 + j) undef,fun j e c he hcj=>⟨?_,e4 i' j e c he hcj⟩⟩
      have hj:j < s2:=by
       have:=(List.getElem?_eq_some_iff.1 hcj).1
       rwa [hh.1.2.2.2 e (List.mem_of_getElem? he)] at this
      have hi3:i' < cap:=by have:=(List.getElem?_eq_some_iff.1 he).1; have:=hh.1.2.2.1; omega
      have hmul:(i' + 1) * s2≤cap * s2:=Nat.mul_le_mul_right _ hi3
      rw [Nat.add_mul] at hmul
      have hlt:o + i' * s2 + j < cs.size:=by omega
      unfold World.cell?
      simp [e2,Array.getElem?_eq_getElem hlt,Array.getD_eq_getD_getElem?]
     ·rename_i v2 s2 es hob
      obtain ⟨h1,h2⟩:=h
      refine ⟨_,h2,fun H' hag=>fin fun w G v hinv rx=>?_⟩
      have hob':H'[id]? = some (.frow v2 s2 es):=(hag x memx id (.inr ⟨ver,s',i',off,hx0⟩) (List.getElem?_eq_some_iff.1 hob).1).trans hob
      have hl2:∀ l,G.loc id=some l→(∃ a cap,l=.mrow a cap v2 s2)∧Holds w G l (.frow v2 s2 es):=by
       intro l hl
       obtain ⟨ob,ho,hh⟩:=hinv.obj id _ hl
       rw [hob'] at ho; simp at ho; subst ho
       cases l with
       | mrow a cap v3 s3=>have hh1:=hh.1; obtain ⟨rfl,rfl,_,_⟩:=hh1; exact ⟨⟨a,cap,rfl⟩,hh⟩
       | box b=>exact hh.elim
       | row a cap n s=>exact hh.elim
      refine row rx h1 (fun a cap hl=>?_) (fun l hl=>(hl2 l hl).1)
      obtain ⟨_,hh⟩:=hl2 _ hl
      refine ⟨hh.1,fun hc=>?_⟩
      obtain ⟨b,o,e1,_,e4⟩:=hh.2 hc
      refine ⟨b,o,e1,fun j=>(G.rd b (o + i' * s2 + j)).getD undef,fun j e c he hcj=>?_⟩
      obtain ⟨u,g1,g2,g3⟩:=e4 i' j e c he hcj
      have e5:(G.rd b (o + i' * s2 + j)).getD undef=u:=by rw [g1]; rfl
      simp only [e5]
      exact ⟨hinv.rd _ _ _ g1,g2,g3⟩
     ·exact h.elim
    ·exact h.elim
   ·exact h.elim
  ·exact h.elim
 ·exact h.elim
theorem ztu {w:World} {b o:Nat} {v:Value} {cs:Array Value} {ty:TypeId} {fr:Nat×Nat} (hb:w.heap[b]? = some (.cells cs ty fr)) :
  w.setCell ⟨b,o,none⟩ v={ w with heap:=w.heap.setIfInBounds b (.cells (cs.setIfInBounds o v) ty fr) }:=by
 unfold World.setCell
 congr 1
 apply Array.ext_getElem?
 intro i
 rw [Array.getElem?_modify,Array.getElem?_setIfInBounds]
 have hlt:b < w.heap.size:=(Array.getElem?_eq_some_iff.1 hb).1
 by_cases h:b=i
 ·subst h; rw [hb]; simp [hlt]
 ·simp [h]
theorem zfl {b o:Nat} {ty:TypeId}:∀ (vs:List Value) (w:World) (cs:Array Value) (i:Nat),w.heap[b]? = some (.cells cs ty (0,0))→o + i + vs.length≤cs.size→(∀ v∈vs,zQ v=true) →
  (storeCells ⟨b,o,none⟩ vs i).run P w=.ok () { w with heap:=w.heap.setIfInBounds b (.cells (setR cs (o + i) vs) ty (0,0)) }
 | [],w,cs,i,hb,_,_=>by
  simp only [storeCells,Sem.run_pure,setR]
  congr 1
  have hlt:b < w.heap.size:=(Array.getElem?_eq_some_iff.1 hb).1
  have hv:w.heap[b]=.cells cs ty (0,0):=(Array.getElem?_eq_some_iff.1 hb).2
  have:w.heap.setIfInBounds b (.cells cs ty (0,0))=w.heap:=by
   apply Array.ext_getElem?
   intro j
   rw [Array.getElem?_setIfInBounds]
   split
   ·rename_i h; subst h; simp [hlt,hv]
   ·rfl
  rw [this]
 | v::vs,w,cs,i,hb,hl,hs=>by
  simp only [List.length_cons] at hl
  have hv:v.oneCell'=true:=by
   have:=hs v (by simp)
   cases v <;> first | rfl | simp [zQ] at this
  have hcell:w.cell? ⟨b,o + i,none⟩=some cs[o + i]:=by
   unfold World.cell?
   simp [hb,Array.getElem?_eq_getElem (show o + i < cs.size by omega)]
  have hfr:w.frozen? ⟨b,o + i,none⟩=false:=by
   unfold World.frozen?
   simp only [hb]
   simp
  have hlt:b < w.heap.size:=(Array.getElem?_eq_some_iff.1 hb).1
  simp only [storeCells,Sem.run_bind,zbb,run_store P w _ v _ hv,hcell,hfr,Bool.false_eq_true,if_false,Result.andThen]
  rw [ztu hb]
  rw [zfl (ty:=ty) vs _ (cs.setIfInBounds (o + i) v) (i + 1) (by simp [hlt]) (by simp; omega) (fun u hu=>hs u (by simp [hu]))]
  simp only [setR,Nat.add_assoc]
  congr 2
  apply Array.ext_getElem?
  intro j
  simp only [Array.getElem?_setIfInBounds,Array.size_setIfInBounds]
  by_cases h:b=j
  ·rw [if_pos h,if_pos h]
  ·rw [if_neg h,if_neg h,if_neg h]
theorem zDu {e:T} {off s:Nat} {ts:List T} (he:e.cells.length=s) (ho:off + ts.length≤s) (h0:0 < ts.length) (hna:∀ t∈ts,∀ cs,t≠.agg cs):(e.putT off ts).cells=put e.cells off ts:=by
 unfold T.putT
 split
 ·rfl
 ·rename_i hne
  have hc:e.cells=[e]:=by
   unfold T.cells
   split
   ·rename_i cs; exact absurd rfl (hne cs)
   ·rfl
  rw [hc] at he ⊢
  simp at he
  match ts,h0,ho with
  | [t],_,ho =>
   have h00:off=0:=by simp at ho; omega
   subst h00
   cases t with
   | agg cs=>exact absurd rfl (hna _ (by simp) cs)
   | _=>rfl
  | a::b::r,_,ho=>simp at ho; omega
theorem zsy {w w':World} {G:Gh} {H:List Ob} (hi:Inv w G H) {id b o cap v v' s:Nat} {es es':List T} {cs cs':Array Value} {ty:TypeId} (hl:G.loc id=some (.mrow (some ⟨b,o,none⟩) cap v s)) (ho:H[id]? = some (.mrow v s es))
  (hcap:0 < cap) (hv:v≤v') (hb:w.heap[b]? = some (.cells cs ty (0,0))) (hh:w'.heap=w.heap.setIfInBounds b (.cells cs' ty (0,0))) (hs:Same w w') (hsz:o + cap * s≤cs'.size) (hlen:es'.length≤cap)
  (hes:∀ e∈es',e.cells.length=s) (hr:∀ i j e c,es'[i]? = some e→e.cells[j]? = some c→RepT G.rd c (cs'.getD (o + i * s + j) undef)∧zQ (cs'.getD (o + i * s + j) undef)=true) (hrd:∀ o',G.rd b o'=none) :
  Inv w' (G.withLoc id (.mrow (some ⟨b,o,none⟩) cap v' s)) (H.set id (.mrow v' s es'))∧Step w G w' (G.withLoc id (.mrow (some ⟨b,o,none⟩) cap v' s)):=by
 have hlt:b < w.heap.size:=(Array.getElem?_eq_some_iff.1 hb).1
 have hidl:id < H.length:=hi.loc_lt hl
 have hblk:G.blk id=some b:=by simp [Gh.blk,hl,Loc.blk,hcap]
 have hother:∀ k,k≠b→w'.heap[k]? = w.heap[k]?:=fun k hk=>by rw [hh,Array.getElem?_setIfInBounds,if_neg (fun e=>hk e.symm)]
 have hg:Grow G (G.withLoc id (.mrow (some ⟨b,o,none⟩) cap v' s)):=by
  refine ⟨fun _ _ _ e=>e,fun j l e=>?_⟩
  simp only [Gh.withLoc]
  by_cases hj:j=id
  ·subst hj
   rw [hl] at e; simp at e; subst e
   rw [if_pos rfl]
   exact ⟨_,rfl,.mrow _ _ _ _ _ _ _ hv (fun _=>⟨rfl,rfl⟩)⟩
  ·rw [if_neg hj]
   exact ⟨l,e,.refl l⟩
 have hcase:∀ j k,(G.withLoc id (.mrow (some ⟨b,o,none⟩) cap v' s)).blk j=some k→G.blk j=some k:=by
  intro j k e
  simp only [Gh.blk,Gh.withLoc] at e
  split at e
  ·rename_i hj; subst hj; simp [Loc.blk,hcap] at e; subst e; exact hblk
  ·exact e
 refine ⟨⟨fun b' o' c e=>?_,fun j l e=>?_,fun i j k e1 e2=>hi.dis i j k (hcase _ _ e1) (hcase _ _ e2),hi.tab.keep (fun _ _ _ e=>e) (fun g ⟨o,c,e⟩ _=>hother g (fun h=>by subst h; rw [hrd] at e; simp at e))⟩,fun n=>⟨hs.os,hs.tape,hs.output,hs.drawn,by rw [hh]; simp,fun k hk hn=>hother k (fun e=>hn id (e ▸ hblk)),fun _ _ _ h=>h,fun _ _ _ h=>.inl h,fun j _ l h=>hg.loc j l h,fun j k h=>.inr ⟨j,hcase _ _ h⟩⟩⟩
 ·replace e:G.rd b' o'=some c:=e
  have hne:b'≠b:=by intro h; subst h; rw [hrd] at e; simp at e
  have:=hi.rd b' o' c e
  unfold World.cell? at this ⊢
  simpa [hother b' hne] using this
 ·by_cases hj:j=id
  ·subst hj
   simp [Gh.withLoc] at e; subst e
   refine ⟨.mrow v' s es',by simp [hidl],⟨rfl,rfl,hlen,hes⟩,fun _=>⟨b,o,rfl,⟨cs',ty, ?_,hsz,hr⟩,hrd⟩⟩
   rw [hh]; simp [hlt]
  ·simp [Gh.withLoc,hj] at e
   obtain ⟨ob,ho2,hh2⟩:=hi.obj j l e
   refine ⟨ob,by rw [List.getElem?_set_ne (fun h=>hj h.symm)]; exact ho2,hh2.keep hg (by rw [hh]; simp) (fun k hk=>⟨hother k (fun h=>?_),fun _ h=>h⟩)⟩
   subst h
   exact hj (hi.dis j id k (by simp [Gh.blk,e,hk]) hblk)
theorem zE8 {w w':World} {G:Gh} {H:List Ob} (hi:Inv w G H) {id b:Nat} {cells cells':List AV} {cs':Array Value} {ty:TypeId} (hl:G.loc id=some (.box b)) (ho:H[id]? = some (.box cells))
  (hh:w'.heap=w.heap.setIfInBounds b (.cells cs' ty (0,0))) (hs:Same w w') (hr:RepCs G cells' cs'):Inv w' G (H.set id (.box cells'))∧Step w G w' G:=by
 obtain ⟨ob,ho',hh'⟩:=hi.obj id _ hl
 rw [ho] at ho'; simp at ho'; subst ho'
 obtain ⟨cs,ty',e1,e2,e3,e4⟩:=hh'
 have hb:b < w.heap.size:=(Array.getElem?_eq_some_iff.1 e1).1
 have hidl:id < H.length:=hi.loc_lt hl
 have hblk:G.blk id=some b:=by simp [Gh.blk,hl,Loc.blk]
 have hother:∀ k,k≠b→w'.heap[k]? = w.heap[k]?:=fun k hk=>by rw [hh,Array.getElem?_setIfInBounds,if_neg (fun e=>hk e.symm)]
 refine ⟨⟨fun b' o c e=>?_,fun j l e=>?_,hi.dis,hi.tab.keep (fun _ _ _ e=>e) (fun g ⟨o,c,e⟩ _=>hother g (fun h=>by subst h; rw [e4] at e; simp at e))⟩,fun n=>⟨hs.os,hs.tape,hs.output,hs.drawn,by rw [hh]; simp,fun k hk hn=>hother k (fun e=>hn id (e ▸ hblk)),fun _ _ _ h=>h,fun _ _ _ h=>.inl h,fun _ _ l h=>⟨l,h,.refl l⟩,fun id _ h=>.inr ⟨id,h⟩⟩⟩
 ·have hne:b'≠b:=by intro h; subst h; rw [e4] at e; simp at e
  have:=hi.rd b' o c e
  unfold World.cell? at this ⊢
  simpa [hother b' hne] using this
 ·by_cases hj:j=id
  ·subst hj
   rw [hl] at e; simp at e; subst e
   refine ⟨.box cells',by simp [hidl],cs',ty, ?_,hr.1,hr.2,e4⟩
   rw [hh]; simp [hb]
  ·obtain ⟨ob,ho2,hh2⟩:=hi.obj j l e
   refine ⟨ob,by rw [List.getElem?_set_ne (fun h=>hj h.symm)]; exact ho2,hh2.keep (Grow.refl G) (by rw [hh]; simp) (fun k hk=>⟨hother k (fun h=>?_),fun _ h=>h⟩)⟩
   subst h
   exact hj (hi.dis j id k (by simp [Gh.blk,e,hk]) hblk)
theorem zC3 {w:World} {G:Gh} {H:List Ob} (hi:Inv w G H) {id b:Nat} {cells:List AV} {ts:List T} (hl:G.loc id=some (.box b)) (ho:H[id]? = some (.box cells)) (ht:allT cells=some ts) :
  ∃ G',Inv w G' (H.set id (.fz ts))∧Step w G w G'∧G'.loc=G.loc ∧ ∀ off,RepT G'.rd (.imm ts off) (.pointer (some ⟨b,off,none⟩)):=by
 obtain ⟨ob,ho',hh⟩:=hi.obj id _ hl
 rw [ho] at ho'; simp at ho'; subst ho'
 obtain ⟨cs,ty,e1,e2,e3,e4⟩:=hh
 have hidl:=hi.loc_lt hl
 have hb:b < w.heap.size:=(Array.getElem?_eq_some_iff.1 e1).1
 have hblk:G.blk id=some b:=by simp [Gh.blk,hl,Loc.blk]
 obtain ⟨htl,hts⟩:=zmh ht
 have hrd:∀ b' o c,G.rd b' o=some c→(G.withRd b (fun o=>cs[o]?)).rd b' o=some c:=by
  intro b' o c e
  simp only [Gh.withRd]
  rw [if_neg (fun h=>by subst h; rw [e4] at e; simp at e)]
  exact e
 have hg:Grow G (G.withRd b (fun o=>cs[o]?)):=⟨hrd,fun _ l e=>⟨l,e,.refl l⟩⟩
 have cell:∀ j t,ts[j]? = some t→∃ v,(G.withRd b (fun o=>cs[o]?)).rd b j=some v∧RepT (G.withRd b (fun o=>cs[o]?)).rd t v∧zQ v=true:=by
  intro j t hj
  obtain ⟨c,hc,hct⟩:=hts j t hj
  have hlt:j < cs.size:=by have:=(List.getElem?_eq_some_iff.1 hc).1; omega
  obtain ⟨r1,r2⟩:=e3 j c hc
  have ev:cs.getD j undef=cs[j]:=by simp [Array.getD_eq_getD_getElem?,Array.getElem?_eq_getElem hlt]
  rw [ev] at r1 r2
  exact ⟨cs[j],by simp [Gh.withRd,Array.getElem?_eq_getElem hlt],(r1.cellT hct).mono hrd,r2⟩
 refine ⟨G.withRd b (fun o=>cs[o]?),⟨fun b' o c e=>?_,fun j l e=>?_,hi.dis,hi.tab.keep hrd (fun _ _ _=>rfl)⟩,fun n=>⟨rfl,rfl,rfl,Nat.le_refl _,Nat.le_refl _,fun _ _ _=>rfl,hrd,fun b' o c e=>?_,fun _ _ l e=>⟨l,e,.refl l⟩,fun id _ e=>.inr ⟨id,e⟩⟩,rfl,fun off=>?_⟩
 ·simp only [Gh.withRd] at e
  split at e
  ·rename_i h
   subst h
   unfold World.cell?
   simp [e1,e]
  ·exact hi.rd b' o c e
 ·by_cases hj:j=id
  ·subst hj
   rw [show (G.withRd b (fun o=>cs[o]?)).loc j=some (.box b) from hl] at e
   simp at e
   subst e
   exact ⟨.fz ts,by simp [hidl],hb,cell⟩
  ·obtain ⟨ob,ho2,hh2⟩:=hi.obj j l e
   refine ⟨ob,by rw [List.getElem?_set_ne (fun h=>hj h.symm)]; exact ho2,hh2.keep hg (Nat.le_refl _) (fun k hk=>⟨rfl,fun o h=>?_⟩)⟩
   simp only [Gh.withRd]
   rw [if_neg (fun h=>?_)]
   ·exact h
   ·subst h
    refine hj (hi.dis j id k ?_ hblk)
    show (G.loc j).bind Loc.blk=some k
    rw [show G.loc j=some l from e]
    exact hk
 ·simp only [Gh.withRd] at e
  split at e
  ·rename_i h; exact .inr (.inr ⟨id,by rw [h]; exact hblk⟩)
  ·exact .inl e
 ·have:=RepT.imm (rd:=(G.withRd b (fun o=>cs[o]?)).rd) ts off b 0 (fun j=>((G.withRd b (fun o=>cs[o]?)).rd b j).getD undef) (fun j c hj=>by
    obtain ⟨v,h1,_,_⟩:=cell j c hj
    rw [Nat.zero_add,h1]; rfl) (fun j c hj=>by
    obtain ⟨v,h1,h2,_⟩:=cell j c hj
    rw [h1]; exact h2) (fun j c hj=>by
    obtain ⟨v,h1,_,h3⟩:=cell j c hj
    rw [h1]; exact h3)
  simpa using this
theorem znc:∀ (caps:List AV) (H:List Ob) (K:List T→List Ob→Prop),zbn caps H K →
  ∃ cs H',K cs H'∧cs.length=caps.length ∧ ∀ (w:World) (G:Gh) (vs:List Value),Inv w G H→vs.length=caps.length→(∀ (j:Nat) (c:AV) (v:Value),caps[j]? = some c→vs[j]? = some v→RepA G c v) →
   ∃ G',Inv w G' H'∧Step w G w G'∧G'.loc=G.loc ∧ ∀ (j:Nat) (c:T) (v:Value),cs[j]? = some c→vs[j]? = some v→RepT G'.rd c v
 | [],H,K,h=>⟨[],H,h,rfl,fun w G vs hi _ _=>⟨G,hi,.refl w G,rfl,fun j c v hc=>by simp at hc⟩⟩
 | x::r,H,K,h=>by
  have go:∀ (ts:List T) (off:Nat) (H1:List Ob),zbn r H1 (fun cs H'=>K (.imm ts off::cs) H') →
    (∀ (w:World) (G:Gh) (v:Value),Inv w G H→RepA G x v→∃ G1,Inv w G1 H1∧Step w G w G1∧G1.loc=G.loc∧RepT G1.rd (.imm ts off) v) →
    ∃ cs H',K cs H'∧cs.length=(x::r).length ∧ ∀ (w:World) (G:Gh) (vs:List Value),Inv w G H→vs.length=(x::r).length→(∀ (j:Nat) (c:AV) (v:Value),(x::r)[j]? = some c→vs[j]? = some v→RepA G c v) →
     ∃ G',Inv w G' H'∧Step w G w G'∧G'.loc=G.loc ∧ ∀ (j:Nat) (c:T) (v:Value),cs[j]? = some c→vs[j]? = some v→RepT G'.rd c v:=by
   intro ts off H1 h1 h2
   obtain ⟨cs,H',hk,hl,hrest⟩:=znc r H1 _ h1
   refine ⟨.imm ts off::cs,H',hk,by simp [hl],fun w G vs hi hvl hv=>?_⟩
   cases vs with
   | nil=>simp at hvl
   | cons v vs =>
    obtain ⟨G1,i1,s1,l1,r1⟩:=h2 w G v hi (hv 0 x v rfl rfl)
    obtain ⟨G2,i2,s2,l2,r2⟩:=hrest w G1 vs i1 (by simpa using hvl) (fun j c u hc hu=>(hv (j + 1) c u (by simpa using hc) (by simpa using hu)).mono s1.grow)
    refine ⟨G2,i2,s1.trans s2,l2.trans l1,fun j c u hc hu=>?_⟩
    cases j with
    | zero=>simp at hc hu; subst hc hu; exact r1.mono s2.grow.rd
    | succ j=>simp at hc hu; exact r2 j c u hc hu
  unfold zbn at h
  split at h
  ·rename_i heq; simp at heq
  ·rename_i id off r' heq
   simp at heq
   obtain ⟨rfl,rfl⟩:=heq
   split at h
   ·rename_i cells hob
    split at h
    ·rename_i ts hts
     refine go ts off _ h (fun w G v hi rx=>?_)
     cases rx with
     | bptr _ _ b hl =>
      obtain ⟨G',h1,h2,h4,h3⟩:=zC3 hi hl hob hts
      exact ⟨G',h1,h2,h4,h3 off⟩
    ·exact h.elim
   ·rename_i ts hob
    refine go ts off _ h (fun w G v hi rx=>?_)
    cases rx with
    | bptr _ _ b hl =>
     obtain ⟨ob,ho,hh⟩:=hi.obj id _ hl
     rw [hob] at ho; simp at ho; subst ho
     obtain ⟨_,e2⟩:=hh
     refine ⟨G,hi,.refl w G,rfl, ?_⟩
     have:=RepT.imm (rd:=G.rd) ts off b 0 (fun j=>(G.rd b j).getD undef) (fun j c hj=>by
       obtain ⟨v,h1,_,_⟩:=e2 j c hj
       rw [Nat.zero_add,h1]; rfl) (fun j c hj=>by
       obtain ⟨v,h1,h2,_⟩:=e2 j c hj
       rw [h1]; exact h2) (fun j c hj=>by
       obtain ⟨v,h1,_,h3⟩:=e2 j c hj
       rw [h1]; exact h3)
     simpa using this
   ·exact h.elim
  ·rename_i ts off r' heq
   simp at heq
   obtain ⟨rfl,rfl⟩:=heq
   exact go ts off _ h (fun w G v hi rx=>⟨G,hi,.refl w G,rfl,zbp.1 rx⟩)
  ·exact h.elim
theorem zxO {o:Oper} {t:TypeId} {x v:Operand} (hop:o.op=.store t x v) {i:TypeInfo} (hi:P.info? t=some i) {H:List Ob} {id s2 i' off v2:Nat} {es ts:List T} {a:Act} {w:World} {G:Gh}
  (hinv:Inv w G H) (hob:H[id]? = some (.mrow v2 s2 es)) (rx:RepA G (.mptr id v2 s2 i' off) (a.eval x)) (h2:ts.length=i.size) (h3:0 < i.size) (h4:i' < es.length) (h5:off + i.size≤s2) (hsz:(a.eval v).cells.size=i.size)
  (hval:∀ j t,ts[j]? = some t→RepT G.rd t ((a.eval v).cells.getD j undef)∧zQ ((a.eval v).cells.getD j undef)=true) :
  ∃ w' G',(execOp a.eval o).run P w=.ok .skip w'∧Inv w' G' (H.set id (.mrow v2 s2 (es.set i' ((es.getD i' default).putT off ts))))∧Step w G w' G'∧Dom H G G':=by
 obtain ⟨b,o',a0,cap,hl,hcap,ea,ev⟩:∃ b o' a0 cap,G.loc id=some (.mrow a0 cap v2 s2)∧i' < cap∧a0=some ⟨b,o',none⟩∧a.eval x=.pointer (some ⟨b,o' + i' * s2 + off,none⟩):=by
  generalize a.eval x=u at rx
  cases rx with
  | mptr _ _ _ _ _ b o' a0 a' cap cap' ver' hl hn he hi2 ha =>
   obtain ⟨ob,ho,hh⟩:=hinv.obj id _ hl
   rw [hob] at ho; simp at ho; subst ho
   obtain ⟨⟨rfl,_,_,_⟩,_⟩:=hh
   obtain ⟨rfl,rfl⟩:=he rfl
   exact ⟨b,o',_,_,hl,hi2,ha,rfl⟩
 subst ea
 obtain ⟨ob,ho,hh⟩:=hinv.obj id _ hl
 rw [hob] at ho; simp at ho; subst ho
 obtain ⟨⟨_,_,hlen,hes⟩,hh⟩:=hh
 obtain ⟨b2,o2,e0,⟨cs,ty,e1,e2,e3⟩,e4⟩:=hh (by omega)
 simp at e0
 obtain ⟨rfl,rfl⟩:=e0
 have hsc:∀ u∈(a.eval v).cells.toList,zQ u=true:=by
  intro u hu
  obtain ⟨k,hk⟩:=List.getElem?_of_mem hu
  rw [Array.getElem?_toList] at hk
  have hlt:k < ts.length:=by
   have:=(Array.getElem?_eq_some_iff.1 hk).1
   omega
  have:=(hval k _ (zcR hlt default)).2
  rwa [Array.getD_eq_getD_getElem?,hk] at this
 have hna:∀ t∈ts,∀ cs,t≠.agg cs:=by
  intro t ht cs he
  obtain ⟨j,hj⟩:=List.getElem?_of_mem ht
  obtain ⟨r1,r2⟩:=hval j t hj
  subst he
  generalize (a.eval v).cells.getD j undef=u at r1 r2
  cases r1 with
  | agg cs vs=>simp [zQ] at r2
 have hmul:(i' + 1) * s2≤cap * s2:=Nat.mul_le_mul_right _ hcap
 rw [Nat.add_mul] at hmul
 have hvl:(a.eval v).cells.toList.length=i.size:=by simpa using hsz
 have hrun:=zfl (P:=P) (b:=b) (o:=o' + i' * s2 + off) (ty:=ty) (a.eval v).cells.toList w cs 0 e1 (by omega) hsc
 have hexec:(execOp a.eval o).run P w=.ok .skip { w with heap:=w.heap.setIfInBounds b (.cells (setR cs (o' + i' * s2 + off + 0) (a.eval v).cells.toList) ty (0,0)) }:=by
  unfold execOp; rw [hop]
  simp only [ev,Instr.storeAt,Instr.sureAddr,storeVar,Sem.run_bind,Sem.run_pure,Result.andThen,zdx hi,hsz,ne_eq,not_true_eq_false,if_false,hrun]
 have hei:=zcR h4 default
 have hcl:=hes _ (List.mem_of_getElem? hei)
 have hput:=zDu (off:=off) hcl (by omega) (by omega) hna
 have hwr:=zsy hinv (v':=v2) (es':=es.set i' ((es.getD i' default).putT off ts)) (w':={ w with heap:=w.heap.setIfInBounds b (.cells (setR cs (o' + i' * s2 + off + 0) (a.eval v).cells.toList) ty (0,0)) }) hl hob (by omega) (Nat.le_refl _) e1 rfl ⟨rfl,rfl,rfl,Nat.le_refl _⟩
  (by rw [zko]; exact e2) (by simpa using hlen) (fun e he=>by
   rcases List.mem_or_eq_of_mem_set he with h | h
   ·exact hes e h
   ·rw [h,hput,zse (es.getD i' default).cells off ts (by omega)]; exact hcl) (fun k j e c he hc=>by
   have hj:j < s2:=by
    have h6:=(List.getElem?_eq_some_iff.1 hc).1
    by_cases hki:k=i'
    ·subst hki
     rw [List.getElem?_set_self h4] at he
     simp only [Option.some.injEq] at he; subst he
     rw [hput,zse (es.getD k default).cells off ts (by omega)] at h6
     omega
    ·rw [List.getElem?_set_ne (fun h=>hki h.symm)] at he
     rw [hes e (List.mem_of_getElem? he)] at h6
     exact h6
   have hg:(setR cs (o' + i' * s2 + off + 0) (a.eval v).cells.toList).getD (o' + k * s2 + j) undef=if o' + i' * s2 + off≤o' + k * s2 + j∧o' + k * s2 + j < o' + i' * s2 + off + i.size then (a.eval v).cells.getD (o' + k * s2 + j - (o' + i' * s2 + off)) undef else cs.getD (o' + k * s2 + j) undef:=by
    rw [Array.getD_eq_getD_getElem?,zjm _ _ _ _ (by omega),hvl]
    simp only [Nat.add_zero]
    split <;> simp [Array.getD_eq_getD_getElem?]
   rw [hg]
   by_cases hki:k=i'
   ·subst hki
    rw [List.getElem?_set_self h4] at he
    simp only [Option.some.injEq] at he; subst he
    rw [hput,zD8 (es.getD k default).cells off ts j (by omega)] at hc
    by_cases hin:off≤j∧j < off + ts.length
    ·rw [if_pos hin] at hc
     rw [if_pos (by omega),show o' + k * s2 + j - (o' + k * s2 + off)=j - off by omega]
     exact hval _ c hc
    ·rw [if_neg hin] at hc
     rw [if_neg (by omega)]
     exact e3 k j _ c hei hc
   ·rw [List.getElem?_set_ne (fun h=>hki h.symm)] at he
    rw [if_neg (by
     rcases Nat.lt_or_gt_of_ne hki with h | h
     ·have:(k + 1) * s2≤i' * s2:=Nat.mul_le_mul_right _ h
      rw [Nat.add_mul] at this
      omega
     ·have:(i' + 1) * s2≤k * s2:=Nat.mul_le_mul_right _ h
      rw [Nat.add_mul] at this
      omega)]
    exact e3 k j e c he hc) e4
 refine ⟨_,_,hexec,hwr.1,hwr.2,fun j hj h=>?_⟩
 simp only [Gh.withLoc]
 rw [if_neg (fun e=>by subst e; rw [hl] at h; simp at h)]
 exact h
theorem zB1 {o:Oper} {t:TypeId} {x v:Operand} (hop:o.op=.store t x v) {i:TypeInfo} (hi:P.info? t=some i) {ρ:Operand→AV} {H:List Ob} {K:AV→List Ob→Prop} (h:zi i.size (ρ x) (ρ v) H K) :
  ∃ r H',K r H'∧Does P o ρ r H H':=by
 unfold zi at h
 split at h
 ·rename_i id off hx0
  split at h
  ·rename_i cells hob
   obtain ⟨⟨h1,h2,h3⟩,hk⟩:=h
   refine ⟨_,_,hk, ?_⟩
   intro a w G hinv hx next Q hn
   have rx:=hx x (by rw [hop]; simp [Op.operands])
   have rv:=hx v (by rw [hop]; simp [Op.operands])
   rw [hx0] at rx
   obtain ⟨b,hl,ev⟩:∃ b,G.loc id=some (.box b)∧a.eval x=.pointer (some ⟨b,off,none⟩):=by
    generalize a.eval x=u at rx
    cases rx with
    | bptr _ _ b hl=>exact ⟨b,hl,rfl⟩
   obtain ⟨ob,ho,hh⟩:=hinv.obj id _ hl
   rw [hob] at ho; simp at ho; subst ho
   obtain ⟨cs,ty,e1,e2,e3,e4⟩:=hh
   have rc:=rv.repCs h1
   have hsz:(a.eval v).cells.size=i.size:=by rw [rc.1]; exact h2
   have hsc:∀ u∈(a.eval v).cells.toList,zQ u=true:=by
    intro u hu
    obtain ⟨k,hk⟩:=List.getElem?_of_mem hu
    rw [Array.getElem?_toList] at hk
    have hlt:k < (ρ v).cells.length:=by
     have:=(Array.getElem?_eq_some_iff.1 hk).1
     have:=rc.1
     omega
    have:=(rc.2 k _ (zcR hlt .top)).2
    rwa [Array.getD_eq_getD_getElem?,hk] at this
   have hrun:=zfl (P:=P) (b:=b) (o:=off) (ty:=ty) (a.eval v).cells.toList w cs 0 e1 (by simp; omega) hsc
   have hexec:(execOp a.eval o).run P w=.ok .skip { w with heap:=w.heap.setIfInBounds b (.cells (setR cs (off + 0) (a.eval v).cells.toList) ty (0,0)) }:=by
    unfold execOp; rw [hop]
    simp only [ev,Instr.storeAt,Instr.sureAddr,storeVar,Sem.run_bind,Sem.run_pure,Result.andThen,zdx hi,hsz,ne_eq,not_true_eq_false,if_false,hrun]
   have hwr:=zE8 hinv (w':={ w with heap:=w.heap.setIfInBounds b (.cells (setR cs (off + 0) (a.eval v).cells.toList) ty (0,0)) }) hl hob rfl ⟨rfl,rfl,rfl,Nat.le_refl _⟩
    (RepCs.put (G:=G) ⟨e2,e3⟩ rc off (by omega))
   unfold Oper.wp
   rw [hexec,Oper.upon_skip]
   exact hn undef _ G (.top _) hwr.1 hwr.2 (fun _ _ h=>h)
  ·exact h.elim
 ·rename_i id ver s' i' off hx0
  split at h
  ·rename_i v2 s2 es hob
   split at h
   ·rename_i ts hts
    obtain ⟨⟨h1,h2,h3,rfl,rfl,h4,h5⟩,hk⟩:=h
    refine ⟨_,_,hk, ?_⟩
    intro a w G hinv hx next Q hn
    have rx:=hx x (by rw [hop]; simp [Op.operands])
    have rv:=hx v (by rw [hop]; simp [Op.operands])
    rw [hx0] at rx
    have rc:=rv.repCs h1
    obtain ⟨hts1,hts2⟩:=zmh hts
    have hval:∀ j t,ts[j]? = some t→RepT G.rd t ((a.eval v).cells.getD j undef)∧zQ ((a.eval v).cells.getD j undef)=true:=by
     intro j t hj
     obtain ⟨c,hc,hct⟩:=hts2 j t hj
     exact ⟨(rc.2 j c hc).1.cellT hct,(rc.2 j c hc).2⟩
    obtain ⟨w',G',hexec,i1,s1,d1⟩:=zxO hop hi hinv hob rx h2 h3 h4 h5 (by rw [rc.1]; omega) hval
    unfold Oper.wp
    rw [hexec,Oper.upon_skip]
    exact hn undef _ _ (.top _) i1 s1 d1
   ·rename_i hts
    obtain ⟨cs,H1,⟨⟨h1,h2,rfl,rfl,h4,h5,hlen,hob1,ts,o2,rfl⟩,hk⟩,_,hrest⟩:=znc [ρ v] H _ h
    refine ⟨_,_,hk, ?_⟩
    intro a w G hinv hx next Q hn
    have rx:=hx x (by rw [hop]; simp [Op.operands])
    have rv:=hx v (by rw [hop]; simp [Op.operands])
    rw [hx0] at rx
    obtain ⟨G1,i1,s1,l1,r1⟩:=hrest w G [a.eval v] hinv rfl (fun j c u hc hu=>by
     cases j with
     | zero=>simp at hc hu; subst hc hu; exact rv
     | succ j=>simp at hc)
    have r2:=r1 0 _ _ rfl rfl
    obtain ⟨p,hp⟩:∃ p,a.eval v=.pointer p:=by
     generalize a.eval v=u at r2
     cases r2 with
     | imm _ _ b o'=>exact ⟨_,rfl⟩
    have hcl:(a.eval v).cells = #[a.eval v]:=by rw [hp]; rfl
    obtain ⟨w',G',hexec,i2,s2,d2⟩:=zxO hop hi i1 hob1 (rx.mono s1.grow) (ts:=[.imm ts o2]) (by rw [h2]; rfl) (by omega) h4 (by omega) (by rw [hcl,h2]; rfl) (fun j t hj=>by
     cases j with
     | zero =>
      simp at hj; subst hj
      rw [hcl]
      exact ⟨r2,by show zQ (a.eval v)=true; rw [hp]; rfl⟩
     | succ j=>simp at hj)
    unfold Oper.wp
    rw [hexec,Oper.upon_skip]
    exact hn undef _ _ (.top _) i2 (s1.trans s2) (fun j hj h=>d2 j (by omega) (by rw [l1]; exact h))
  ·exact h.elim
 ·exact h.elim
theorem zsI (H:List Ob) (G:Gh) {b:Nat} (r:Nat→Option Value) {l:Loc}:Dom H G ((G.withRd b r).withLoc H.length l):=by
 intro id hid h
 simp only [Gh.withLoc]
 rw [if_neg (by omega)]
 exact h
theorem zD4 {w w':World} {G:Gh} {H:List Ob} (hi:Inv w G H) {cells:List AV} {cs:Array Value} {ty:TypeId} (hh:w'.heap=w.heap.push (.cells cs ty (0,0))) (hs:Same w w') (hr:RepCs G cells cs) :
  Inv w' ((G.withRd w.heap.size fun _=>none).withLoc H.length (.box w.heap.size)) (H++[.box cells])∧Step w G w' ((G.withRd w.heap.size fun _=>none).withLoc H.length (.box w.heap.size)):=by
 refine zqm hi hh hs (fun _=>none) (fun o c h=>by simp at h) (.box w.heap.size) (.box cells) (fun b hb=>by simpa [Loc.blk] using hb.symm) ?_
 obtain ⟨i1,s1⟩:=zif hi hh hs (fun _=>none) (fun o c h=>by simp at h)
 have hg:Grow G ((G.withRd w.heap.size fun _=>none).withLoc H.length (.box w.heap.size)):=by
  refine ⟨s1.grow.rd,fun id l e=>⟨l, ?_,.refl l⟩⟩
  have:id≠H.length:=Nat.ne_of_lt (hi.loc_lt e)
  simp only [Gh.withLoc,if_neg this]
  exact e
 refine ⟨cs,ty,by rw [hh]; simp,hr.1,fun j c hj=>⟨(hr.2 j c hj).1.mono hg,(hr.2 j c hj).2⟩,fun o=>by simp [Gh.withLoc,Gh.withRd]⟩
theorem zuH {o:Oper} {t:TypeId} (hop:o.op=.alloc t) {ρ:Operand→AV} {K:List AV→Prop} (h:aA P (.alloc t) K) :
  ∃ z,K z ∧ ∀ H,Does P o ρ (.bptr H.length 0) H (H++[.box z]) ∧
   (∀ (a:Act) (w:World) (G:Gh),Inv w G H→∃ w',(execOp a.eval o).run P w=.ok (.value (.pointer (some ⟨w.heap.size,0,none⟩))) w'∧w'.os=w.os∧w'.tape=w.tape∧w'.output=w.output∧w.drawn≤w'.drawn ∧
    ∃ cs ty,w'.heap=w.heap.push (.cells cs ty (0,0))∧RepCs G z cs):=by
 unfold aA zeroCells at h
 simp only [] at h
 cases hi:P.info? t with
 | none=>simp [hi] at h
 | some i =>
  cases hz:i.zero with
  | none=>simp [hi,hz] at h
  | some z =>
   simp only [hi,hz] at h
   split at h
   ·rename_i hsc
    have hex:∀ (a:Act) (w:World),(execOp a.eval o).run P w=.ok (.value (.pointer (some ⟨w.heap.size,0,none⟩))) { w with heap:=w.heap.push (.cells z.cells t) }:=by
     intro a w
     unfold execOp; rw [hop]
     have hzv:(zeroValue t).run P w=.ok z w:=by simp [zeroValue,typeInfo,hi,hz]
     simp only [Instr.alloc,Sem.run_bind,hzv,Result.andThen,newVar,newRow,run_newObj,Sem.run_pure]
    refine ⟨_,h,fun H=>⟨zcE fun a w G hinv hx=>?_,fun a w G hinv=>⟨_,hex a w,rfl,rfl,rfl,Nat.le_refl _,z.cells,t,rfl,zx9 G z hsc⟩⟩⟩
    obtain ⟨i1,s1⟩:=zD4 hinv (w':={ w with heap:=w.heap.push (.cells z.cells t) }) (cells:=z.cells.toList.map zgx) (cs:=z.cells) (ty:=t) rfl ⟨rfl,rfl,rfl,Nat.le_refl _⟩ (zx9 G z hsc)
    exact ⟨_,_,_,hex a w,.bptr _ _ _ (by simp [Gh.withLoc]),⟨i1,s1⟩,zsI _ _ _⟩
   ·exact h.elim
theorem zEp {o:Oper} {t:TypeId} {x:Operand} (hop:o.op=.box t x) {ρ:Operand→AV} {H:List Ob} {K:AV→List Ob→Prop} (h:aBox (ρ x) H K):∃ r H',K r H'∧Does P o ρ r H H':=by
 obtain ⟨h1,h2⟩:=h
 refine ⟨_,_,h2,zcE fun a w G hinv hx=>?_⟩
 have rx:=hx x (by rw [hop]; simp [Op.operands])
 obtain ⟨i1,s1⟩:=zD4 hinv (w':={ w with heap:=w.heap.push (.cells (a.eval x).cells t) }) (cs:=(a.eval x).cells) (ty:=t) rfl ⟨rfl,rfl,rfl,Nat.le_refl _⟩ (rx.repCs h1)
 refine ⟨.pointer (some ⟨w.heap.size,0,none⟩),_,_, ?_,.bptr H.length 0 w.heap.size (by simp [Gh.withLoc]),⟨i1,s1⟩,zsI _ _ _⟩
 unfold execOp; rw [hop]
 simp only [Instr.box,Sem.run_bind,Result.andThen,newVar,newRow,run_newObj,Sem.run_pure]
end Go.Abs
end

section
/- Maps: made, looked into, written. -/
namespace Go.Abs
variable {P:Program}
theorem zF2 {w w':World} {G:Gh} {H:List Ob} (hi:Inv w G H) {o:Obj} (hh:w'.heap=w.heap.push o) (hs:Same w w') (ob:Ob)
  (hl:Holds w' (G.withLoc H.length (.box w.heap.size)) (.box w.heap.size) ob) :
  Inv w' (G.withLoc H.length (.box w.heap.size)) (H++[ob])∧Step w G w' (G.withLoc H.length (.box w.heap.size)):=by
 have hn:G.loc H.length=none:=hi.loc_none (Nat.le_refl _)
 have hsz:w'.heap.size=w.heap.size + 1:=by rw [hh]; simp
 have hblk:∀ b,b < w.heap.size→w'.heap[b]? = w.heap[b]?:=by
  intro b hb
  rw [hh,Array.getElem?_push,if_neg (by omega)]
 have hg:Grow G (G.withLoc H.length (.box w.heap.size)):=by
  refine ⟨fun _ _ _ e=>e,fun id l' e=>⟨l', ?_,.refl l'⟩⟩
  simp only [Gh.withLoc]
  split
  ·rename_i h; subst h; rw [hn] at e; simp at e
  ·exact e
 have hold:∀ id b,G.blk id=some b→b≠w.heap.size:=fun id b e=>Nat.ne_of_lt (hi.blk_lt e)
 have hcase:∀ id b,(G.withLoc H.length (.box w.heap.size)).blk id=some b→(id=H.length∧b=w.heap.size)∨(id≠H.length∧G.blk id=some b):=by
  intro id b e
  simp only [Gh.blk,Gh.withLoc] at e
  split at e
  ·rename_i h; exact .inl ⟨h,by simpa [Loc.blk] using e.symm⟩
  ·rename_i h; exact .inr ⟨h,e⟩
 refine ⟨⟨fun b o c e=>?_,fun id l' e=>?_,fun i j b e1 e2=>?_,hi.tab.keep (fun _ _ _ e=>e) (fun g _ hlt=>hblk g hlt)⟩,fun n=>⟨hs.os,hs.tape,hs.output,hs.drawn,by omega,fun b hb _=>hblk b hb,fun _ _ _ e=>e,fun _ _ _ e=>.inl e,fun id _ l' e=>hg.loc id l' e,fun id b e=>?_⟩⟩
 ·have e:G.rd b o=some c:=e
  rw [ztI hh (hi.rd_lt e)]
  exact hi.rd b o c e
 ·simp only [Gh.withLoc] at e
  split at e
  ·rename_i h
   subst h
   simp at e; subst e
   exact ⟨ob,by simp,hl⟩
  ·obtain ⟨ob',ho,hl'⟩:=hi.obj id l' e
   refine ⟨ob', ?_,hl'.keep hg (by omega) (fun b hb=>⟨hblk b ?_,fun _ h=>h⟩)⟩
   ·rw [List.getElem?_append_left (hi.loc_lt e)]; exact ho
   ·exact hi.blk_lt (id:=id) (by simp [Gh.blk,e,hb])
 ·rcases hcase i b e1 with ⟨h1,h2⟩ | ⟨h1,h2⟩ <;> rcases hcase j b e2 with ⟨h3,h4⟩ | ⟨h3,h4⟩
  ·omega
  ·exact absurd h2 (hold j b h4)
  ·exact absurd h4 (hold i b h2)
  ·exact hi.dis i j b h2 h4
 ·rcases hcase id b e with ⟨_,h2⟩ | ⟨_,h2⟩
  ·exact .inl (by omega)
  ·exact .inr ⟨id,h2⟩
theorem zqF {w w':World} {G:Gh} {H:List Ob} (hi:Inv w G H) {id b:Nat} {es es':List (T×T)} {ms':Array MapEntry} (hl:G.loc id=some (.box b)) (ho:H[id]? = some (.mapo es))
  (hh:w'.heap=w.heap.setIfInBounds b (.map ms' es'.length)) (hs:Same w w') (hr:zba G.rd ms' es'):Inv w' G (H.set id (.mapo es'))∧Step w G w' G:=by
 obtain ⟨ob,ho',hh'⟩:=hi.obj id _ hl
 rw [ho] at ho'; simp at ho'; subst ho'
 obtain ⟨ms,e1,e2,e4⟩:=hh'
 have hb:b < w.heap.size:=(Array.getElem?_eq_some_iff.1 e1).1
 have hidl:id < H.length:=hi.loc_lt hl
 have hblk:G.blk id=some b:=by simp [Gh.blk,hl,Loc.blk]
 have hother:∀ k,k≠b→w'.heap[k]? = w.heap[k]?:=fun k hk=>by rw [hh,Array.getElem?_setIfInBounds,if_neg (fun e=>hk e.symm)]
 refine ⟨⟨fun b' o c e=>?_,fun j l e=>?_,hi.dis,hi.tab.keep (fun _ _ _ e=>e) (fun g ⟨o,c,e⟩ _=>hother g (fun h=>by subst h; rw [e4] at e; simp at e))⟩,fun n=>⟨hs.os,hs.tape,hs.output,hs.drawn,by rw [hh]; simp,fun k hk hn=>hother k (fun e=>hn id (e ▸ hblk)),fun _ _ _ h=>h,fun _ _ _ h=>.inl h,fun _ _ l h=>⟨l,h,.refl l⟩,fun id _ h=>.inr ⟨id,h⟩⟩⟩
 ·have hne:b'≠b:=by intro h; subst h; rw [e4] at e; simp at e
  have:=hi.rd b' o c e
  unfold World.cell? at this ⊢
  simpa [hother b' hne] using this
 ·by_cases hj:j=id
  ·subst hj
   rw [hl] at e; simp at e; subst e
   refine ⟨.mapo es',by simp [hidl],ms', ?_,hr,e4⟩
   rw [hh]; simp [hb]
  ·obtain ⟨ob,ho2,hh2⟩:=hi.obj j l e
   refine ⟨ob,by rw [List.getElem?_set_ne (fun h=>hj h.symm)]; exact ho2,hh2.keep (Grow.refl G) (by rw [hh]; simp) (fun k hk=>⟨hother k (fun h=>?_),fun _ h=>h⟩)⟩
   subst h
   exact hj (hi.dis j id k (by simp [Gh.blk,e,hk]) hblk)
theorem ziZ {rd:Rd} {d:TypeDesc} {t:T} {v:Value} (h:RepT rd t v) (hk:zfV d t=true):MapKept.IsKey d v:=by
 unfold zfV at hk
 split at hk
 ·cases h; simp [MapKept.IsKey]
 ·cases h; simpa [MapKept.IsKey,eq_comm] using hk
 ·simp at hk
theorem zEJ {rd:Rd} {d:TypeDesc} {t u:T} {v x:Value} (ht:RepT rd t v) (hu:RepT rd u x) (h1:zfV d t=true) (h2:zfV d u=true):keyEq t u=true↔v=x:=by
 unfold zfV at h1 h2
 split at h1
 ·split at h2
  ·cases ht; cases hu; simp [keyEq]
  ·simp_all
  ·simp at h2
 ·split at h2
  ·simp_all
  ·rename_i hd
   simp at hd; subst hd
   simp at h1 h2
   subst h1
   cases ht; cases hu
   subst h2
   simp [keyEq]
  ·simp at h2
 ·simp at h1
theorem zw4 {rd:Rd} {d:TypeDesc} {kt:T} {kv:Value} (hk:RepT rd kt kv) (hd:zfV d kt=true):∀ (es:List (T×T)) (l:List MapEntry) (i:Nat) (r:Option (Nat×T)),l.length=es.length →
  (∀ (j:Nat) (x:T×T),es[j]? = some x→∃ e,l[j]? = some e∧RepT rd x.1 e.key∧RepT rd x.2 e.val)→zfs d kt es i=some r →
  (r=none∧Instr.findNow d kv l i=some none) ∨ ∃ (j:Nat) (e:MapEntry) (x:T×T),r=some (i + j,x.2)∧es[j]? = some x∧l[j]? = some e∧Instr.findNow d kv l i=some (some (i + j,e.val))∧e.key=kv∧keyEq kt x.1=true∧RepT rd x.2 e.val
 | [],l,i,r,hl,_,h=>by
  have:l=[]:=List.eq_nil_of_length_eq_zero hl
  subst this
  simp [zfs] at h
  exact .inl ⟨h.symm,rfl⟩
 | x::es,[],i,r,hl,_,h=>by simp at hl
 | x::es,e::l,i,r,hl,hr,h=>by
  obtain ⟨e',he,k1,k2⟩:=hr 0 x rfl
  simp at he; subst he
  simp only [zfs] at h
  split at h
  ·rename_i hx
   have iff:=zEJ hk k1 hd hx
   obtain ⟨b,hb,hbi⟩:=MapKept.sameNow_of_keys (ziZ hk hd) (ziZ k1 hx)
   split at h
   ·rename_i hq
    have hev:=iff.1 hq
    have hbt:b=true:=hbi.2 hev
    subst hbt
    simp at h
    exact .inr ⟨0,e,x,by simp [← h],rfl,rfl,by simp [Instr.findNow,hb],hev.symm,hq,k2⟩
   ·rename_i hq
    have hbf:b=false:=by
     cases hbb:b with
     | false=>rfl
     | true=>have:=iff.2 (hbi.1 hbb); rw [hq] at this; simp at this
    subst hbf
    have hn:Instr.findNow d kv (e::l) i=Instr.findNow d kv l (i + 1):=by simp [Instr.findNow,hb]
    rw [hn]
    rcases zw4 hk hd es l (i + 1) r (by simpa using hl) (fun j y hy=>by simpa using hr (j + 1) y (by simpa using hy)) h with ⟨a1,a2⟩ | ⟨j,e2,x2,a1,a2,a3,a4,a5,a6,a7⟩
    ·exact .inl ⟨a1,a2⟩
    ·exact .inr ⟨j + 1,e2,x2,by rw [a1]; congr 2; omega,by simpa using a2,by simpa using a3,by rw [a4]; congr 3; omega,a5,a6,a7⟩
  ·simp at h
theorem zrv {rd:Rd} {d:TypeDesc} {t:T} {v:Value} (h:RepT rd t v) (hk:zfV d t=true):Instr.sameBits 10000 v v=true:=by
 show Instr.sameBits (9999 + 1) v v=true
 unfold zfV at hk
 split at hk
 ·cases h
  simp only [Instr.sameBits]
  exact (MapKept.bytes_beq _ _).2 rfl
 ·cases h; simp [Instr.sameBits]
 ·simp at hk
theorem zmw {d:TypeDesc} {x ix:AV} {H:List Ob} {K:Nat→T→List (T×T)→Option (Nat×T)→Prop} (h:aKey d x ix H K) :
  ∃ id k es r,K id k es r∧H[id]? = some (.mapo es)∧zfs d k es 0=some r∧zfV d k=true∧x=.mapr id∧ix=.p k:=by
 unfold aKey at h
 split at h
 ·split at h
  ·rename_i es hob
   split at h
   ·rename_i r h1 h2
    exact ⟨_,_,_,_,h,hob,h2,h1,rfl,rfl⟩
   ·exact h.elim
  ·exact h.elim
 ·exact h.elim
theorem zpH {w:World} {G:Gh} {H:List Ob} (hi:Inv w G H) {id:Nat} {es:List (T×T)} (ho:H[id]? = some (.mapo es)) {v:Value} (r:RepA G (.mapr id) v) :
  ∃ b ms,v=.map (some b)∧G.loc id=some (.box b)∧w.heap[b]? = some (.map ms es.length)∧zba G.rd ms es:=by
 cases r with
 | mapr _ b hl =>
  obtain ⟨ob,ho',hh⟩:=hi.obj id _ hl
  rw [ho] at ho'; simp at ho'; subst ho'
  obtain ⟨ms,e1,e2,_⟩:=hh
  exact ⟨b,ms,rfl,hl,e1,e2⟩
theorem zba.found {rd:Rd} {ms:Array MapEntry} {es:List (T×T)} (h:zba rd ms es) {d:TypeDesc} {k:T} {kv:Value} (hk:RepT rd k kv) (hd:zfV d k=true) {r:Option (Nat×T)} (hf:zfs d k es 0=some r) :
  (r=none∧Instr.findNow d kv ms.toList 0=some none) ∨ ∃ (j:Nat) (e:MapEntry) (x:T×T),r=some (j,x.2)∧es[j]? = some x∧ms[j]? = some e∧e.born=j∧Instr.findNow d kv ms.toList 0=some (some (j,e.val))∧e.key=kv∧RepT rd x.2 e.val:=by
 rcases zw4 hk hd es ms.toList 0 r (by simpa using h.1) (fun j x hx=>by
  obtain ⟨e,h1,_,h3,h4⟩:=h.2 j x hx
  exact ⟨e,by simpa using h1,h3,h4⟩) hf with a | ⟨j,e,x,a1,a2,a3,a4,a5,_,a7⟩
 ·exact .inl a
 ·obtain ⟨e',h1,h2,_⟩:=h.2 j x a2
  have a3':ms[j]? = some e:=by simpa using a3
  rw [a3'] at h1; simp at h1; subst h1
  exact .inr ⟨j,e,x,by simpa using a1,a2,a3',h2,by simpa using a4,a5,a7⟩
theorem zba.set {rd:Rd} {ms:Array MapEntry} {es:List (T×T)} (h:zba rd ms es) {j:Nat} {k t:T} {kv v:Value} (hk:RepT rd k kv) (ht:RepT rd t v):zba rd (ms.modify j fun e=>{ e with key:=kv,val:=v }) (es.set j (k,t)):=by
 refine ⟨by simpa using h.1,fun i x hx=>?_⟩
 by_cases e:j=i
 ·subst e
  have hlt:j < es.length:=by
   have:=(List.getElem?_eq_some_iff.1 hx).1
   simpa using this
  simp [hlt] at hx
  subst hx
  obtain ⟨y,h1,h2,_⟩:=h.2 j es[j] (by simp [hlt])
  exact ⟨{ y with key:=kv,val:=v },by simp [Array.getElem?_modify,h1],h2,hk,ht⟩
 ·rw [List.getElem?_set_ne e] at hx
  obtain ⟨y,h1,h2⟩:=h.2 i x hx
  exact ⟨y,by simp [Array.getElem?_modify,e,h1],h2⟩
theorem zba.setVal {rd:Rd} {ms:Array MapEntry} {es:List (T×T)} (h:zba rd ms es) {j:Nat} (hj:j < es.length) {t:T} {v:Value} (ht:RepT rd t v):zba rd (ms.modify j fun e=>{ e with val:=v }) (es.set j ((es.getD j (default,default)).1,t)):=by
 refine ⟨by simpa using h.1,fun i x hx=>?_⟩
 by_cases e:j=i
 ·subst e
  obtain ⟨y,h1,h2,h3,h4⟩:=h.2 j es[j] (by simp [hj])
  have hg:es.getD j (default,default)=es[j]:=by simp [hj]
  simp [hj] at hx
  subst hx
  exact ⟨{ y with val:=v },by simp [Array.getElem?_modify,h1],h2,h3,ht⟩
 ·rw [List.getElem?_set_ne e] at hx
  obtain ⟨y,h1,h2⟩:=h.2 i x hx
  exact ⟨y,by simp [Array.getElem?_modify,e,h1],h2⟩
theorem zba.push {rd:Rd} {ms:Array MapEntry} {es:List (T×T)} (h:zba rd ms es) {k t:T} {kv v:Value} (hk:RepT rd k kv) (ht:RepT rd t v):zba rd (ms.push { key:=kv,val:=v,born:=es.length }) (es++[(k,t)]):=by
 refine ⟨by simp [h.1],fun i x hx=>?_⟩
 rcases Nat.lt_trichotomy i es.length with e | e | e
 ·rw [List.getElem?_append_left e] at hx
  obtain ⟨y,h1,h2⟩:=h.2 i x hx
  exact ⟨y,by rw [Array.getElem?_push,if_neg (by rw [h.1]; omega)]; exact h1,h2⟩
 ·subst e
  simp at hx; subst hx
  exact ⟨⟨kv,v,es.length⟩,by rw [← h.1]; simp,rfl,hk,ht⟩
 ·rw [List.getElem?_eq_none (by simp; omega)] at hx
  simp at hx
theorem zrF {t:TypeId} {K:AV→Prop} (h:zgA P t K):∃ z,K z ∧ ∀ w:World,∃ v,(zeroValue t).run P w=.ok v w ∧ ∀ G,RepA G z v:=by
 unfold zgA at h
 split at h
 ·rename_i i hi
  split at h
  ·rename_i v hv
   split at h
   ·exact ⟨_,h,fun w=>⟨v,by simp [zeroValue,typeInfo,hi,hv],fun G=>zfv G v⟩⟩
   ·exact h.elim
  ·exact h.elim
 ·exact h.elim
theorem zyx {o:Oper} {t:TypeId} (hop:o.op=.makeMap t none) {ρ:Operand→AV} {H:List Ob} {K:AV→List Ob→Prop} (h:zsA H K):∃ r H',K r H'∧Does P o ρ r H H':=by
 refine ⟨_,_,h,zcE fun a w G hinv hx=>?_⟩
 obtain ⟨i1,s1⟩:=zF2 hinv (w':={ w with heap:=w.heap.push (.map #[] 0) }) rfl ⟨rfl,rfl,rfl,Nat.le_refl _⟩ (.mapo []) ⟨#[],by simp,⟨rfl,fun i x hx=>by simp at hx⟩,fun o=>by
  show G.rd w.heap.size o=none
  cases e:G.rd w.heap.size o with
  | none=>rfl
  | some c=>have:=hinv.rd_lt e; omega⟩
 refine ⟨.map (some w.heap.size),_,_, ?_,.mapr H.length w.heap.size (by simp [Gh.withLoc]),⟨i1,s1⟩,fun id hid h=>?_⟩
 ·unfold execOp; rw [hop]
  simp only [Instr.makeMap,Sem.run_bind,Result.andThen,Sem.run_pure]
  rfl
 ·simp only [Gh.withLoc]
  rw [if_neg (by omega)]
  exact h
theorem zz1 {o:Oper} {t k e:TypeId} {d:TypeDesc} {x ix:Operand} {ok:Bool} (hop:o.op=.lookup t x ix ok) (ht:P.underlying t=some (.map k e)) (hk:P.underlying k=some d) {ρ:Operand→AV} {H:List Ob} {K:AV→List Ob→Prop}
  (h:zgA P e fun z=>zex d ok z (ρ x) (ρ ix) H K):∃ r H',K r H'∧Does P o ρ r H H':=by
 obtain ⟨z,h,hz⟩:=zrF h
 unfold zex at h
 split at h
 ·rename_i zt
  obtain ⟨id,kt,es,r,h,hob,hf,hd,hx0,hix0⟩:=zmw h
  have main:∀ (y:T) (b:Bool),(∀ (w:World) (G:Gh) (kv:Value) (bk:Nat) (ms:Array MapEntry),RepT G.rd kt kv→w.heap[bk]? = some (.map ms es.length)→zba G.rd ms es→∃ v,(Instr.lookup t (.map (some bk)) kv ok).run P w=.ok (if ok then .tuple #[v,.bool b] else v) w∧RepA G (.p y) v) →
    K (match ok with | true=>.tup [.p y,.p (.bool b)] | false=>.p y) H→∃ r H',K r H'∧Does P o ρ r H H':=by
   intro y b hm hK
   refine ⟨_,_,hK,zO fun a w G hinv hx=>?_⟩
   have rx:=hx x (by rw [hop]; simp [Op.operands])
   have ri:=hx ix (by rw [hop]; simp [Op.operands])
   rw [hx0] at rx
   rw [hix0] at ri
   have ri:=zbp.1 ri
   obtain ⟨bk,ms,ev,hl,e1,e2⟩:=zpH hinv hob rx
   obtain ⟨v,h1,h2⟩:=hm w G _ bk ms ri e1 e2
   refine ⟨if ok then .tuple #[v,.bool b] else v, ?_, ?_⟩
   ·unfold execOp; rw [hop]
    simp only [ev,Sem.run_bind,h1,Result.andThen,Sem.run_pure]
   ·cases ok with
    | true =>
     refine .tup _ _ rfl (fun j c hj=>?_)
     match j,hj with
     | 0,hj=>simp at hj; subst hj; exact h2
     | 1,hj=>simp at hj; subst hj; exact .p _ _ (.bool b)
     | j + 2,hj=>simp at hj
    | false=>exact h2
  cases r with
  | none =>
   refine main zt false (fun w G kv bk ms rk e1 hm=>?_) (by cases ok <;> exact h)
   obtain ⟨v,hv,hr⟩:=hz w
   have hck:=MapKept.run_checkKey (P:=P) (w:=w) hk (ziZ rk hd) ms.isEmpty 9999
   rcases hm.found rk hd hf with ⟨_,h2⟩ | ⟨j,e',x',h1,_⟩
   ·refine ⟨v, ?_,hr G⟩
    have hfk:=MapKept.run_findKey (P:=P) (w:=w) hk h2
    simp only [Instr.lookup,Sem.run_bind,zu ht,Result.andThen,MapKept.run_getObj_map e1,Sem.run_pure,hck,hfk,hv]
   ·simp at h1
  | some p =>
   obtain ⟨i,y⟩:=p
   refine main y true (fun w G kv bk ms rk e1 hm=>?_) (by cases ok <;> exact h)
   have hck:=MapKept.run_checkKey (P:=P) (w:=w) hk (ziZ rk hd) ms.isEmpty 9999
   rcases hm.found rk hd hf with ⟨h1,_⟩ | ⟨j,e',x',h1,h2,h3,h4,h5,h6,h7⟩
   ·simp at h1
   ·simp at h1
    obtain ⟨rfl,rfl⟩:=h1
    refine ⟨e'.val, ?_,.p _ _ h7⟩
    have hfk:=MapKept.run_findKey (P:=P) (w:=w) hk h5
    simp only [Instr.lookup,Sem.run_bind,zu ht,Result.andThen,MapKept.run_getObj_map e1,Sem.run_pure,hck,hfk]
 ·exact h.elim
theorem zAp {o:Oper} {t k e:TypeId} {d:TypeDesc} {x ix v:Operand} (hop:o.op=.mapUpdate t x ix v) (ht:P.underlying t=some (.map k e)) (hk:P.underlying k=some d) {ρ:Operand→AV} {H:List Ob} {K:AV→List Ob→Prop}
  (h:zcB d (ρ x) (ρ ix) (ρ v) H K):∃ r H',K r H'∧Does P o ρ r H H':=by
 unfold zcB at h
 split at h
 ·rename_i vt hvt
  obtain ⟨id,kt,es,r,h,hob,hf,hd,hx0,hix0⟩:=zmw h
  have main:∀ es':List (T×T),(∀ (w:World) (G:Gh) (kv vv:Value) (b:Nat) (ms:Array MapEntry),RepT G.rd kt kv→RepT G.rd vt vv→w.heap[b]? = some (.map ms es.length)→zba G.rd ms es→∃ ms',
    (Instr.mapUpdate t (.map (some b)) kv vv).run P w=.ok () { w with heap:=w.heap.setIfInBounds b (.map ms' es'.length) }∧zba G.rd ms' es') →
    K .top (H.set id (.mapo es'))→∃ r H',K r H'∧Does P o ρ r H H':=by
   intro es' hm hK
   refine ⟨_,_,hK, ?_⟩
   intro a w G hinv hx next Q hn
   have rx:=hx x (by rw [hop]; simp [Op.operands])
   have ri:=hx ix (by rw [hop]; simp [Op.operands])
   have rv:=hx v (by rw [hop]; simp [Op.operands])
   rw [hx0] at rx
   rw [hix0] at ri
   have ri:=zbp.1 ri
   obtain ⟨bk,ms,ev,hl,e1,e2⟩:=zpH hinv hob rx
   obtain ⟨ms',h1,h2⟩:=hm w G _ _ bk ms ri (rv.cellT hvt) e1 e2
   obtain ⟨i1,s1⟩:=zqF hinv (w':={ w with heap:=w.heap.setIfInBounds bk (.map ms' es'.length) }) hl hob rfl ⟨rfl,rfl,rfl,Nat.le_refl _⟩ h2
   have hexec:(execOp a.eval o).run P w=.ok .skip { w with heap:=w.heap.setIfInBounds bk (.map ms' es'.length) }:=by
    unfold execOp; rw [hop]
    simp only [ev,Sem.run_bind,h1,Result.andThen,Sem.run_pure]
   unfold Oper.wp
   rw [hexec,Oper.upon_skip]
   exact hn undef _ G (.top _) i1 s1 (fun _ _ h=>h)
  cases r with
  | none =>
   refine main _ (fun w G kv vv b ms rk rv e1 hm=>?_) h
   have hck:=MapKept.run_checkKey (P:=P) (w:=w) hk (ziZ rk hd) false 9999
   rcases hm.found rk hd hf with ⟨_,h2⟩ | ⟨j,e',x',h1,_⟩
   ·refine ⟨_, ?_,hm.push rk rv⟩
    simp only [Instr.mapUpdate,Sem.run_bind,zu ht,MapKept.run_getObj_map e1,hck,MapKept.run_findKey (P:=P) (w:=w) hk h2,Result.andThen,MapKept.run_setObj_map _ e1]
    simp
   ·simp at h1
  | some p =>
   obtain ⟨i,y⟩:=p
   refine main _ (fun w G kv vv b ms rk rv e1 hm=>?_) h
   have hck:=MapKept.run_checkKey (P:=P) (w:=w) hk (ziZ rk hd) false 9999
   rcases hm.found rk hd hf with ⟨h1,_⟩ | ⟨j,e',x',h1,h2,h3,h4,h5,h6,h7⟩
   ·simp at h1
   ·simp at h1
    obtain ⟨rfl,rfl⟩:=h1
    refine ⟨_, ?_,hm.set rk rv⟩
    have hks:(Instr.keyThatStays (((ms[i]?).map (·.key)).getD kv) kv).run P w=.ok kv w:=by
     simp only [h3,Option.map_some,Option.getD_some,h6,Instr.keyThatStays,zrv rk hd,if_true,Sem.run_pure]
    simp only [Instr.mapUpdate,Sem.run_bind,zu ht,MapKept.run_getObj_map e1,hck,MapKept.run_findKey (P:=P) (w:=w) hk h5,Result.andThen,hks,MapKept.run_setObj_map _ e1]
    simp
 ·exact h.elim
theorem zA9 {o:Oper} {t k e:TypeId} {d:TypeDesc} {x ix:Operand} (hop:o.op=.mapEntry t x ix) (ht:P.underlying t=some (.map k e)) (hk:P.underlying k=some d) {ρ:Operand→AV} {H:List Ob} {K:AV→List Ob→Prop}
  (h:zgA P e fun z=>zg2 d z (ρ x) (ρ ix) H K):∃ r H',K r H'∧Does P o ρ r H H':=by
 obtain ⟨z,h,hz⟩:=zrF h
 unfold zg2 at h
 split at h
 ·rename_i zt
  obtain ⟨id,kt,es,r,h,hob,hf,hd,hx0,hix0⟩:=zmw h
  have tup:∀ (G:Gh) (y:T) (u:Value) (n:Nat),RepA G (.p y) u→RepA G (.tup [.p y,.p (.int .i64 n)]) (.tuple #[u,goInt n]):=by
   intro G y u n hu
   refine .tup _ _ rfl (fun j c hj=>?_)
   match j,hj with
   | 0,hj=>simp at hj; subst hj; exact hu
   | 1,hj=>simp at hj; subst hj; exact .p _ _ (.int _ _)
   | j + 2,hj=>simp at hj
  cases r with
  | none =>
   refine ⟨_,_,h,zcE fun a w G hinv hx=>?_⟩
   have rx:=hx x (by rw [hop]; simp [Op.operands])
   have ri:=hx ix (by rw [hop]; simp [Op.operands])
   rw [hx0] at rx
   rw [hix0] at ri
   have ri:=zbp.1 ri
   obtain ⟨bk,ms,ev,hl,e1,e2⟩:=zpH hinv hob rx
   obtain ⟨zv,hzv,hzr⟩:=hz w
   have hzt:=zbp.1 (hzr G)
   have hck:=MapKept.run_checkKey (P:=P) (w:=w) hk (ziZ ri hd) false 9999
   rcases e2.found ri hd hf with ⟨_,h2⟩ | ⟨j,e',x',h1,_⟩
   ·obtain ⟨i1,s1⟩:=zqF hinv (w':={ w with heap:=w.heap.setIfInBounds bk (.map (ms.push { key:=a.eval ix,val:=zv,born:=es.length }) (es++[(kt,zt)]).length) }) hl hob rfl ⟨rfl,rfl,rfl,Nat.le_refl _⟩ (e2.push ri hzt)
    refine ⟨.tuple #[zv,goInt es.length],_,G, ?_,tup G zt zv es.length (hzr G),⟨i1,s1⟩,fun _ _ h=>h⟩
    unfold execOp; rw [hop]
    simp only [Instr.mapEntry,Sem.run_bind,zu ht,Result.andThen,ev,MapKept.run_getObj_map e1,hck,MapKept.run_findKey (P:=P) (w:=w) hk h2,hzv,MapKept.run_setObj_map _ e1,Sem.run_pure]
    simp
   ·simp at h1
  | some p =>
   obtain ⟨i,y⟩:=p
   refine ⟨_,_,h,zcE fun a w G hinv hx=>?_⟩
   have rx:=hx x (by rw [hop]; simp [Op.operands])
   have ri:=hx ix (by rw [hop]; simp [Op.operands])
   rw [hx0] at rx
   rw [hix0] at ri
   have ri:=zbp.1 ri
   obtain ⟨bk,ms,ev,hl,e1,e2⟩:=zpH hinv hob rx
   have hck:=MapKept.run_checkKey (P:=P) (w:=w) hk (ziZ ri hd) false 9999
   rcases e2.found ri hd hf with ⟨h1,_⟩ | ⟨j,e',x',h1,h2,h3,h4,h5,h6,h7⟩
   ·simp at h1
   ·simp at h1
    obtain ⟨rfl,rfl⟩:=h1
    have hks:(Instr.keyThatStays (((ms[i]?).map (·.key)).getD (a.eval ix)) (a.eval ix)).run P w=.ok (a.eval ix) w:=by
     simp only [h3,Option.map_some,Option.getD_some,h6,Instr.keyThatStays,zrv ri hd,if_true,Sem.run_pure]
    have hmm:zba G.rd (ms.modify i fun e=>{ e with key:=a.eval ix }) es:=by
     refine ⟨by simpa using e2.1,fun n u hu=>?_⟩
     obtain ⟨q,g1,g2,g3,g4⟩:=e2.2 n u hu
     by_cases en:i=n
     ·subst en
      rw [h3] at g1; simp at g1; subst g1
      exact ⟨{ e' with key:=a.eval ix },by simp [Array.getElem?_modify,h3],g2,by rw [← h6]; exact g3,g4⟩
     ·exact ⟨q,by simp [Array.getElem?_modify,en,g1],g2,g3,g4⟩
    obtain ⟨i1,s1⟩:=zqF hinv (w':={ w with heap:=w.heap.setIfInBounds bk (.map (ms.modify i fun e=>{ e with key:=a.eval ix }) es.length) }) hl hob rfl ⟨rfl,rfl,rfl,Nat.le_refl _⟩ hmm
    have hset:H.set id (.mapo es)=H:=by
     apply List.ext_getElem?
     intro n
     by_cases en:id=n
     ·subst en; rw [hob]; simp [(List.getElem?_eq_some_iff.1 hob).1]
     ·rw [List.getElem?_set_ne en]
    rw [hset] at i1
    refine ⟨.tuple #[e'.val,goInt i],_,G, ?_,tup G x'.2 e'.val i (.p _ _ h7),⟨i1,s1⟩,fun _ _ h=>h⟩
    unfold execOp; rw [hop]
    simp only [Instr.mapEntry,Sem.run_bind,zu ht,Result.andThen,ev,MapKept.run_getObj_map e1,hck,MapKept.run_findKey (P:=P) (w:=w) hk h5,hks,MapKept.run_setObj_map _ e1,Sem.run_pure]
    simp only [h3,Option.map_some,Option.getD_some,h4]
 ·exact h.elim
theorem ztP {o:Oper} {t:TypeId} {x s v:Operand} (hop:o.op=.entryStore t x s v) {ρ:Operand→AV} {H:List Ob} {K:AV→List Ob→Prop} (h:zg1 (ρ x) (ρ s) (ρ v) H K):∃ r H',K r H'∧Does P o ρ r H H':=by
 unfold zg1 at h
 split at h
 ·rename_i id kk n vt hx0 hs0 hvt
  split at h
  ·rename_i es hob
   obtain ⟨⟨h0,h1⟩,h⟩:=h
   refine ⟨_,_,h, ?_⟩
   intro a w G hinv hx next Q hn
   have rx:=hx x (by rw [hop]; simp [Op.operands])
   have rs:=hx s (by rw [hop]; simp [Op.operands])
   have rv:=hx v (by rw [hop]; simp [Op.operands])
   rw [hx0] at rx
   rw [hs0] at rs
   have es0:=zd9.1 rs
   obtain ⟨bk,ms,ev,hl,e1,e2⟩:=zpH hinv hob rx
   have hlt:n.toNat < es.length:=by omega
   have hnn:((n.toNat:Nat):Int)=n:=by omega
   obtain ⟨i1,s1⟩:=zqF hinv (w':={ w with heap:=w.heap.setIfInBounds bk (.map (ms.modify n.toNat fun e=>{ e with val:=a.eval v }) (es.set n.toNat ((es.getD n.toNat (default,default)).1,vt)).length) }) hl hob rfl ⟨rfl,rfl,rfl,Nat.le_refl _⟩ (e2.setVal hlt (rv.cellT hvt))
   have hfi:ms.findIdx? (fun e=>(e.born:Int) == n)=some n.toNat:=by
    rw [Array.findIdx?_eq_some_iff_getElem]
    obtain ⟨y,g1,g2,_⟩:=e2.2 n.toNat es[n.toNat] (by simp [hlt])
    have hlt2:n.toNat < ms.size:=by rw [e2.1]; exact hlt
    refine ⟨hlt2, ?_,fun j hj=>?_⟩
    ·rw [Array.getElem?_eq_getElem hlt2] at g1
     simp at g1
     rw [g1,g2,hnn]; simp
    ·have hj2:j < es.length:=by omega
     obtain ⟨y',k1,k2,_⟩:=e2.2 j es[j] (by simp [hj2])
     rw [Array.getElem?_eq_getElem (by omega)] at k1
     simp at k1
     rw [k1,k2]
     simp; omega
   have hexec:(execOp a.eval o).run P w=.ok .skip { w with heap:=w.heap.setIfInBounds bk (.map (ms.modify n.toNat fun e=>{ e with val:=a.eval v }) (es.set n.toNat ((es.getD n.toNat (default,default)).1,vt)).length) }:=by
    unfold execOp; rw [hop]
    have hai:(asInt (Value.int kk n)).run P w=.ok n w:=rfl
    simp only [Instr.entryStore,Sem.run_bind,Sem.run_pure,Result.andThen,ev,es0,MapKept.run_getObj_map e1,hai,hfi,MapKept.run_setObj_map _ e1]
    simp
   unfold Oper.wp
   rw [hexec,Oper.upon_skip]
   exact hn undef _ G (.top _) i1 s1 (fun _ _ h=>h)
  ·exact h.elim
 ·exact h.elim
end Go.Abs
end

section
/- Appending. -/
namespace Go.Abs
variable {P:Program}
def Flat (rd:Rd) (s:Nat) (es:List T) (vs:List Value):Prop :=
 vs.length=es.length * s ∧ ∀ (i j:Nat) (e c:T),es[i]? = some e→e.cells[j]? = some c→∃ v,vs[i * s + j]? = some v∧RepT rd c v∧zQ v=true
theorem Flat.mono {rd rd':Rd} (h:∀ b o c,rd b o=some c→rd' b o=some c) {s:Nat} {es:List T} {vs:List Value} (f:Flat rd s es vs):Flat rd' s es vs :=
 ⟨f.1,fun i j e c he hc=>let ⟨v,h1,h2,h3⟩:=f.2 i j e c he hc; ⟨v,h1,h2.mono h,h3⟩⟩
theorem Flat.append {rd:Rd} {s:Nat} {es ms:List T} {vs us:List Value} (f:Flat rd s es vs) (g:Flat rd s ms us):Flat rd s (es++ms) (vs++us):=by
 refine ⟨by simp [f.1,g.1,Nat.add_mul],fun i j e c he hc=>?_⟩
 rcases Nat.lt_or_ge i es.length with h | h
 ·rw [List.getElem?_append_left h] at he
  obtain ⟨v,h1,h2,h3⟩:=f.2 i j e c he hc
  refine ⟨v, ?_,h2,h3⟩
  rw [List.getElem?_append_left (List.getElem?_eq_some_iff.1 h1).1]
  exact h1
 ·rw [List.getElem?_append_right h] at he
  obtain ⟨v,h1,h2,h3⟩:=g.2 _ j e c he hc
  refine ⟨v, ?_,h2,h3⟩
  have hm:i * s=es.length * s + (i - es.length) * s:=by rw [← Nat.add_mul]; congr 1; omega
  rw [List.getElem?_append_right (by rw [f.1,hm]; omega),f.1,hm]
  rw [show es.length * s + (i - es.length) * s + j - es.length * s=(i - es.length) * s + j by omega]
  exact h1
theorem Flat.rep {rd:Rd} {s:Nat} {es:List T} {vs:List Value} (f:Flat rd s es vs) (hs:∀ e∈es,e.cells.length=s) {b o:Nat} (hrd:∀ (k:Nat) (v:Value),vs[k]? = some v→rd b (o + k)=some v) {cap:Nat}
  (hl:es.length≤maxLen) (hc:es.length≤cap):RepT rd (.slice es) (.slice (some ⟨b,o,none⟩) es.length cap):=by
 refine .slice es b o cap s (fun i j=>vs.getD (i * s + j) undef) hs (fun i j e c he hc=>?_) (fun i j e c he hc=>?_) (fun i j e c he hc=>?_) hl hc
 ·obtain ⟨v,h1,_,_⟩:=f.2 i j e c he hc
  rw [List.getD_eq_getElem?_getD,h1,Nat.add_assoc]
  exact hrd _ _ h1
 ·obtain ⟨v,h1,h2,_⟩:=f.2 i j e c he hc
  rw [List.getD_eq_getElem?_getD,h1]
  exact h2
 ·obtain ⟨v,h1,_,h3⟩:=f.2 i j e c he hc
  rw [List.getD_eq_getElem?_getD,h1]
  exact h3
theorem zin {w:World} {G:Gh} {H:List Ob} (hi:Inv w G H) {es:List T} {s:Nat} {a:Option Addr} {cap:Nat} (hr:RepT G.rd (.slice es) (.slice a es.length cap)) (hs:∀ e∈es,e.cells.length=s) :
  ∃ vs:List Value,(∀ w':World,w'.heap=w.heap→(Builtin.firstCells s es.length (.slice a es.length cap)).run P w'=.ok vs.toArray w')∧Flat G.rd s es vs ∧ ∀ u∈vs,zQ u=true:=by
 by_cases h0:es=[]
 ·subst h0
  refine ⟨[],fun w' _=>?_,⟨by simp,fun i j e c he=>by simp at he⟩,by simp⟩
  cases a with
  | none=>rfl
  | some a=>simp [Builtin.firstCells,loadCells,loadCellsFrom]
 ·generalize hv:Value.slice a es.length cap=v at hr
  generalize hes:es=es' at hr
  cases hr with
  | nil=>exact absurd hes h0
  | slice _ b o cap' s' val hs' hrd hvv hk hl hc =>
   subst hes
   injection hv with e1 e2 e3
   subst e1
   have hne:0 < es.length:=List.length_pos_iff.2 h0
   have hss:s'=s:=by rw [← hs' _ (List.getElem_mem hne),hs _ (List.getElem_mem hne)]
   subst hss
   have look:∀ k,k < es.length * s'→∃ e c,es[k / s']? = some e∧e.cells[k % s']? = some c:=by
    intro k hk
    have hpos:0 < s':=by
     rcases Nat.eq_zero_or_pos s' with h | h
     ·subst h; simp at hk
     ·exact h
    have h1:k / s' < es.length:=Nat.div_lt_of_lt_mul (by rw [Nat.mul_comm]; exact hk)
    have h2:k % s' < (es[k / s']).cells.length:=by rw [hs _ (List.getElem_mem h1)]; exact Nat.mod_lt _ hpos
    exact ⟨es[k / s'],(es[k / s']).cells[k % s'],List.getElem?_eq_getElem h1,List.getElem?_eq_getElem h2⟩
   refine ⟨(List.range (es.length * s')).map (fun k=>val (k / s') (k % s')),fun w' hw=>?_,⟨by simp,fun i j e c he hc=>?_⟩,fun u hu=>?_⟩
   ·simp only [Builtin.firstCells]
    refine run_loadCells w' ⟨b,o,none⟩ _ _ (fun k hk=>?_)
    obtain ⟨e,c,he,hc⟩:=look k hk
    have:=(zs0 hi hw).rd _ _ _ (hrd _ _ e c he hc)
    rw [zbb]
    rw [← this]
    congr 2
    have:=Nat.div_add_mod k s'
    rw [Nat.mul_comm] at this
    omega
   ·have hj:j < s':=by
     have:=(List.getElem?_eq_some_iff.1 hc).1
     rwa [hs e (List.mem_of_getElem? he)] at this
    have hi':i < es.length:=(List.getElem?_eq_some_iff.1 he).1
    have hlt:i * s' + j < es.length * s':=by
     have:(i + 1) * s'≤es.length * s':=Nat.mul_le_mul_right _ hi'
     rw [Nat.add_mul] at this
     omega
    have hd:(i * s' + j) / s'=i:=by
     rw [Nat.add_comm,Nat.add_mul_div_right _ _ (by omega),Nat.div_eq_of_lt hj]; omega
    have hm:(i * s' + j) % s'=j:=by
     rw [Nat.add_comm,Nat.add_mul_mod_self_right,Nat.mod_eq_of_lt hj]
    exact ⟨val i j,by simp [hlt,hd,hm],hvv i j e c he hc,hk i j e c he hc⟩
   ·simp only [List.mem_map,List.mem_range] at hu
    obtain ⟨k,hk',rfl⟩:=hu
    obtain ⟨e,c,he,hc⟩:=look k hk'
    exact hk _ _ e c he hc
theorem zpx {w:World} (rd:Rd) (l:List UInt8) :
  ∃ vs:List Value,(Builtin.firstCells 1 l.length (.string ⟨l.toArray⟩)).run P w=.ok vs.toArray w∧Flat rd 1 (l.map byteT) vs ∧ ∀ u∈vs,zQ u=true:=by
 refine ⟨l.map fun b=>.int .u8 b.toNat, ?_,⟨by simp,fun i j e c he hc=>?_⟩,fun u hu=>?_⟩
 ·simp only [Builtin.firstCells,Sem.run_pure]
  congr 1
  apply Array.ext'
  simp [ByteArray.data_extract]
 ·simp only [List.getElem?_map,Option.map_eq_some_iff] at he
  obtain ⟨b,hb,rfl⟩:=he
  have hj:j=0:=by
   have:=(List.getElem?_eq_some_iff.1 hc).1
   simp [byteT,T.cells] at this
   exact this
  subst hj
  simp [byteT,T.cells] at hc
  subst hc
  exact ⟨.int .u8 b.toNat,by simp [hb],.int _ _,rfl⟩
 ·simp only [List.mem_map] at hu
  obtain ⟨b,_,rfl⟩:=hu
  rfl
theorem zy2 (n:Nat):∀ (r c:Nat),c≤2 * n + 768→Builtin.growBy n r c≤2 * n + 768
 | 0,c,h=>h
 | r + 1,c,h=>by
  simp only [Builtin.growBy]
  split
  ·exact h
  ·exact zy2 n r _ (by omega)
theorem zvt (n c:Nat) (h:c < n):Builtin.nextslicecap n c≤2 * n + 768:=by
 unfold Builtin.nextslicecap
 split
 ·omega
 ·split
  ·omega
  ·exact zy2 n 4 c (by omega)
theorem zgv {t u e:TypeId} {d:TypeDesc} {i:TypeInfo} {ty:TypeId} (ht:P.underlying t=some (.slice e)) (hu:P.underlying u=some d) (hd:(∃ e',d=.slice e')∨d=.string) (hi:P.info? e=some i) {z:Value} (hz:i.zero=some z)
  {a:Option Addr} {n cap m:Nat} {x:Value} {w:World} {vs us:List Value} (hlen:(Builtin.lenOf x).run P w=.ok m w) (hno:¬ n + m≤cap)
  (hbig:(n + m) * (i.bytes + 1)≤2 ^ 40) (heb:i.bytes≤2 ^ 20)
  (hv:∀ w':World,w'.heap=w.heap→(Builtin.firstCells i.size n (.slice a n cap)).run P w'=.ok vs.toArray w') (hus:∀ w':World,w'.heap=w.heap→(Builtin.firstCells i.size m x).run P w'=.ok us.toArray w') :
  ∃ c',n + m≤c'∧(Builtin.append_ #[t,u] ty #[.slice a n cap,x]).run P w =
   .ok (.slice (some ⟨w.heap.size,0,none⟩) (n + m) c') { w with heap:=w.heap.push (.cells (vs.toArray++us.toArray++Builtin.zeroCells z.cells (c' - (n + m))) e),drawn:=w.drawn + 1 }:=by
 refine ⟨(Question.appendCap (n + m) cap e).cut (w.tape w.drawn (.appendCap (n + m) cap e)),by simp only [Question.cut]; exact Nat.le_add_right _ _, ?_⟩
 have hnm:n + m≤2 ^ 40:=Nat.le_trans (Nat.le_mul_of_pos_right _ (by omega)) hbig
 have h63:¬ (9223372036854775807 < ((n:Int) + (m:Int))):=by omega
 have h48:¬ 281474976710656 < Builtin.nextslicecap (n + m) cap * i.bytes:=by
  have h1:=zvt (n + m) cap (by omega)
  have h2:Builtin.nextslicecap (n + m) cap * i.bytes≤(2 * (n + m) + 768) * i.bytes:=Nat.mul_le_mul_right _ h1
  have h3:(2 * (n + m) + 768) * i.bytes=2 * ((n + m) * i.bytes) + 768 * i.bytes:=by rw [Nat.add_mul,Nat.mul_assoc]
  have h4:(n + m) * i.bytes≤2 ^ 40:=Nat.le_trans (Nat.mul_le_mul_left _ (by omega)) hbig
  omega
 have hv':=hv w.drew rfl
 have hus':=hus w.drew rfl
 rcases hd with ⟨e',rfl⟩ | rfl
 ·simp [Builtin.append_,zu ht,zu hu,sizeOf,typeInfo,zeroValue,hi,hz,hlen,hno,h63,h48,Question.forced,hv',hus',newRow]
  rw [show ∀ R:Array Value,vs.toArray++(us.toArray++R)=(vs++us).toArray++R from fun R=>by apply Array.ext'; simp]
  rfl
 ·simp [Builtin.append_,zu ht,zu hu,sizeOf,typeInfo,zeroValue,hi,hz,hlen,hno,h63,h48,Question.forced,hv',hus',newRow]
  rw [show ∀ R:Array Value,vs.toArray++(us.toArray++R)=(vs++us).toArray++R from fun R=>by apply Array.ext'; simp]
  rfl
theorem zcV {t u e:TypeId} {d:TypeDesc} {i:TypeInfo} {ty:TypeId} (ht:P.underlying t=some (.slice e)) (hu:P.underlying u=some d) (hd:(∃ e',d=.slice e')∨d=.string) (hi:P.info? e=some i)
  {a:Option Addr} {n cap m:Nat} {x:Value} {w w':World} {us:List Value} (hlen:(Builtin.lenOf x).run P w=.ok m w) (hno:n + m≤cap) (hus:(Builtin.firstCells i.size m x).run P w=.ok us.toArray w)
  (hst:match a with | some a=>(storeCells (a.add (n * i.size)) us).run P w=.ok () w' | none=>w'=w) :
  (Builtin.append_ #[t,u] ty #[.slice a n cap,x]).run P w=.ok (.slice a (n + m) cap) w':=by
 rcases hd with ⟨e',rfl⟩ | rfl <;> cases a with
 | none =>
  simp only [] at hst
  subst hst
  simp [Builtin.append_,zu ht,zu hu,sizeOf,typeInfo,hi,hlen,hno,hus]
 | some a =>
  simp only [] at hst
  simp [Builtin.append_,zu ht,zu hu,sizeOf,typeInfo,hi,hlen,hno,hus,hst]
theorem zof {b o:Nat} {ty:TypeId} {fr:Nat×Nat}:∀ (vs:List Value) (w:World) (cs:Array Value) (i:Nat),w.heap[b]? = some (.cells cs ty fr)→o + i + vs.length≤cs.size→(∀ v∈vs,zQ v=true) →
  (∀ k,i≤k→k < i + vs.length→(decide (fr.1≤o + k) && decide (o + k < fr.2))=false) →
  (storeCells ⟨b,o,none⟩ vs i).run P w=.ok () { w with heap:=w.heap.setIfInBounds b (.cells (setR cs (o + i) vs) ty fr) }
 | [],w,cs,i,hb,_,_,_=>by
  simp only [storeCells,Sem.run_pure,setR]
  congr 1
  have hlt:b < w.heap.size:=(Array.getElem?_eq_some_iff.1 hb).1
  have hv:w.heap[b]=.cells cs ty fr:=(Array.getElem?_eq_some_iff.1 hb).2
  have:w.heap.setIfInBounds b (.cells cs ty fr)=w.heap:=by
   apply Array.ext_getElem?
   intro j
   rw [Array.getElem?_setIfInBounds]
   split
   ·rename_i h; subst h; simp [hlt,hv]
   ·rfl
  rw [this]
 | v::vs,w,cs,i,hb,hl,hs,hf=>by
  simp only [List.length_cons] at hl hf
  have hv:v.oneCell'=true:=by
   have:=hs v (by simp)
   cases v <;> first | rfl | simp [zQ] at this
  have hcell:w.cell? ⟨b,o + i,none⟩=some cs[o + i]:=by
   unfold World.cell?
   simp [hb,Array.getElem?_eq_getElem (show o + i < cs.size by omega)]
  have hfr:w.frozen? ⟨b,o + i,none⟩=false:=by
   unfold World.frozen?
   simp only [hb]
   exact hf i (Nat.le_refl _) (by omega)
  have hlt:b < w.heap.size:=(Array.getElem?_eq_some_iff.1 hb).1
  simp only [storeCells,Sem.run_bind,zbb,run_store P w _ v _ hv,hcell,hfr,Bool.false_eq_true,if_false,Result.andThen]
  rw [ztu hb]
  rw [zof (ty:=ty) (fr:=fr) vs _ (cs.setIfInBounds (o + i) v) (i + 1) (by simp [hlt]) (by simp; omega) (fun u hu=>hs u (by simp [hu])) (fun k h1 h2=>hf k (by omega) (by omega))]
  simp only [setR,Nat.add_assoc]
  congr 2
  apply Array.ext_getElem?
  intro j
  simp only [Array.getElem?_setIfInBounds,Array.size_setIfInBounds]
  by_cases h:b=j
  ·rw [if_pos h,if_pos h]
  ·rw [if_neg h,if_neg h,if_neg h]
theorem zm0 {w:World} {G:Gh} {H:List Ob} (hi:Inv w G H) (l:Loc) (ob:Ob) (hb:l.blk=none) (hl:Holds w (G.withLoc H.length l) l ob) :
  Inv w (G.withLoc H.length l) (H++[ob])∧Step w G w (G.withLoc H.length l):=by
 have hn:G.loc H.length=none:=hi.loc_none (Nat.le_refl _)
 have hg:Grow G (G.withLoc H.length l):=by
  refine ⟨fun _ _ _ e=>e,fun id l' e=>⟨l', ?_,.refl l'⟩⟩
  have:id≠H.length:=Nat.ne_of_lt (hi.loc_lt e)
  simp only [Gh.withLoc,if_neg this]
  exact e
 have hcase:∀ id b,(G.withLoc H.length l).blk id=some b→G.blk id=some b:=by
  intro id b e
  simp only [Gh.blk,Gh.withLoc] at e
  split at e
  ·simp [hb] at e
  ·exact e
 refine ⟨⟨hi.rd,fun id l' e=>?_,fun i j b e1 e2=>hi.dis i j b (hcase i b e1) (hcase j b e2),hi.tab⟩,fun n=>⟨rfl,rfl,rfl,Nat.le_refl _,Nat.le_refl _,fun _ _ _=>rfl,fun _ _ _ e=>e,fun _ _ _ e=>.inl e,fun id _ l' e=>hg.loc id l' e,fun id b e=>.inr ⟨id,hcase id b e⟩⟩⟩
 simp only [Gh.withLoc] at e
 split at e
 ·rename_i h
  subst h
  simp at e; subst e
  exact ⟨ob,by simp,hl⟩
 ·obtain ⟨ob',ho,hl'⟩:=hi.obj id l' e
  refine ⟨ob', ?_,hl'.keep hg (Nat.le_refl _) (fun b _=>⟨rfl,fun _ h=>h⟩)⟩
  rw [List.getElem?_append_left (hi.loc_lt e)]
  exact ho
theorem zi2 {w:World} {G:Gh} {H:List Ob} (hi:Inv w G H) {id ver s:Nat} {es:List T} (ho:H[id]? = some (.mrow ver s es)∨H[id]? = some (.frow ver s es)) {a:Option Addr} {cap v3 s3:Nat} (hl:G.loc id=some (.mrow a cap v3 s3)) :
  v3=ver∧s3=s∧es.length≤cap∧(∀ e∈es,e.cells.length=s)∧(0 < cap→∃ (b o:Nat) (f:Nat→Nat→Value),a=some ⟨b,o,none⟩ ∧
   ∀ i j e c,es[i]? = some e→e.cells[j]? = some c→w.cell? ⟨b,o + i * s + j,none⟩=some (f i j)∧RepT G.rd c (f i j)∧zQ (f i j)=true):=by
 obtain ⟨ob,ho2,hh⟩:=hi.obj id _ hl
 rcases ho with ho | ho
 ·rw [ho] at ho2; simp at ho2; subst ho2
  obtain ⟨⟨rfl,rfl,h1,h2⟩,h3⟩:=hh
  refine ⟨rfl,rfl,h1,h2,fun hc=>?_⟩
  obtain ⟨b,o,e1,⟨cs,ty,e2,e3,e4⟩,_⟩:=h3 hc
  refine ⟨b,o,fun i j=>cs.getD (o + i * s3 + j) undef,e1,fun i j e c he hcj=>⟨?_,e4 i j e c he hcj⟩⟩
  have hj:j < s3:=by
   have:=(List.getElem?_eq_some_iff.1 hcj).1
   rwa [h2 e (List.mem_of_getElem? he)] at this
  have hi3:i < cap:=by have:=(List.getElem?_eq_some_iff.1 he).1; omega
  have hmul:(i + 1) * s3≤cap * s3:=Nat.mul_le_mul_right _ hi3
  rw [Nat.add_mul] at hmul
  have hlt:o + i * s3 + j < cs.size:=by omega
  unfold World.cell?
  simp [e2,Array.getElem?_eq_getElem hlt,Array.getD_eq_getD_getElem?]
 ·rw [ho] at ho2; simp at ho2; subst ho2
  obtain ⟨⟨rfl,rfl,h1,h2⟩,h3⟩:=hh
  refine ⟨rfl,rfl,h1,h2,fun hc=>?_⟩
  obtain ⟨b,o,e1,_,e4⟩:=h3 hc
  refine ⟨b,o,fun i j=>(G.rd b (o + i * s3 + j)).getD undef,e1,fun i j e c he hcj=>?_⟩
  obtain ⟨u,g1,g2,g3⟩:=e4 i j e c he hcj
  have e5:(G.rd b (o + i * s3 + j)).getD undef=u:=by rw [g1]; rfl
  simp only [e5]
  exact ⟨hi.rd _ _ _ g1,g2,g3⟩
theorem zpw {w:World} {rd:Rd} {b o n s cap:Nat} {ms:List T} (f:Nat→Nat→Value) (hn:ms.length=n) (hs:∀ e∈ms,e.cells.length=s)
  (h:∀ i j e c,ms[i]? = some e→e.cells[j]? = some c→w.cell? ⟨b,o + i * s + j,none⟩=some (f i j)∧RepT rd c (f i j)∧zQ (f i j)=true) :
  ∃ vs:List Value,(∀ w':World,w'.heap=w.heap→(Builtin.firstCells s n (.slice (some ⟨b,o,none⟩) n cap)).run P w'=.ok vs.toArray w')∧Flat rd s ms vs ∧ ∀ u∈vs,zQ u=true:=by
 subst hn
 have look:∀ k,k < ms.length * s→∃ e c,ms[k / s]? = some e∧e.cells[k % s]? = some c:=by
  intro k hk
  have hpos:0 < s:=by
   rcases Nat.eq_zero_or_pos s with h | h
   ·subst h; simp at hk
   ·exact h
  have h1:k / s < ms.length:=Nat.div_lt_of_lt_mul (by rw [Nat.mul_comm]; exact hk)
  have h2:k % s < (ms[k / s]).cells.length:=by rw [hs _ (List.getElem_mem h1)]; exact Nat.mod_lt _ hpos
  exact ⟨ms[k / s],(ms[k / s]).cells[k % s],List.getElem?_eq_getElem h1,List.getElem?_eq_getElem h2⟩
 refine ⟨(List.range (ms.length * s)).map (fun k=>f (k / s) (k % s)),fun w' hw=>?_,⟨by simp,fun i j e c he hc=>?_⟩,fun u hu=>?_⟩
 ·simp only [Builtin.firstCells]
  refine run_loadCells w' ⟨b,o,none⟩ _ _ (fun k hk=>?_)
  obtain ⟨e,c,he,hc⟩:=look k hk
  have:=(h _ _ e c he hc).1
  rw [zbb]
  unfold World.cell? at this ⊢
  rw [hw,← this]
  have:=Nat.div_add_mod k s
  rw [Nat.mul_comm] at this
  rw [show o + k=o + k / s * s + k % s by omega]
 ·have hj:j < s:=by
   have:=(List.getElem?_eq_some_iff.1 hc).1
   rwa [hs e (List.mem_of_getElem? he)] at this
  have hi':i < ms.length:=(List.getElem?_eq_some_iff.1 he).1
  have hlt:i * s + j < ms.length * s:=by
   have:(i + 1) * s≤ms.length * s:=Nat.mul_le_mul_right _ hi'
   rw [Nat.add_mul] at this
   omega
  have hd:(i * s + j) / s=i:=by
   rw [Nat.add_comm,Nat.add_mul_div_right _ _ (by omega),Nat.div_eq_of_lt hj]; omega
  have hm:(i * s + j) % s=j:=by
   rw [Nat.add_comm,Nat.add_mul_mod_self_right,Nat.mod_eq_of_lt hj]
  exact ⟨f i j,by simp [hlt,hd,hm],(h i j e c he hc).2.1,(h i j e c he hc).2.2⟩
 ·simp only [List.mem_map,List.mem_range] at hu
  obtain ⟨k,hk',rfl⟩:=hu
  obtain ⟨e,c,he,hc⟩:=look k hk'
  exact (h _ _ e c he hc).2.2
theorem zBW {w w':World} {G:Gh} {H:List Ob} (hi:Inv w G H) {id cap cap' v v' s:Nat} {a a':Option Addr} {es':List T} (hl:G.loc id=some (.mrow a cap v s)) (hv:v < v') (hs:Same w w') (hsize:w.heap.size≤w'.heap.size)
  (hother:∀ k,k < w.heap.size→G.blk id≠some k→w'.heap[k]? = w.heap[k]?) (hnb:∀ b,Loc.blk (.mrow a' cap' v' s)=some b→G.blk id=some b∨w.heap.size≤b) (hrd:∀ b o c,G.rd b o=some c→w'.cell? ⟨b,o,none⟩=some c) (htab:TabOk w' G.rd)
  (hh:Holds w' (G.withLoc id (.mrow a' cap' v' s)) (.mrow a' cap' v' s) (.mrow v' s es')) :
  Inv w' (G.withLoc id (.mrow a' cap' v' s)) (H.set id (.mrow v' s es'))∧Step w G w' (G.withLoc id (.mrow a' cap' v' s)):=by
 have hidl:id < H.length:=hi.loc_lt hl
 have hg:Grow G (G.withLoc id (.mrow a' cap' v' s)):=by
  refine ⟨fun _ _ _ e=>e,fun j l e=>?_⟩
  simp only [Gh.withLoc]
  by_cases hj:j=id
  ·subst hj
   rw [hl] at e; simp at e; subst e
   rw [if_pos rfl]
   exact ⟨_,rfl,.mrow _ _ _ _ _ _ _ (by omega) (fun h=>by omega)⟩
  ·rw [if_neg hj]
   exact ⟨l,e,.refl l⟩
 have hcase:∀ j k,(G.withLoc id (.mrow a' cap' v' s)).blk j=some k→(j=id∧w.heap.size≤k)∨G.blk j=some k:=by
  intro j k e
  simp only [Gh.blk,Gh.withLoc] at e
  split at e
  ·rename_i hj
   subst hj
   rcases hnb k (by simpa using e) with h | h
   ·exact .inr h
   ·exact .inl ⟨rfl,h⟩
  ·exact .inr e
 refine ⟨⟨fun b o c e=>hrd b o c e,fun j l e=>?_,fun i j k e1 e2=>?_,htab⟩,fun n=>⟨hs.os,hs.tape,hs.output,hs.drawn,hsize,fun k hk hn=>hother k hk (hn id),fun _ _ _ h=>h,fun _ _ _ h=>.inl h,fun j _ l h=>hg.loc j l h,fun j k h=>?_⟩⟩
 ·by_cases hj:j=id
  ·subst hj
   simp [Gh.withLoc] at e; subst e
   exact ⟨.mrow v' s es',by simp [hidl],hh⟩
  ·simp [Gh.withLoc,hj] at e
   obtain ⟨ob,ho2,hh2⟩:=hi.obj j l e
   refine ⟨ob,by rw [List.getElem?_set_ne (fun h=>hj h.symm)]; exact ho2,hh2.keep hg hsize (fun k hk=>?_)⟩
   have hjk:G.blk j=some k:=by simp [Gh.blk,e,hk]
   exact ⟨hother k (hi.blk_lt hjk) (fun h=>hj (hi.dis j id k hjk h)),fun _ h=>h⟩
 ·rcases hcase i k e1 with ⟨h1,h2⟩ | h1 <;> rcases hcase j k e2 with ⟨h3,h4⟩ | h3
  ·omega
  ·have:=hi.blk_lt h3; omega
  ·have:=hi.blk_lt h1; omega
  ·exact hi.dis i j k h1 h3
 ·rcases hcase j k h with ⟨_,h2⟩ | h2
  ·exact .inl h2
  ·exact .inr ⟨j,h2⟩
theorem zFT {w w':World} {G:Gh} {H:List Ob} (hi:Inv w G H) {id:Nat} {a:Option Addr} {cap n s:Nat} (hloc:G.loc id=some (.row a cap n s)) {cs:Array Value} {ty:TypeId} (hh:w'.heap=w.heap.push (.cells cs ty)) (hs:Same w w')
  (r:Nat→Option Value) (hr:∀ o c,r o=some c→cs[o]? = some c) {cap' n':Nat} (hn:n < n') (hc:n'≤cap') (hsz:cap' * s≤cs.size) (hsp:∀ k,n' * s≤k→r k=none) :
  Inv w' ((G.withRd w.heap.size r).withLoc id (.row (some ⟨w.heap.size,0,none⟩) cap' n' s)) (H.set id (.row n' s))∧Step w G w' ((G.withRd w.heap.size r).withLoc id (.row (some ⟨w.heap.size,0,none⟩) cap' n' s)):=by
 obtain ⟨i1,s1⟩:=zif hi hh hs r hr
 have hsize:w'.heap.size=w.heap.size + 1:=by rw [hh]; simp
 have hidl:=hi.loc_lt hloc
 generalize hG:(G.withRd w.heap.size r).withLoc id (.row (some ⟨w.heap.size,0,none⟩) cap' n' s)=G'
 have erd:G'.rd=(G.withRd w.heap.size r).rd:=by rw [← hG]; rfl
 have eloc:∀ j,G'.loc j=if j=id then some (.row (some ⟨w.heap.size,0,none⟩) cap' n' s) else G.loc j:=by intro j; rw [← hG]; rfl
 have hgrow:∀ j l,G.loc j=some l→∃ l',G'.loc j=some l'∧l.le l':=by
  intro j l e
  rw [eloc]
  split
  ·rename_i h
   subst h
   rw [hloc] at e; simp at e; subst e
   exact ⟨_,rfl,.row _ _ _ _ _ _ _ (by omega) (fun h=>by omega)⟩
  ·exact ⟨l,e,.refl l⟩
 have hg:Grow G G':=⟨fun b o c e=>by rw [erd]; exact s1.grow.rd b o c e,hgrow⟩
 have hcase:∀ j b,G'.blk j=some b→(j=id∧b=w.heap.size)∨(j≠id∧G.blk j=some b):=by
  intro j b e
  unfold Gh.blk at e
  rw [eloc] at e
  split at e
  ·rename_i h
   simp only [Option.bind_some,Loc.blk] at e
   split at e
   ·simp at e; exact .inl ⟨h,e.symm⟩
   ·simp at e
  ·rename_i h; exact .inr ⟨h,e⟩
 refine ⟨⟨fun b o c e=>i1.rd b o c (by rw [← erd]; exact e),fun j l e=>?_,fun i j b e1 e2=>?_,by rw [erd]; exact i1.tab⟩,fun m=>⟨hs.os,hs.tape,hs.output,hs.drawn,by omega,(s1 m).keep,hg.rd,fun b o c e=>(s1 m).rdn b o c (by rw [← erd]; exact e),fun j _ l e=>hgrow j l e,fun j b e=>?_⟩⟩
 ·rw [eloc] at e
  split at e
  ·rename_i h
   subst h
   simp at e; subst e
   refine ⟨.row n' s,by simp [hidl],rfl,rfl,hc,fun hlt=>⟨w.heap.size,0,rfl,⟨cs,ty,(0,0),by rw [hh]; simp,by omega⟩,fun k h1 h2=>⟨?_, ?_⟩⟩⟩
   ·unfold World.frozen?
    simp [hh]
   ·rw [erd]
    simp only [Gh.withRd,if_true,Nat.zero_add]
    exact hsp k h1
  ·rename_i hj
   obtain ⟨ob,ho,hl⟩:=i1.obj j l e
   refine ⟨ob,by rw [List.getElem?_set_ne (fun h=>hj h.symm)]; exact ho,hl.keep ⟨fun b o c e=>by rw [erd]; exact e,hgrow⟩ (Nat.le_refl _) (fun b _=>⟨rfl,fun o h=>by rw [erd]; exact h⟩)⟩
 ·rcases hcase i b e1 with ⟨h1,h2⟩ | ⟨h1,h2⟩ <;> rcases hcase j b e2 with ⟨h3,h4⟩ | ⟨h3,h4⟩
  ·omega
  ·have:=hi.blk_lt h4; omega
  ·have:=hi.blk_lt h2; omega
  ·exact hi.dis i j b h2 h4
 ·rcases hcase j b e with ⟨_,h2⟩ | ⟨_,h2⟩
  ·exact .inl (by omega)
  ·exact .inr ⟨j,h2⟩
theorem zFE {w w':World} {G:Gh} {H:List Ob} (hi:Inv w G H) {id b o cap n s:Nat} (hloc:G.loc id=some (.row (some ⟨b,o,none⟩) cap n s)) {n':Nat} (hn:n < n') (hc:n'≤cap)
  {cs cs':Array Value} {ty:TypeId} {fr:Nat×Nat} (hb:w.heap[b]? = some (.cells cs ty fr)) (hh:w'.heap=w.heap.setIfInBounds b (.cells cs' ty fr)) (hs:Same w w') (hsz:cs'.size=cs.size)
  (hsame:∀ k,¬ (o + n * s≤k∧k < o + n' * s)→cs'[k]? = cs[k]?) :
  Inv w' (({ G with rd:=fun b' k=>if b'=b∧o + n * s≤k∧k < o + n' * s then cs'[k]? else G.rd b' k }:Gh).withLoc id (.row (some ⟨b,o,none⟩) cap n' s)) (H.set id (.row n' s)) ∧
  Step w G w' (({ G with rd:=fun b' k=>if b'=b∧o + n * s≤k∧k < o + n' * s then cs'[k]? else G.rd b' k }:Gh).withLoc id (.row (some ⟨b,o,none⟩) cap n' s)):=by
 obtain ⟨ob,ho,hh'⟩:=hi.obj id _ hloc
 have hidl:=hi.loc_lt hloc
 cases ob with
 | box _=>exact hh'.elim
 | fz _=>exact hh'.elim
 | mrow _ _ _=>exact hh'.elim
 | frow _ _ _=>exact hh'.elim
 | mapo _=>exact hh'.elim
 | mode=>exact hh'.elim
 | row n0 s0 =>
  obtain ⟨rfl,rfl,_,hsp⟩:=hh'
  obtain ⟨b0,o0,ha,⟨cs0,ty0,fr0,e5,e6⟩,e7⟩:=hsp (by omega)
  simp at ha
  obtain ⟨rfl,rfl⟩:=ha
  rw [hb] at e5; simp at e5
  obtain ⟨rfl,rfl,rfl⟩:=e5
  have hblt:b < w.heap.size:=(Array.getElem?_eq_some_iff.1 hb).1
  have hmul:n' * s≤cap * s:=Nat.mul_le_mul_right _ hc
  have hother:∀ k,k≠b→w'.heap[k]? = w.heap[k]?:=fun k hk=>by rw [hh,Array.getElem?_setIfInBounds,if_neg (fun e=>hk e.symm)]
  have hhere:w'.heap[b]? = some (.cells cs' ty fr):=by rw [hh]; simp [hblt]
  have hblk:G.blk id=some b:=by simp only [Gh.blk,hloc,Option.bind_some,Loc.blk]; rw [if_pos (by omega)]
  have hspare:∀ k,o + n * s≤k→k < o + n' * s→G.rd b k=none:=by
   intro k h1 h2
   have:=(e7 (k - o) (by omega) (by omega)).2
   rwa [show o + (k - o)=k by omega] at this
  generalize hG:(({ G with rd:=fun b' k=>if b'=b∧o + n * s≤k∧k < o + n' * s then cs'[k]? else G.rd b' k }:Gh).withLoc id (.row (some ⟨b,o,none⟩) cap n' s))=G'
  have erd:∀ b' k,G'.rd b' k=if b'=b∧o + n * s≤k∧k < o + n' * s then cs'[k]? else G.rd b' k:=by intro b' k; rw [← hG]; rfl
  have eloc:∀ j,G'.loc j=if j=id then some (.row (some ⟨b,o,none⟩) cap n' s) else G.loc j:=by intro j; rw [← hG]; rfl
  have hrd:∀ b' k c,G.rd b' k=some c→G'.rd b' k=some c:=by
   intro b' k c e
   rw [erd]
   split
   ·rename_i h
    obtain ⟨rfl,h1,h2⟩:=h
    rw [hspare k h1 h2] at e; simp at e
   ·exact e
  have hgrow:∀ j l,G.loc j=some l→∃ l',G'.loc j=some l'∧l.le l':=by
   intro j l e
   rw [eloc]
   split
   ·rename_i h
    subst h
    rw [hloc] at e; simp at e; subst e
    exact ⟨_,rfl,.row _ _ _ _ _ _ _ (by omega) (fun h=>by omega)⟩
   ·exact ⟨l,e,.refl l⟩
  have hcase:∀ j b',G'.blk j=some b'→G.blk j=some b':=by
   intro j b' e
   unfold Gh.blk at e
   rw [eloc] at e
   split at e
   ·rename_i h
    subst h
    simp only [Option.bind_some,Loc.blk] at e
    split at e
    ·simp at e; rw [← e]; exact hblk
    ·simp at e
   ·exact e
  have htab:TabOk w' G'.rd:=by
   intro g tc hm
   obtain ⟨⟨ty0,fr0,e⟩,hne,hc⟩:=hi.tab g tc hm
   refine ⟨?_,hne,fun k v h=>hrd _ _ _ (hc k v h)⟩
   by_cases hg:g=b
   ·subst hg
    rw [hb] at e
    simp only [Option.some.injEq,Obj.cells.injEq] at e
    obtain ⟨e0,_,_⟩:=e
    have:cs'=tc.toArray:=by
     apply Array.ext_getElem?
     intro k
     by_cases hk:o + n * s≤k∧k < o + n' * s
     ·have hn:=hspare k hk.1 hk.2
      have h2:tc[k]? = none:=by
       cases h:tc[k]? with
       | none=>rfl
       | some v=>rw [hc k v h] at hn; simp at hn
      have hlen:tc.length≤k:=by simpa using h2
      rw [Array.getElem?_eq_none (by rw [hsz,e0]; simpa using hlen),Array.getElem?_eq_none (by simpa using hlen)]
     ·rw [hsame k hk,e0]
    rw [hhere,this]
    exact ⟨_,_,rfl⟩
   ·rw [hother g hg]
    exact ⟨ty0,fr0,e⟩
  refine ⟨⟨fun b' k c e=>?_,fun j l e=>?_,fun i j b' e1 e2=>hi.dis i j b' (hcase i b' e1) (hcase j b' e2),htab⟩,
   fun m=>⟨hs.os,hs.tape,hs.output,hs.drawn,by rw [hh]; simp,fun k hk hno=>hother k (fun e=>hno id (e ▸ hblk)),hrd,fun b' k c e=>?_,fun j _ l e=>hgrow j l e,fun j b' e=>.inr ⟨j,hcase j b' e⟩⟩⟩
  ·rw [erd] at e
   split at e
   ·rename_i h
    obtain ⟨rfl,_,_⟩:=h
    unfold World.cell?
    simp [hhere,e]
   ·rename_i h
    have h1:=hi.rd b' k c e
    by_cases hbb:b'=b
    ·subst hbb
     unfold World.cell? at h1 ⊢
     simp only [hhere,hb] at h1 ⊢
     simp only [Option.isSome_none,Bool.false_eq_true,if_false] at h1 ⊢
     rw [hsame k (fun hk=>h ⟨rfl,hk⟩)]
     exact h1
    ·unfold World.cell? at h1 ⊢
     simpa [hother b' hbb] using h1
  ·rw [eloc] at e
   split at e
   ·rename_i h
    subst h
    simp at e; subst e
    refine ⟨.row n' s,by simp [hidl],rfl,rfl,hc,fun hlt=>⟨b,o,rfl,⟨cs',ty,fr,hhere,by omega⟩,fun k h1 h2=>?_⟩⟩
    have hk1:n * s≤k:=Nat.le_trans (Nat.mul_le_mul_right _ (by omega)) h1
    obtain ⟨g1,g2⟩:=e7 k hk1 h2
    refine ⟨?_, ?_⟩
    ·unfold World.frozen? at g1 ⊢
     simp only [hb] at g1
     simp only [hhere]
     exact g1
    ·rw [erd,if_neg (by omega)]
     exact g2
   ·rename_i hj
    obtain ⟨ob,ho2,hl⟩:=hi.obj j l e
    refine ⟨ob,by rw [List.getElem?_set_ne (fun h=>hj h.symm)]; exact ho2,hl.keep ⟨hrd,hgrow⟩ (by rw [hh]; simp) (fun k hk=>?_)⟩
    have hkb:k≠b:=by
     intro h
     subst h
     exact hj (hi.dis j id k (by simp [Gh.blk,e,hk]) hblk)
    exact ⟨hother k hkb,fun o' h=>by rw [erd,if_neg (fun hx=>hkb hx.1)]; exact h⟩
  ·rw [erd] at e
   split at e
   ·rename_i h
    exact .inr (.inr ⟨id,by rw [h.1]; exact hblk⟩)
   ·exact .inl e
end Go.Abs
end
