/- Abstract values (trees) for the model's values, what it means that a value in a world represents one, and how that is kept while the world moves on. -/
import Derived.Orders
import Derived.Below
namespace Go.Abs

/-- A tree: a value without mutable memory. A slice is its elements; 'imm' points to cells that never change. -/
inductive T where
  | bool (b : Bool)
  | int (k : IntKind) (n : Int)
  | str (s : List UInt8)
  | slice (es : List T)
  | imm (cs : List T) (off : Nat)
  | func (f : FuncId) (caps : List T)
  | agg (cs : List T)
  | raw (v : Value)

instance : Inhabited T := ⟨.bool false⟩

def T.cells : T → List T
  | .agg cs => cs
  | t => [t]

/-- What a slot holds: a tree; a slice whose capacity is its length; a slice that owns its row (object 'id'); a pointer into a variable (object 'id'); a closure over variables; anything; a struct by its cells; several results; the nil slice; a slice that is not nil; a slice over a row that is written (the object, its version, the elements' cells, from which one on, how many); a pointer into such a row's element. -/
inductive AV where
  | p (t : T)
  | full (es : List T)
  | own (id : Nat) (es : List T)
  | bptr (id off : Nat)
  | mclo (f : FuncId) (caps : List (Nat × Nat))
  | top
  | agg (cs : List AV)
  | tup (vs : List AV)
  | nils
  | nns (es : List T)
  | msl (id ver s off len : Nat)
  | mptr (id ver s i off : Nat)

instance : Inhabited AV := ⟨.top⟩

/-- Objects of the abstract heap: a variable; a variable that is no longer written; a row of n elements of s cells that is appended to; a row that is written; one that is no longer written; a mark that new rows are to be written. -/
inductive Ob where
  | box (cells : List AV)
  | fz (cs : List T)
  | row (n s : Nat)
  | mrow (ver s : Nat) (es : List T)
  | frow (ver s : Nat) (es : List T)
  | mode

/-- May it lie in one cell? -/
def scalar : Value → Bool
  | .agg _ => false
  | .tuple _ => false
  | _ => true

abbrev Rd := Nat → Nat → Option Value

/-- v represents t, by the cells that rd knows (they never change). -/
inductive RepT (rd : Rd) : T → Value → Prop where
  | bool (b : Bool) : RepT rd (.bool b) (.bool b)
  | int (k : IntKind) (n : Int) : RepT rd (.int k n) (.int k n)
  | str (s : List UInt8) (h : s.length ≤ maxLen) : RepT rd (.str s) (.string ⟨s.toArray⟩)
  | raw (v : Value) (h : scalar v = true) : RepT rd (.raw v) v
  | nil (a : Option Addr) (cap : Nat) : RepT rd (.slice []) (.slice a 0 cap)
  | slice (es : List T) (b o cap s : Nat) (val : Nat → Nat → Value) (hs : ∀ e ∈ es, e.cells.length = s)
      (hr : ∀ i j e c, es[i]? = some e → e.cells[j]? = some c → rd b (o + i * s + j) = some (val i j))
      (hv : ∀ i j e c, es[i]? = some e → e.cells[j]? = some c → RepT rd c (val i j)) (hk : ∀ i j e c, es[i]? = some e → e.cells[j]? = some c → scalar (val i j) = true) (hl : es.length ≤ maxLen) (hc : es.length ≤ cap) :
      RepT rd (.slice es) (.slice (some ⟨b, o, none⟩) es.length cap)
  | imm (cs : List T) (off b o : Nat) (val : Nat → Value) (hr : ∀ j c, cs[j]? = some c → rd b (o + j) = some (val j))
      (hv : ∀ j c, cs[j]? = some c → RepT rd c (val j)) (hk : ∀ j c, cs[j]? = some c → scalar (val j) = true) : RepT rd (.imm cs off) (.pointer (some ⟨b, o + off, none⟩))
  | func (f : FuncId) (caps : List T) (vs : Array Value) (hn : vs.size = caps.length) (hv : ∀ j c, caps[j]? = some c → RepT rd c (vs.getD j undef)) :
      RepT rd (.func f caps) (.func (.func f) #[] vs)
  | agg (cs : List T) (vs : Array Value) (hn : vs.size = cs.length) (hv : ∀ j c, cs[j]? = some c → RepT rd c (vs.getD j undef))
      (hk : ∀ j c, cs[j]? = some c → scalar (vs.getD j undef) = true) : RepT rd (.agg cs) (.agg vs)

/-- Where an object lies. -/
inductive Loc where
  | box (b : Nat)
  | row (a : Option Addr) (cap n s : Nat)
  | mrow (a : Option Addr) (cap ver s : Nat)

structure Gh where
  rd : Rd
  loc : Nat → Option Loc

def Loc.blk : Loc → Option Nat
  | .box b => some b
  | .row (some a) cap n _ => if n < cap then some a.block else none
  | .row none _ _ _ => none
  | .mrow (some a) cap _ _ => if 0 < cap then some a.block else none
  | .mrow none _ _ _ => none

def Gh.blk (G : Gh) (i : Nat) : Option Nat := (G.loc i).bind Loc.blk

inductive Loc.le : Loc → Loc → Prop where
  | box (b : Nat) : Loc.le (.box b) (.box b)
  | row (a a' : Option Addr) (cap cap' n n' s : Nat) (hn : n ≤ n') (he : n = n' → a = a' ∧ cap = cap') : Loc.le (.row a cap n s) (.row a' cap' n' s)
  | mrow (a a' : Option Addr) (cap cap' v v' s : Nat) (hn : v ≤ v') (he : v = v' → a = a' ∧ cap = cap') : Loc.le (.mrow a cap v s) (.mrow a' cap' v' s)

theorem Loc.le.refl (l : Loc) : l.le l := by
  cases l with
  | box b => exact .box b
  | row a cap n s => exact .row _ _ _ _ _ _ _ (Nat.le_refl _) (fun _ => ⟨rfl, rfl⟩)
  | mrow a cap n s => exact .mrow _ _ _ _ _ _ _ (Nat.le_refl _) (fun _ => ⟨rfl, rfl⟩)

theorem Loc.le.trans {a b c : Loc} (h : a.le b) (k : b.le c) : a.le c := by
  cases h with
  | box b => exact k
  | row a1 a2 c1 c2 n1 n2 s hn he =>
    cases k with
    | row _ a3 _ c3 _ n3 _ hn' he' =>
      refine .row _ _ _ _ _ _ _ (Nat.le_trans hn hn') (fun h => ?_)
      have h2 : n2 = n3 := by omega
      obtain ⟨rfl, rfl⟩ := he' h2
      exact he (by omega)
  | mrow a1 a2 c1 c2 n1 n2 s hn he =>
    cases k with
    | mrow _ a3 _ c3 _ n3 _ hn' he' =>
      refine .mrow _ _ _ _ _ _ _ (Nat.le_trans hn hn') (fun h => ?_)
      have h2 : n2 = n3 := by omega
      obtain ⟨rfl, rfl⟩ := he' h2
      exact he (by omega)

inductive RepA (G : Gh) : AV → Value → Prop where
  | p (t : T) (v : Value) (h : RepT G.rd t v) : RepA G (.p t) v
  | full (es : List T) (a : Option Addr) (h : RepT G.rd (.slice es) (.slice a es.length es.length)) : RepA G (.full es) (.slice a es.length es.length)
  | own (id : Nat) (es : List T) (a a' : Option Addr) (cap cap' n s : Nat) (h : RepT G.rd (.slice es) (.slice a es.length cap))
      (hl : G.loc id = some (.row a' cap' n s)) (hn : es.length ≤ n) (he : es.length = n → a = a' ∧ cap = cap') (hs : ∀ e ∈ es, e.cells.length = s) :
      RepA G (.own id es) (.slice a es.length cap)
  | bptr (id off b : Nat) (hl : G.loc id = some (.box b)) : RepA G (.bptr id off) (.pointer (some ⟨b, off, none⟩))
  | mclo (f : FuncId) (caps : List (Nat × Nat)) (vs : Array Value) (hn : vs.size = caps.length)
      (hv : ∀ j c, caps[j]? = some c → ∃ b, G.loc c.1 = some (.box b) ∧ vs.getD j undef = .pointer (some ⟨b, c.2, none⟩)) : RepA G (.mclo f caps) (.func (.func f) #[] vs)
  | top (v : Value) : RepA G .top v
  | agg (cs : List AV) (vs : Array Value) (hn : vs.size = cs.length) (hv : ∀ j c, cs[j]? = some c → RepA G c (vs.getD j undef))
      (hk : ∀ j c, cs[j]? = some c → scalar (vs.getD j undef) = true) : RepA G (.agg cs) (.agg vs)
  | tup (cs : List AV) (vs : Array Value) (hn : vs.size = cs.length) (hv : ∀ j c, cs[j]? = some c → RepA G c (vs.getD j undef)) : RepA G (.tup cs) (.tuple vs)
  | nils (cap : Nat) : RepA G .nils (.slice none 0 cap)
  | nns (es : List T) (a : Addr) (cap : Nat) (h : RepT G.rd (.slice es) (.slice (some a) es.length cap)) : RepA G (.nns es) (.slice (some a) es.length cap)
  | msl (id ver s off len : Nat) (a a' a2 : Option Addr) (cap cap' ver' c2 : Nat) (hl : G.loc id = some (.mrow a' cap' ver' s)) (hn : ver ≤ ver') (he : ver = ver' → a = a' ∧ cap = cap') (hc : off + len ≤ cap) (hm : len ≤ maxLen)
      (hz : 0 < cap → ∃ b o, a = some ⟨b, o, none⟩) (h2 : c2 = cap - off) (ha : off < cap → a2 = a.map (·.add (off * s))) : RepA G (.msl id ver s off len) (.slice a2 len c2)
  | mptr (id ver s i off b o : Nat) (a a' : Option Addr) (cap cap' ver' : Nat) (hl : G.loc id = some (.mrow a' cap' ver' s)) (hn : ver ≤ ver') (he : ver = ver' → a = a' ∧ cap = cap') (hi : i < cap) (ha : a = some ⟨b, o, none⟩) :
      RepA G (.mptr id ver s i off) (.pointer (some ⟨b, o + i * s + off, none⟩))

theorem RepT.mono {rd rd' : Rd} (h : ∀ b o c, rd b o = some c → rd' b o = some c) {t : T} {v : Value} (r : RepT rd t v) : RepT rd' t v := by
  induction r with
  | bool b => exact .bool b
  | int k n => exact .int k n
  | str s hl => exact .str s hl
  | raw v h => exact .raw v h
  | nil a cap => exact .nil a cap
  | slice es b o cap s val hs hr _ hk hl hc ih => exact .slice es b o cap s val hs (fun i j e c he hc => h _ _ _ (hr i j e c he hc)) ih hk hl hc
  | imm cs off b o val hr _ hk ih => exact .imm cs off b o val (fun j c hc => h _ _ _ (hr j c hc)) ih hk
  | func f caps vs hn _ ih => exact .func f caps vs hn ih
  | agg cs vs hn _ hk ih => exact .agg cs vs hn ih hk

/-- The ghost state has grown: more is known not to change, no object has gone. -/
structure Grow (G G' : Gh) : Prop where
  rd : ∀ b o c, G.rd b o = some c → G'.rd b o = some c
  loc : ∀ id l, G.loc id = some l → ∃ l', G'.loc id = some l' ∧ l.le l'

theorem Grow.refl (G : Gh) : Grow G G := ⟨fun _ _ _ h => h, fun _ l h => ⟨l, h, .refl l⟩⟩
theorem Grow.trans {a b c : Gh} (h : Grow a b) (k : Grow b c) : Grow a c :=
  ⟨fun x y z e => k.rd x y z (h.rd x y z e), fun id l e => let ⟨_, e', hl⟩ := h.loc id l e; let ⟨l2, e2, hl2⟩ := k.loc id _ e'; ⟨l2, e2, hl.trans hl2⟩⟩

theorem RepA.mono {G G' : Gh} (g : Grow G G') {x : AV} {v : Value} (r : RepA G x v) : RepA G' x v := by
  induction r with
  | p t v h => exact .p t v (h.mono g.rd)
  | full es a h => exact .full es a (h.mono g.rd)
  | own id es a a' cap cap' n s h hl hn he hs =>
    obtain ⟨l', hl', hle⟩ := g.loc id _ hl
    cases hle with
    | row _ a2 _ c2 _ n2 _ hn2 he2 =>
      refine .own id es a a2 cap c2 n2 s (h.mono g.rd) hl' (Nat.le_trans hn hn2) (fun e => ?_) hs
      have h3 : n = n2 := by omega
      obtain ⟨rfl, rfl⟩ := he2 h3
      exact he (by omega)
  | bptr id off b hl =>
    obtain ⟨l', hl', hle⟩ := g.loc id _ hl
    cases hle
    exact .bptr id off b hl'
  | mclo f caps vs hn hv =>
    refine .mclo f caps vs hn (fun j c hj => ?_)
    obtain ⟨b, hb, hval⟩ := hv j c hj
    obtain ⟨l', hl', hle⟩ := g.loc _ _ hb
    cases hle
    exact ⟨b, hl', hval⟩
  | top v => exact .top v
  | agg cs vs hn _ hk ih => exact .agg cs vs hn ih hk
  | tup cs vs hn _ ih => exact .tup cs vs hn ih
  | nils cap => exact .nils cap
  | nns es a cap h => exact .nns es a cap (h.mono g.rd)
  | msl id ver s off len a a' a2 cap cap' ver' c2 hl hn he hc hm hz h2 ha =>
    obtain ⟨l', hl', hle⟩ := g.loc id _ hl
    cases hle with
    | mrow _ a3 _ c3 _ n3 _ hn3 he3 =>
      refine .msl id ver s off len a a3 a2 cap c3 n3 c2 hl' (Nat.le_trans hn hn3) (fun e => ?_) hc hm hz h2 ha
      have h3 : ver' = n3 := by omega
      obtain ⟨rfl, rfl⟩ := he3 h3
      exact he (by omega)
  | mptr id ver s i off b o a a' cap cap' ver' hl hn he hi ha =>
    obtain ⟨l', hl', hle⟩ := g.loc id _ hl
    cases hle with
    | mrow _ a3 _ c3 _ n3 _ hn3 he3 =>
      refine .mptr id ver s i off b o a a3 cap c3 n3 hl' (Nat.le_trans hn hn3) (fun e => ?_) hi ha
      have h3 : ver' = n3 := by omega
      obtain ⟨rfl, rfl⟩ := he3 h3
      exact he (by omega)

/-- What an object's place holds. -/
def Holds (w : World) (G : Gh) : Loc → Ob → Prop
  | .box b, .box cells => ∃ cs ty, w.heap[b]? = some (.cells cs ty (0, 0)) ∧ cs.size = cells.length ∧ (∀ j c, cells[j]? = some c → RepA G c (cs.getD j undef) ∧ scalar (cs.getD j undef) = true) ∧ (∀ o, G.rd b o = none)
  | .box b, .fz cs => b < w.heap.size ∧ ∀ j c, cs[j]? = some c → ∃ v, G.rd b j = some v ∧ RepT G.rd c v ∧ scalar v = true
  | .row a cap n s, .row n' s' => n = n' ∧ s = s' ∧ n ≤ cap ∧ (n < cap → ∃ b o, a = some ⟨b, o, none⟩ ∧ (∃ cs ty fr, w.heap[b]? = some (.cells cs ty fr) ∧ o + cap * s ≤ cs.size) ∧
      (∀ k, n * s ≤ k → k < cap * s → w.frozen? ⟨b, o + k, none⟩ = false ∧ G.rd b (o + k) = none))
  | .mrow a cap v s, .mrow v' s' es => (v = v' ∧ s = s' ∧ es.length ≤ cap ∧ ∀ e ∈ es, e.cells.length = s) ∧ (0 < cap → ∃ b o, a = some ⟨b, o, none⟩ ∧ (∃ cs ty, w.heap[b]? = some (.cells cs ty (0, 0)) ∧ o + cap * s ≤ cs.size ∧
      (∀ i j e c, es[i]? = some e → e.cells[j]? = some c → RepT G.rd c (cs.getD (o + i * s + j) undef) ∧ scalar (cs.getD (o + i * s + j) undef) = true)) ∧ (∀ o', G.rd b o' = none))
  | .mrow a cap v s, .frow v' s' es => (v = v' ∧ s = s' ∧ es.length ≤ cap ∧ ∀ e ∈ es, e.cells.length = s) ∧ (0 < cap → ∃ b o, a = some ⟨b, o, none⟩ ∧ b < w.heap.size ∧
      (∀ i j e c, es[i]? = some e → e.cells[j]? = some c → ∃ u, G.rd b (o + i * s + j) = some u ∧ RepT G.rd c u ∧ scalar u = true))
  | _, _ => False

structure Inv (w : World) (G : Gh) (H : List Ob) : Prop where
  rd : ∀ b o c, G.rd b o = some c → w.cell? ⟨b, o, none⟩ = some c
  obj : ∀ id l, G.loc id = some l → ∃ ob, H[id]? = some ob ∧ Holds w G l ob
  dis : ∀ i j b, G.blk i = some b → G.blk j = some b → i = j

/-- From (w, G) to (w', G'): nothing but the objects' own blocks, and new ones, has been written; the first n objects are still there. -/
structure Move (n : Nat) (w : World) (G : Gh) (w' : World) (G' : Gh) : Prop where
  os : w'.os = w.os
  tape : w'.tape = w.tape
  output : w'.output = w.output
  size : w.heap.size ≤ w'.heap.size
  keep : ∀ b, b < w.heap.size → (∀ id, G.blk id ≠ some b) → w'.heap[b]? = w.heap[b]?
  rd : ∀ b o c, G.rd b o = some c → G'.rd b o = some c
  rdn : ∀ b o c, G'.rd b o = some c → G.rd b o = some c ∨ w.heap.size ≤ b ∨ ∃ id, G.blk id = some b
  loc : ∀ id, id < n → ∀ l, G.loc id = some l → ∃ l', G'.loc id = some l' ∧ l.le l'
  new : ∀ id b, G'.blk id = some b → w.heap.size ≤ b ∨ ∃ j, G.blk j = some b

theorem Move.refl (n : Nat) (w : World) (G : Gh) : Move n w G w G :=
  ⟨rfl, rfl, rfl, Nat.le_refl _, fun _ _ _ => rfl, fun _ _ _ h => h, fun _ _ _ h => .inl h, fun _ _ l h => ⟨l, h, .refl l⟩, fun id _ h => .inr ⟨id, h⟩⟩

theorem Move.trans {n : Nat} {w1 w2 w3 : World} {G1 G2 G3 : Gh} (h : Move n w1 G1 w2 G2) (k : Move n w2 G2 w3 G3) : Move n w1 G1 w3 G3 := by
  refine ⟨k.os.trans h.os, k.tape.trans h.tape, k.output.trans h.output, Nat.le_trans h.size k.size, fun b hb hn => ?_, fun b o c e => k.rd _ _ _ (h.rd _ _ _ e),
    fun b o c e => ?_, fun id hid l e => ?_, fun id b e => ?_⟩
  · rw [k.keep b (Nat.lt_of_lt_of_le hb h.size) (fun id e => ?_), h.keep b hb hn]
    rcases h.new id b e with h1 | ⟨j, hj⟩
    · omega
    · exact hn j hj
  · rcases k.rdn b o c e with h1 | h1 | ⟨id, h1⟩
    · exact h.rdn b o c h1
    · exact .inr (.inl (Nat.le_trans h.size h1))
    · rcases h.new id b h1 with h2 | h2
      · exact .inr (.inl h2)
      · exact .inr (.inr h2)
  · obtain ⟨l', e', hl⟩ := h.loc id hid l e
    obtain ⟨l2, e2, hl2⟩ := k.loc id hid l' e'
    exact ⟨l2, e2, hl.trans hl2⟩
  · rcases k.new id b e with h1 | ⟨j, hj⟩
    · exact .inl (Nat.le_trans h.size h1)
    · exact h.new j b hj

theorem Move.weaken {m n : Nat} {w w' : World} {G G' : Gh} (h : Move n w G w' G') (hmn : m ≤ n) : Move m w G w' G' :=
  ⟨h.os, h.tape, h.output, h.size, h.keep, h.rd, h.rdn, fun id hid => h.loc id (Nat.lt_of_lt_of_le hid hmn), h.new⟩

/-- A step: every object is still there. -/
def Step (w : World) (G : Gh) (w' : World) (G' : Gh) : Prop := ∀ n, Move n w G w' G'

theorem Step.grow {w w' : World} {G G' : Gh} (h : Step w G w' G') : Grow G G' := ⟨(h 0).rd, fun id => (h (id + 1)).loc id (Nat.lt_succ_self _)⟩
theorem Step.refl (w : World) (G : Gh) : Step w G w G := fun n => .refl n w G
theorem Step.trans {w1 w2 w3 : World} {G1 G2 G3 : Gh} (h : Step w1 G1 w2 G2) (k : Step w2 G2 w3 G3) : Step w1 G1 w3 G3 := fun n => (h n).trans (k n)

theorem Inv.blk_lt {w : World} {G : Gh} {H : List Ob} (h : Inv w G H) {id b : Nat} (e : G.blk id = some b) : b < w.heap.size := by
  unfold Gh.blk at e
  cases hl : G.loc id with
  | none => simp [hl] at e
  | some l =>
    obtain ⟨ob, ho, hh⟩ := h.obj id l hl
    rw [hl] at e
    cases l with
    | box b' =>
      simp [Loc.blk] at e; subst e
      cases ob with
      | box cells =>
        obtain ⟨cs, ty, hb, _⟩ := hh
        rcases Nat.lt_or_ge b' w.heap.size with h1 | h1
        · exact h1
        · simp [Array.getElem?_eq_none h1] at hb
      | fz cs => exact hh.1
      | row n s => exact hh.elim
      | _ => exact hh.elim
    | mrow a cap n s =>
      cases a with
      | none => simp [Loc.blk] at e
      | some a =>
        simp only [Option.bind_some, Loc.blk] at e
        split at e
        · rename_i hlt
          simp at e
          cases ob with
          | mrow v s' es =>
            obtain ⟨b', o, ha, ⟨cs, ty, hb, _⟩, _⟩ := hh.2 hlt
            simp at ha
            subst ha
            simp at e
            subst e
            rcases Nat.lt_or_ge b' w.heap.size with h1 | h1
            · exact h1
            · simp [Array.getElem?_eq_none h1] at hb
          | frow v s' es =>
            obtain ⟨b', o, ha, hb, _⟩ := hh.2 hlt
            simp at ha
            subst ha
            simp at e
            subst e
            exact hb
          | _ => exact hh.elim
        · simp at e
    | row a cap n s =>
      cases a with
      | none => simp [Loc.blk] at e
      | some a =>
        simp only [Option.bind_some, Loc.blk] at e
        split at e
        · rename_i hlt
          simp at e
          cases ob with
          | row n' s' =>
            obtain ⟨_, _, _, hx⟩ := hh
            obtain ⟨b', o, ha, ⟨cs, ty, fr, hb, _⟩, _⟩ := hx hlt
            simp at ha
            subst ha
            simp at e
            subst e
            rcases Nat.lt_or_ge b' w.heap.size with h1 | h1
            · exact h1
            · simp [Array.getElem?_eq_none h1] at hb
          | _ => exact hh.elim
        · simp at e

end Go.Abs
