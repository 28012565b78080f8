/- How the invariant is kept: a new block, a new object, a write into an object's block. -/
import Derived.Test.YtiejfphchpcldaaAbsPure
namespace Go.Abs

variable {P : Program}

theorem Holds.keep {w w' : World} {G G' : Gh} {l : Loc} {ob : Ob} (h : Holds w G l ob) (g : Grow G G') (hs : w.heap.size ≤ w'.heap.size)
    (hb : ∀ b, l.blk = some b → w'.heap[b]? = w.heap[b]? ∧ ∀ o, G.rd b o = none → G'.rd b o = none) : Holds w' G' l ob := by
  cases l with
  | box b =>
    obtain ⟨h1, h2⟩ := hb b rfl
    cases ob with
    | box cells =>
      obtain ⟨cs, ty, e1, e2, e3, e4⟩ := h
      exact ⟨cs, ty, h1.trans e1, e2, fun j c hj => ⟨(e3 j c hj).1.mono g, (e3 j c hj).2⟩, fun o => h2 o (e4 o)⟩
    | fz cs =>
      obtain ⟨e1, e2⟩ := h
      refine ⟨Nat.lt_of_lt_of_le e1 hs, fun j c hj => ?_⟩
      obtain ⟨v, e3, e4, e5⟩ := e2 j c hj
      exact ⟨v, g.rd _ _ _ e3, e4.mono g.rd, e5⟩
    | _ => exact h.elim
  | mrow a cap v s =>
    cases ob with
    | mrow v' s' es =>
      refine ⟨h.1, fun hlt => ?_⟩
      obtain ⟨b, o, ha, ⟨cs, ty, e5, e6, e7⟩, e8⟩ := h.2 hlt
      subst ha
      obtain ⟨h1, h2⟩ := hb b (by simp [Loc.blk, hlt])
      exact ⟨b, o, rfl, ⟨cs, ty, h1.trans e5, e6, fun i j e c he hc => ⟨(e7 i j e c he hc).1.mono g.rd, (e7 i j e c he hc).2⟩⟩, fun o' => h2 _ (e8 o')⟩
    | frow v' s' es =>
      refine ⟨h.1, fun hlt => ?_⟩
      obtain ⟨b, o, ha, e5, e7⟩ := h.2 hlt
      refine ⟨b, o, ha, Nat.lt_of_lt_of_le e5 hs, fun i j e c he hc => ?_⟩
      obtain ⟨u, g1, g2, g3⟩ := e7 i j e c he hc
      exact ⟨u, g.rd _ _ _ g1, g2.mono g.rd, g3⟩
    | _ => exact h.elim
  | row a cap n s =>
    cases ob with
    | row n' s' =>
      obtain ⟨e1, e2, e3, e4⟩ := h
      refine ⟨e1, e2, e3, fun hlt => ?_⟩
      obtain ⟨b, o, ha, ⟨cs, ty, fr, e5, e6⟩, e7⟩ := e4 hlt
      subst ha
      obtain ⟨h1, h2⟩ := hb b (by simp [Loc.blk, hlt])
      refine ⟨b, o, rfl, ⟨cs, ty, fr, h1.trans e5, e6⟩, fun k hk1 hk2 => ?_⟩
      obtain ⟨e8, e9⟩ := e7 k hk1 hk2
      refine ⟨?_, h2 _ e9⟩
      rw [← e8]
      unfold World.frozen?
      rw [h1]
    | _ => exact h.elim

def Gh.withRd (G : Gh) (b : Nat) (r : Nat → Option Value) : Gh := { G with rd := fun b' o => if b' = b then r o else G.rd b' o }
def Gh.withLoc (G : Gh) (id : Nat) (l : Loc) : Gh := { G with loc := fun i => if i = id then some l else G.loc i }

theorem Inv.rd_lt {w : World} {G : Gh} {H : List Ob} (h : Inv w G H) {b o : Nat} {c : Value} (e : G.rd b o = some c) : b < w.heap.size := by
  have := h.rd b o c e
  unfold World.cell? at this
  rcases Nat.lt_or_ge b w.heap.size with h1 | h1
  · exact h1
  · simp [Array.getElem?_eq_none h1] at this

theorem Inv.loc_lt {w : World} {G : Gh} {H : List Ob} (h : Inv w G H) {id : Nat} {l : Loc} (e : G.loc id = some l) : id < H.length := by
  obtain ⟨ob, ho, _⟩ := h.obj id l e
  rcases Nat.lt_or_ge id H.length with h1 | h1
  · exact h1
  · simp [List.getElem?_eq_none h1] at ho

theorem Inv.loc_none {w : World} {G : Gh} {H : List Ob} (h : Inv w G H) {id : Nat} (hid : H.length ≤ id) : G.loc id = none := by
  cases e : G.loc id with
  | none => rfl
  | some l => have := h.loc_lt e; omega

theorem cell_push {w w' : World} {ob : Obj} (hh : w'.heap = w.heap.push ob) {b o : Nat} (hb : b < w.heap.size) : w'.cell? ⟨b, o, none⟩ = w.cell? ⟨b, o, none⟩ := by
  unfold World.cell?
  have : w'.heap[b]? = w.heap[b]? := by rw [hh, Array.getElem?_push, if_neg (by omega)]
  simp only [this]

/-- The world as it was but for the draws. -/
structure Same (w w' : World) : Prop where
  os : w'.os = w.os
  tape : w'.tape = w.tape
  output : w'.output = w.output

theorem Same.refl (w : World) : Same w w := ⟨rfl, rfl, rfl⟩

theorem inv_same {w w' : World} {G : Gh} {H : List Ob} (hi : Inv w G H) (hh : w'.heap = w.heap) : Inv w' G H := by
  refine ⟨fun b o c e => ?_, fun id l e => ?_, hi.dis⟩
  · have := hi.rd b o c e
    unfold World.cell? at this ⊢
    rwa [hh]
  · obtain ⟨ob, ho, hl⟩ := hi.obj id l e
    exact ⟨ob, ho, hl.keep (Grow.refl G) (by rw [hh]; exact Nat.le_refl _) (fun b _ => ⟨by rw [hh], fun _ h => h⟩)⟩

theorem step_same {w w' : World} {G : Gh} (hs : Same w w') (hh : w'.heap = w.heap) : Step w G w' G := fun n =>
  ⟨hs.os, hs.tape, hs.output, by rw [hh]; exact Nat.le_refl _, fun b _ _ => by rw [hh], fun _ _ _ h => h, fun _ _ _ h => .inl h, fun _ _ l h => ⟨l, h, .refl l⟩, fun id _ h => .inr ⟨id, h⟩⟩

/-- A new block of which some cells are known not to change. -/
theorem alloc_step {w w' : World} {G : Gh} {H : List Ob} (hi : Inv w G H) {cs : Array Value} {ty : TypeId} {fr : Nat × Nat} (hh : w'.heap = w.heap.push (.cells cs ty fr)) (hs : Same w w')
    (r : Nat → Option Value) (hr : ∀ o c, r o = some c → cs[o]? = some c) :
    Inv w' (G.withRd w.heap.size r) H ∧ Step w G w' (G.withRd w.heap.size r) := by
  have hsz : w'.heap.size = w.heap.size + 1 := by rw [hh]; simp
  have hrd : ∀ b o c, G.rd b o = some c → (G.withRd w.heap.size r).rd b o = some c := by
    intro b o c e
    have := hi.rd_lt e
    simp only [Gh.withRd]
    rw [if_neg (by omega)]
    exact e
  have hg : Grow G (G.withRd w.heap.size r) := ⟨hrd, fun _ l e => ⟨l, e, .refl l⟩⟩
  have hblk : ∀ b, b < w.heap.size → w'.heap[b]? = w.heap[b]? := by
    intro b hb
    rw [hh, Array.getElem?_push, if_neg (by omega)]
  refine ⟨⟨fun b o c e => ?_, fun id l e => ?_, hi.dis⟩, fun n => ⟨hs.os, hs.tape, hs.output, by omega, fun b hb _ => hblk b hb, hrd, fun b o c e => ?_, fun _ _ l e => ⟨l, e, .refl l⟩, fun id b e => .inr ⟨id, e⟩⟩⟩
  · simp only [Gh.withRd] at e
    split at e
    · rename_i hb
      subst hb
      have := hr o c e
      unfold World.cell?
      simp [hh, this]
    · rw [cell_push hh (hi.rd_lt e)]
      exact hi.rd b o c e
  · obtain ⟨ob, ho, hl⟩ := hi.obj id l e
    refine ⟨ob, ho, hl.keep hg (by omega) (fun b hb => ?_)⟩
    have hlt : b < w.heap.size := hi.blk_lt (id := id) (by show (G.loc id).bind Loc.blk = some b; rw [show G.loc id = some l from e]; exact hb)
    exact ⟨hblk b hlt, fun o ho => by simp only [Gh.withRd]; rw [if_neg (by omega)]; exact ho⟩
  · simp only [Gh.withRd] at e
    split at e
    · rename_i hb; exact .inr (.inl (by omega))
    · exact .inl e

/-- A new object over a new block. -/
theorem alloc_obj {w w' : World} {G : Gh} {H : List Ob} (hi : Inv w G H) {cs : Array Value} {ty : TypeId} {fr : Nat × Nat} (hh : w'.heap = w.heap.push (.cells cs ty fr)) (hs : Same w w')
    (r : Nat → Option Value) (hr : ∀ o c, r o = some c → cs[o]? = some c) (l : Loc) (ob : Ob) (hb : ∀ b, l.blk = some b → b = w.heap.size)
    (hl : Holds w' ((G.withRd w.heap.size r).withLoc H.length l) l ob) :
    Inv w' ((G.withRd w.heap.size r).withLoc H.length l) (H ++ [ob]) ∧ Step w G w' ((G.withRd w.heap.size r).withLoc H.length l) := by
  obtain ⟨i1, s1⟩ := alloc_step hi hh hs r hr
  have hn : G.loc H.length = none := hi.loc_none (Nat.le_refl _)
  have hg : Grow (G.withRd w.heap.size r) ((G.withRd w.heap.size r).withLoc H.length l) := by
    refine ⟨fun _ _ _ e => e, fun id l' e => ⟨l', ?_, .refl l'⟩⟩
    simp only [Gh.withLoc]
    split
    · rename_i h; subst h; rw [show (G.withRd w.heap.size r).loc H.length = none from hn] at e; simp at e
    · exact e
  have hsz : w'.heap.size = w.heap.size + 1 := by rw [hh]; simp
  have hold : ∀ id b, G.blk id = some b → b ≠ w.heap.size := fun id b e => Nat.ne_of_lt (hi.blk_lt e)
  have hcase : ∀ id b, ((G.withRd w.heap.size r).withLoc H.length l).blk id = some b → (id = H.length ∧ b = w.heap.size) ∨ (id ≠ H.length ∧ G.blk id = some b) := by
    intro id b e
    simp only [Gh.blk, Gh.withLoc] at e
    split at e
    · rename_i h; exact .inl ⟨h, hb b (by simpa using e)⟩
    · rename_i h; exact .inr ⟨h, e⟩
  refine ⟨⟨i1.rd, fun id l' e => ?_, fun i j b e1 e2 => ?_⟩, fun n => ⟨hs.os, hs.tape, hs.output, by omega, (s1 n).keep, (s1 n).rd, (s1 n).rdn, fun id hid l' e => ?_, fun id b e => ?_⟩⟩
  · simp only [Gh.withLoc] at e
    split at e
    · rename_i h
      subst h
      simp at e; subst e
      exact ⟨ob, by simp, hl⟩
    · obtain ⟨ob', ho, hl'⟩ := i1.obj id l' e
      refine ⟨ob', ?_, hl'.keep hg (Nat.le_refl _) (fun b _ => ⟨rfl, fun _ h => h⟩)⟩
      rw [List.getElem?_append_left (i1.loc_lt e)]
      exact ho
  · rcases hcase i b e1 with ⟨h1, h2⟩ | ⟨h1, h2⟩ <;> rcases hcase j b e2 with ⟨h3, h4⟩ | ⟨h3, h4⟩
    · omega
    · exact absurd h2 (hold j b h4)
    · exact absurd h4 (hold i b h2)
    · exact hi.dis i j b h2 h4
  · obtain ⟨l1, e1, h1⟩ := (s1 n).loc id hid l' e
    obtain ⟨l2, e2, h2⟩ := hg.loc id l1 e1
    exact ⟨l2, e2, h1.trans h2⟩
  · rcases hcase id b e with ⟨_, h2⟩ | ⟨_, h2⟩
    · exact .inl (by omega)
    · exact .inr ⟨id, h2⟩

end Go.Abs
