/- Code: what a body does, as a proposition over trees; and that the model does it. -/
import Derived.Test.YtiejfphchpcldaaAbsRegionB
namespace Go.Abs

variable {P : Program}

inductive AExit where
  | normal
  | exit (id : Nat)
  | ret

/-- A loop is known by the first region in it. -/
def key : Code → Option Nat
  | .region id _ _ => some id
  | .seq a b => match key a with
    | some i => some i
    | none => key b
  | .cond _ a b => match key a with
    | some i => some i
    | none => key b
  | .block _ a => key a
  | .loop a => key a
  | .scope a => key a
  | _ => none

def writes : Code → List Nat
  | .region _ ops _ => ops.toList.filterMap (·.dst)
  | .seq a b => writes a ++ writes b
  | .cond _ a b => writes a ++ writes b
  | .block _ a => writes a
  | .loop a => writes a
  | _ => []

/-- At a loop's head an empty slice may be made to own its row. -/
inductive Gc where
  | slot (i s : Nat)
  | cell (id off s : Nat)
  | mslot (i s : Nat)
  | mcell (id off s : Nat)

def ghost : Gc → List AV → List Ob → (List AV → List Ob → Prop) → Prop
  | .slot i s, t, H, K => match t.getD i .top with
    | .full [] => K (t.set i (.own H.length [])) (H ++ [.row 0 s])
    | .full (e :: es) => (∀ x ∈ e :: es, x.cells.length = s) ∧ K (t.set i (.own H.length (e :: es))) (H ++ [.row (es.length + 1) s])
    | _ => False
  | .cell id off s, t, H, K => match H[id]? with
    | some (.box cells) => match cells.getD off .top with
      | .full [] => K t (H.set id (.box (cells.set off (.own H.length []))) ++ [.row 0 s])
      | _ => False
    | _ => False
  | .mslot i s, t, H, K => match t.getD i .top with
    | .full [] => K (t.set i (.msl H.length 0 s 0 0)) (H ++ [.mrow 0 s []])
    | _ => False
  | .mcell id off s, t, H, K => match H[id]? with
    | some (.box cells) => match cells.getD off .top with
      | .full [] => K t (H.set id (.box (cells.set off (.msl H.length 0 s 0 0))) ++ [.mrow 0 s []])
      | _ => False
    | _ => False

def ghosts : List Gc → List AV → List Ob → (List AV → List Ob → Prop) → Prop
  | [], t, H, K => K t H
  | g :: gs, t, H, K => ghost g t H fun t' H' => ghosts gs t' H' K

def allN : Nat → (List AV → Prop) → Prop
  | 0, p => p []
  | n + 1, p => ∀ x, allN n fun xs => p (x :: xs)

def fill (base : List AV) : List Nat → List AV → List AV
  | k :: ks, x :: xs => fill (base.set k x) ks xs
  | _, _ => base

def all2 {α : Type} (R : α → α → Prop) : List α → List α → Prop
  | [], [] => True
  | x :: xs, y :: ys => R x y ∧ all2 R xs ys
  | _, _ => False

/-- What may be said in place of a value: less of the same. -/
def AV.le1 : AV → AV → Prop
  | _, .top => True
  | x, .p t => x.cellT = some t
  | x, y => x = y

def AV.le : AV → AV → Prop
  | .agg cs, .p t => (AV.agg cs).toT = some t
  | .agg cs, .agg ds => all2 AV.le1 cs ds
  | x, y => x.le1 y

def Ob.le : Ob → Ob → Prop
  | .box cs, .box ds => all2 AV.le1 cs ds
  | .mrow v s es, .mrow v' s' es' => v = v' ∧ s = s' ∧ es' <+: es
  | x, y => x = y

/-- Back at a loop's head. -/
def Back (n : Nat) (I : List AV → List Ob → Prop) (m : List AV → List Ob → Nat) (was : Nat) (xs : List AV) (H : List Ob) : Prop :=
  ∃ xs' H', (all2 AV.le xs xs' ∧ all2 Ob.le (H.take n) H' ∧ n ≤ H.length) ∧ (xs'.all (AV.under n) = true ∧ H'.all (Ob.below n) = true) ∧ I xs' H' ∧ m xs' H' < was

/-- A loop over so many slots: what holds at its head, and what each round lowers, is chosen in the proof. -/
def aLoopN (k : Nat) (xs0 : List AV) (H : List Ob) (body : List AV → List Ob → (List AV → List Ob → Prop) → Prop) : Prop :=
  ∃ (n : Nat) (I : List AV → List Ob → Prop) (m : List AV → List Ob → Nat), (∃ gs, ghosts gs xs0 H fun xs H' => ∃ xs' H2, all2 AV.le xs xs' ∧ all2 Ob.le H' H2 ∧ H2.length = n ∧ I xs' H2) ∧
    allN k fun xs => ∀ H1, H1.length = n → I xs H1 → body xs H1 fun xs' H2 => Back n I m (m xs H1) xs' H2

def aLoop (keep ws : List Nat) (body : List AV → List Ob → (AExit → List AV → List Ob → Prop) → Prop) (t : List AV) (H : List Ob) (K : AExit → List AV → List Ob → Prop) : Prop :=
  aLoopN keep.length (keep.map fun k => t.getD k .top) H fun xs H1 B => strict (fill (forget t ws) keep xs) fun t1 => body t1 H1 fun e t2 H2 => match e with
    | .normal => B (keep.map fun k => t2.getD k .top) H2
    | e => K e t2 H2

def lit (t : List AV) (c : Operand) (b : Bool) : List AV :=
  match c with
  | .tmp u => t.set u (.p (.bool b))
  | _ => t

/-- Where a truth and what hangs on it are to come together in one value. -/
inductive Mg where
  | no
  | orr (u : Nat)
  | andd (u : Nat)

def mark (ann : Nat → List Nat) (c : Code) : Bool :=
  match ann ((key c).getD 0 + 1000000) with
  | [] => false
  | _ => true

def mrgT (ann : Nat → List Nat) (c : Operand) (a b : Code) : Mg :=
  match c with
  | .tmp u => match a with
    | .skip => match mark ann b with
      | true => .orr u
      | false => .no
    | a => match b with
      | .skip => match mark ann a with
        | true => .andd u
        | false => .no
      | _ => .no
  | _ => .no

/-- The way back of what hangs on a truth. -/
def kMrg (u : Nat) (H : List Ob) (Q : AV → Prop) (e : AExit) (t' : List AV) (H' : List Ob) : Prop :=
  match e with
  | .normal => H' = H ∧ Q (t'.getD u .top)
  | _ => False

/-- The slots that are kept, where it is said which. -/
def keepS (l : List Nat) : Nat → List AV → List AV
  | _, [] => []
  | i, x :: r => (match l.contains i with
    | true => x
    | false => .top) :: keepS l (i + 1) r

def trimS (ann : Nat → List Nat) (b : Code) (t : List AV) : List AV :=
  match ann ((key b).getD 0 + 2000000) with
  | [] => t
  | l => keepS l 0 t

theorem keepS_length (l : List Nat) : ∀ (t : List AV) (i : Nat), (keepS l i t).length = t.length
  | [], _ => rfl
  | x :: r, i => by simp [keepS, keepS_length l r]

theorem keepS_get (l : List Nat) (p : AV → Prop) (htop : p .top) : ∀ (t : List AV) (i u : Nat), p (t.getD u .top) → p ((keepS l i t).getD u .top)
  | [], _, _, h => h
  | x :: r, i, 0, h => by
    simp only [keepS, List.getD_cons_zero] at h ⊢
    split
    · exact h
    · exact htop
  | x :: r, i, u + 1, h => by
    simp only [keepS, List.getD_cons_succ] at h ⊢
    exact keepS_get l p htop r (i + 1) u h

theorem trimS_rep {ann : Nat → List Nat} {b : Code} {G : Gh} {t : List AV} {tm : Array Value} (h : RepTm G t tm) : RepTm G (trimS ann b t) tm := by
  unfold trimS
  split
  · exact h
  · exact ⟨by rw [keepS_length]; exact h.1, fun i => keepS_get _ (fun v => RepA G v (tm.getD i undef)) (.top _) t 0 i (h.2 i)⟩

def awp (P : Program) (ann : Nat → List Nat) : Code → List AV → List Ob → (AExit → List AV → List Ob → Prop) → Prop
  | .skip, t, H, K => K .normal t H
  | .region _ ops draw, t, H, K => aRegion P ops draw t H fun t' H' => K .normal t' H'
  | .seq a b, t, H, K => awp P ann a t H fun e t' H' => match e with
    | .normal => strict (trimS ann b t') fun t' => awp P ann b t' H' K
    | e => K e t' H'
  | .cond c a b, t, H, K => match mrgT ann c a b with
    | .no => aGuard (rho t c) (strict (lit t c true) fun t => awp P ann a t H K) (strict (lit t c false) fun t => awp P ann b t H K)
    | .orr u => aMerge false (t.getD u .top) (fun Q => strict (t.set u (.p (.bool false))) fun t => awp P ann b t H (kMrg u H Q)) (fun v => strict ((forget t (writes b)).set u v) fun t => K .normal t H)
    | .andd u => aMerge true (t.getD u .top) (fun Q => strict (t.set u (.p (.bool true))) fun t => awp P ann a t H (kMrg u H Q)) (fun v => strict ((forget t (writes a)).set u v) fun t => K .normal t H)
  | .block id a, t, H, K => awp P ann a t H fun e t' H' => match e with
    | .exit j => match j == id with
      | true => K .normal t' H'
      | false => K (.exit j) t' H'
    | e => K e t' H'
  | .loop a, t, H, K => aLoop (ann ((key a).getD 0)) (writes a) (awp P ann a) t H K
  | .exit id, t, H, K => K (.exit id) t H
  | .ret, t, H, K => K .ret t H
  | _, _, _, _ => False

/- Soundness. -/
inductive ExitRel : Exit → AExit → Prop where
  | normal : ExitRel .normal .normal
  | exit (id : Nat) : ExitRel (.exit id) (.exit id)
  | ret : ExitRel .ret .ret

/-- What holds behind a piece of code. -/
def Post (c : Code) (K : AExit → List AV → List Ob → Prop) (a0 : Act) (w0 : World) (G0 : Gh) (e : Exit) (a : Act) (w : World) : Prop :=
  ∃ (e' : AExit) (t : List AV) (H : List Ob) (G : Gh), ExitRel e e' ∧ K e' t H ∧ Inv w G H ∧ RepTm G t a.tmps ∧ (a.defers = a0.defers ∧ a.tmps.size = a0.tmps.size) ∧ (∀ u, u ∉ writes c → a.tmps.getD u undef = a0.tmps.getD u undef) ∧ Step w0 G0 w G

theorem wp_loop_ind {α : Type} {c : Code} {Q : Exit → Act → World → Prop} (m : α → Nat) (I : α → Act → World → Prop)
    (round : ∀ x a w, I x a w → c.wp P (Exit.then (fun a' w' => ∃ y, I y a' w' ∧ m y < m x) Q) a w) : ∀ (x : α) (a : Act) (w : World), I x a w → (Code.loop c).wp P Q a w := by
  intro x a w h₀ b k cs
  have keyl : ∀ n x a w, m x = n → I x a w → ∃ e a' w', Q e a' w' ∧ Arrives P (lone (b.at a (.code c :: .inLoop c :: k)) cs w) b k cs e a' w' := by
    intro n
    induction n using Nat.strongRecOn with
    | _ n ih =>
      intro x a w hn hI
      obtain ⟨e, a₁, w₁, hq, harr⟩ := round x a w hI b (.inLoop c :: k) cs
      cases e with
      | normal =>
        obtain ⟨y, hI₁, hlt⟩ := hq
        obtain ⟨e₂, a₂, w₂, hq₂, harr₂⟩ := ih (m y) (hn ▸ hlt) y a₁ w₁ rfl hI₁
        exact ⟨e₂, a₂, w₂, hq₂, .of_steps (Steps.trans harr (.one step_inLoop)) harr₂⟩
      | exit id => exact ⟨_, a₁, w₁, hq, .pass (x := .inLoop c) rfl (fun _ _ => .inl (by simp)) harr⟩
      | goto l => exact ⟨_, a₁, w₁, hq, .pass (x := .inLoop c) rfl (fun _ _ => .inl (by simp)) harr⟩
      | ret => exact ⟨_, a₁, w₁, hq, .pass (x := .inLoop c) rfl (fun _ _ => .inl (by simp)) harr⟩
      | panic ch => exact ⟨_, a₁, w₁, hq, .pass (x := .inLoop c) rfl (fun _ _ => .inl (by simp)) harr⟩
      | outgrown => exact ⟨_, a₁, w₁, hq, .pass (x := .inLoop c) rfl (fun _ _ => .inl (by simp)) harr⟩
  obtain ⟨e, a', w', hq, harr⟩ := keyl _ x a w rfl h₀
  exact ⟨e, a', w', hq, .of_steps (.one step_loop) harr⟩

theorem allN_get : ∀ (n : Nat) (p : List AV → Prop), allN n p → ∀ xs : List AV, xs.length = n → p xs
  | 0, p, h, [], _ => h
  | n + 1, p, h, x :: xs, hl => allN_get n _ (h x) xs (by simpa using hl)

/-- The kept slots' values. -/
def RepK (G : Gh) (xs : List AV) (tm : Nat → Value) : Prop := ∀ (i : Nat) (x : AV), xs[i]? = some x → RepA G x (tm i)

theorem RepK.mono {G G' : Gh} (g : Grow G G') {xs : List AV} {tm : Nat → Value} (h : RepK G xs tm) : RepK G' xs tm := fun i x e => (h i x e).mono g

/-- A new row that has nothing yet, in a slot. -/
theorem slot_new {H : List Ob} {t : List AV} {i : Nat} (hx : t.getD i .top = .full []) (y : AV) (ob : Ob) (l : Option Addr → Loc) (hb : ∀ a, (l a).blk = none) (ho : ∀ w G a, Holds w G (l a) ob)
    (hy : ∀ G a, G.loc H.length = some (l a) → RepA G y (.slice a 0 0)) {w : World} {G : Gh} {tm : Nat → Value} (hi : Inv w G H) (ht : RepK G t tm) : ∃ G', Inv w G' (H ++ [ob]) ∧ RepK G' (t.set i y) tm ∧ Step w G w G' := by
  have hil : i < t.length := by
    rcases Nat.lt_or_ge i t.length with hl | hl
    · exact hl
    · rw [List.getD_eq_getElem?_getD, List.getElem?_eq_none hl] at hx; simp at hx
  have r := ht i _ (lt_get hil .top)
  rw [hx] at r
  obtain ⟨a, ev⟩ : ∃ a, tm i = .slice a 0 0 := by
    generalize tm i = v at r
    cases r with
    | full _ a h => exact ⟨a, rfl⟩
  obtain ⟨i1, s1⟩ := add_loc hi (l a) ob (hb a) (ho _ _ a)
  refine ⟨_, i1, fun u x hu => ?_, s1⟩
  by_cases hui : i = u
  · subst hui
    simp [hil] at hu
    subst hu
    rw [ev]
    exact hy _ a (by simp [Gh.withLoc])
  · rw [List.getElem?_set_ne hui] at hu
    exact (ht u x hu).mono s1.grow

/-- .. in a variable's cell. -/
theorem cell_new {H : List Ob} {id off : Nat} {cells : List AV} (hob : H[id]? = some (.box cells)) (hx : cells.getD off .top = .full []) (y : AV) (ob : Ob) (l : Option Addr → Loc) (hb : ∀ a, (l a).blk = none) (ho : ∀ w G a, Holds w G (l a) ob)
    (hy : ∀ G a, G.loc H.length = some (l a) → RepA G y (.slice a 0 0)) {t : List AV} {w : World} {G : Gh} {tm : Nat → Value} (hi : Inv w G H) (ht : RepK G t tm) : ∃ G', Inv w G' (H.set id (.box (cells.set off y)) ++ [ob]) ∧ RepK G' t tm ∧ Step w G w G' := by
  cases hl : G.loc id with
  | none =>
    -- the object is known, but lies nowhere: nothing is owed
    have i0 : Inv w G (H.set id (.box (cells.set off y))) := by
      refine ⟨hi.rd, fun j l e => ?_, hi.dis⟩
      obtain ⟨ob, ho, hh⟩ := hi.obj j l e
      have hne : id ≠ j := fun he => by subst he; rw [hl] at e; simp at e
      exact ⟨ob, by rw [List.getElem?_set_ne hne]; exact ho, hh⟩
    obtain ⟨i1, s1⟩ := add_loc i0 (l none) ob (hb none) (ho _ _ none)
    exact ⟨_, i1, ht.mono s1.grow, s1⟩
  | some l' =>
    obtain ⟨ob', ho', hh⟩ := hi.obj id l' hl
    rw [hob] at ho'; simp at ho'; subst ho'
    cases l' with
    | row => exact hh.elim
    | mrow => exact hh.elim
    | box b =>
      obtain ⟨cs, ty, e1, e2, e3, e4⟩ := hh
      rcases Nat.lt_or_ge off cells.length with hoff | hoff
      · have hc : cells[off]? = some (.full []) := by
          rw [List.getD_eq_getElem?_getD, List.getElem?_eq_getElem hoff] at hx
          rw [List.getElem?_eq_getElem hoff]
          simpa using hx
        obtain ⟨r, _⟩ := e3 off _ hc
        obtain ⟨a, ev⟩ : ∃ a, cs.getD off undef = .slice a 0 0 := by
          generalize cs.getD off undef = v at r
          cases r with
          | full _ a h => exact ⟨a, rfl⟩
        obtain ⟨i1, s1⟩ := add_loc hi (l a) ob (hb a) (ho _ _ a)
        have hidl := hi.loc_lt hl
        refine ⟨_, ⟨i1.rd, fun j l2 e => ?_, i1.dis⟩, ht.mono s1.grow, s1⟩
        obtain ⟨ob2, ho2, hh⟩ := i1.obj j l2 e
        by_cases hj : j = id
        · subst hj
          rw [List.getElem?_append_left hidl, hob] at ho2
          simp at ho2; subst ho2
          have hl' : l2 = .box b := by
            simp only [Gh.withLoc] at e
            rw [if_neg (by omega), hl] at e
            simpa using e.symm
          subst hl'
          obtain ⟨cs', ty', f1, f2, f3, f4⟩ := hh
          rw [e1] at f1
          simp at f1
          obtain ⟨rfl, rfl⟩ := f1
          refine ⟨.box (cells.set off y), by rw [List.getElem?_append_left (by simpa using hidl)]; simp [hidl], cs, ty, e1, by simpa using e2, fun k c hk => ?_, f4⟩
          by_cases hko : off = k
          · subst hko
            simp [hoff] at hk
            subst hk
            rw [ev]
            exact ⟨hy _ a (by simp [Gh.withLoc]), rfl⟩
          · rw [List.getElem?_set_ne hko] at hk
            exact f3 k c hk
        · refine ⟨ob2, ?_, hh⟩
          rcases Nat.lt_or_ge j H.length with h1 | h1
          · rw [List.getElem?_append_left h1] at ho2
            rw [List.getElem?_append_left (by simpa using h1), List.getElem?_set_ne (fun h => hj h.symm)]
            exact ho2
          · rw [List.getElem?_append_right h1] at ho2
            rw [List.getElem?_append_right (by simpa using h1)]
            simpa using ho2
      · rw [List.getD_eq_getElem?_getD, List.getElem?_eq_none hoff] at hx; simp at hx

theorem own_new {n s : Nat} (G : Gh) (a : Option Addr) (h : G.loc n = some (.row a 0 0 s)) : RepA G (.own n []) (.slice a 0 0) :=
  .own n [] a a 0 0 0 s (.nil a 0) h (Nat.le_refl _) (fun _ => ⟨rfl, rfl⟩) (fun e he => by simp at he)

theorem msl_new {n s : Nat} (G : Gh) (a : Option Addr) (h : G.loc n = some (.mrow a 0 0 s)) : RepA G (.msl n 0 s 0 0) (.slice a 0 0) :=
  .msl n 0 s 0 0 a a a 0 0 0 0 h (Nat.le_refl _) (fun _ => ⟨rfl, rfl⟩) (Nat.le_refl _) (Nat.zero_le _) (fun h => absurd h (Nat.lt_irrefl _)) rfl (fun h => absurd h (Nat.lt_irrefl _))

theorem row_blk0 (s : Nat) (a : Option Addr) : (Loc.row a 0 0 s).blk = none := by cases a <;> simp [Loc.blk]
theorem mrow_blk0 (s : Nat) (a : Option Addr) : (Loc.mrow a 0 0 s).blk = none := by cases a <;> simp [Loc.blk]
theorem row_holds0 (s : Nat) (w : World) (G : Gh) (a : Option Addr) : Holds w G (.row a 0 0 s) (.row 0 s) := ⟨rfl, rfl, Nat.le_refl _, fun h => absurd h (Nat.lt_irrefl _)⟩
theorem mrow_holds0 (s : Nat) (w : World) (G : Gh) (a : Option Addr) : Holds w G (.mrow a 0 0 s) (.mrow 0 s []) := ⟨⟨rfl, rfl, Nat.le_refl _, by simp⟩, fun h => absurd h (Nat.lt_irrefl _)⟩

theorem ghost_sound {g : Gc} {t : List AV} {H : List Ob} {K : List AV → List Ob → Prop} (h : ghost g t H K) : ∃ t' H', K t' H' ∧ t'.length = t.length ∧ ∀ (w : World) (G : Gh) (tm : Nat → Value), Inv w G H → RepK G t tm → ∃ G', Inv w G' H' ∧ RepK G' t' tm ∧ Step w G w G' := by
  cases g with
  | slot i s =>
    simp only [ghost] at h
    split at h
    · rename_i hx
      exact ⟨_, _, h, by simp, fun w G tm hi ht => slot_new hx _ _ (fun a => .row a 0 0 s) (row_blk0 s) (row_holds0 s) own_new hi ht⟩
    · rename_i e es hx
      obtain ⟨hsz, h⟩ := h
      refine ⟨_, _, h, by simp, fun w G tm hi ht => ?_⟩
      have hil : i < t.length := by
        rcases Nat.lt_or_ge i t.length with hl | hl
        · exact hl
        · rw [List.getD_eq_getElem?_getD, List.getElem?_eq_none hl] at hx; simp at hx
      have r := ht i _ (lt_get hil .top)
      rw [hx] at r
      obtain ⟨a, ev, hr⟩ : ∃ a, tm i = .slice a (e :: es).length (e :: es).length ∧ RepT G.rd (.slice (e :: es)) (.slice a (e :: es).length (e :: es).length) := by
        generalize tm i = v at r
        cases r with
        | full _ a h => exact ⟨a, rfl, h⟩
      obtain ⟨i1, s1⟩ := add_loc hi (.row a (e :: es).length (e :: es).length s) (.row (es.length + 1) s) (by cases a <;> simp [Loc.blk]) ⟨rfl, rfl, Nat.le_refl _, fun h => absurd h (Nat.lt_irrefl _)⟩
      refine ⟨_, i1, fun u x hu => ?_, s1⟩
      by_cases hui : i = u
      · subst hui
        simp [hil] at hu
        subst hu
        rw [ev]
        exact .own H.length (e :: es) a a _ _ _ s (hr.mono s1.grow.rd) (by simp [Gh.withLoc]) (Nat.le_refl _) (fun _ => ⟨rfl, rfl⟩) hsz
      · rw [List.getElem?_set_ne hui] at hu
        exact (ht u x hu).mono s1.grow
    · exact h.elim
  | cell id off s =>
    simp only [ghost] at h
    split at h
    · rename_i cells hob
      split at h
      · rename_i hx
        exact ⟨_, _, h, rfl, fun w G tm hi ht => cell_new hob hx _ _ (fun a => .row a 0 0 s) (row_blk0 s) (row_holds0 s) own_new hi ht⟩
      · exact h.elim
    · exact h.elim
  | mslot i s =>
    simp only [ghost] at h
    split at h
    · rename_i hx
      exact ⟨_, _, h, by simp, fun w G tm hi ht => slot_new hx _ _ (fun a => .mrow a 0 0 s) (mrow_blk0 s) (mrow_holds0 s) msl_new hi ht⟩
    · exact h.elim
  | mcell id off s =>
    simp only [ghost] at h
    split at h
    · rename_i cells hob
      split at h
      · rename_i hx
        exact ⟨_, _, h, rfl, fun w G tm hi ht => cell_new hob hx _ _ (fun a => .mrow a 0 0 s) (mrow_blk0 s) (mrow_holds0 s) msl_new hi ht⟩
      · exact h.elim
    · exact h.elim

theorem ghosts_sound : ∀ (gs : List Gc) (t : List AV) (H : List Ob) (K : List AV → List Ob → Prop), ghosts gs t H K → ∃ t' H', K t' H' ∧ t'.length = t.length ∧ ∀ (w : World) (G : Gh) (tm : Nat → Value), Inv w G H → RepK G t tm → ∃ G', Inv w G' H' ∧ RepK G' t' tm ∧ Step w G w G'
  | [], t, H, K, h => ⟨t, H, h, rfl, fun w G tm hi ht => ⟨G, hi, ht, .refl w G⟩⟩
  | g :: gs, t, H, K, h => by
    obtain ⟨t1, H1, h1, l1, r1⟩ := ghost_sound h
    obtain ⟨t2, H2, h2, l2, r2⟩ := ghosts_sound gs t1 H1 K h1
    refine ⟨t2, H2, h2, l2.trans l1, fun w G tm hi ht => ?_⟩
    obtain ⟨G1, i1, t1', s1⟩ := r1 w G tm hi ht
    obtain ⟨G2, i2, t2', s2⟩ := r2 w G1 tm i1 t1'
    exact ⟨G2, i2, t2', s1.trans s2⟩

def Gh.trim (G : Gh) (n : Nat) : Gh := ⟨G.rd, fun id => if id < n then G.loc id else none⟩

theorem trim_one {G : Gh} {n : Nat} {x : AV} {v : Value} (h : RepA G x v) (hb : x.under1 n = true) : RepA (G.trim n) x v := by
  cases h with
  | p t v h => exact .p t v h
  | full es a h => exact .full es a h
  | own id es a a' cap cap' k s h hl hn he hs =>
    simp [AV.under1] at hb
    exact .own id es a a' cap cap' k s h (by simp [Gh.trim, hb, hl]) hn he hs
  | bptr id off b hl =>
    simp [AV.under1] at hb
    exact .bptr id off b (by simp [Gh.trim, hb, hl])
  | mclo f caps vs hn hv =>
    simp only [AV.under1, List.all_eq_true, decide_eq_true_eq] at hb
    refine .mclo f caps vs hn (fun j c hj => ?_)
    obtain ⟨b, h1, h2⟩ := hv j c hj
    have := hb c (List.mem_of_getElem? hj)
    exact ⟨b, by simp [Gh.trim, this, h1], h2⟩
  | top v => exact .top v
  | nils cap => exact .nils cap
  | nns es a cap h => exact .nns es a cap h
  | msl id ver s off len a a' a2 cap cap' ver' c2 hl hn he hc hm hz h2 ha =>
    simp [AV.under1] at hb
    exact .msl id ver s off len a a' a2 cap cap' ver' c2 (by simp [Gh.trim, hb, hl]) hn he hc hm hz h2 ha
  | mptr id ver s i off b o a a' cap cap' ver' hl hn he hi ha =>
    simp [AV.under1] at hb
    exact .mptr id ver s i off b o a a' cap cap' ver' (by simp [Gh.trim, hb, hl]) hn he hi ha
  | agg cs vs hn hv hk => simp [AV.under1] at hb
  | tup cs vs hn hv => simp [AV.under1] at hb

theorem trim_rep {G : Gh} {n : Nat} {x : AV} {v : Value} (h : RepA G x v) (hb : x.under n = true) : RepA (G.trim n) x v := by
  cases x with
  | agg cs =>
    simp only [AV.under, List.all_eq_true] at hb
    cases h with
    | agg _ vs hn hv hk => exact .agg cs vs hn (fun j c hj => trim_one (hv j c hj) (hb c (List.mem_of_getElem? hj))) hk
  | tup cs =>
    simp only [AV.under, List.all_eq_true] at hb
    cases h with
    | tup _ vs hn hv => exact .tup cs vs hn (fun j c hj => trim_one (hv j c hj) (hb c (List.mem_of_getElem? hj)))
  | p t => exact trim_one h hb
  | full es => exact trim_one h hb
  | own id es => exact trim_one h hb
  | bptr id off => exact trim_one h hb
  | mclo f caps => exact trim_one h hb
  | top => exact trim_one h hb
  | nils => exact trim_one h hb
  | nns es => exact trim_one h hb
  | msl id ver s off len => exact trim_one h hb
  | mptr id ver s i off => exact trim_one h hb

theorem trim_blk {G : Gh} {n id b : Nat} (h : (G.trim n).blk id = some b) : G.blk id = some b ∧ id < n := by
  simp only [Gh.blk, Gh.trim] at h ⊢
  split at h
  · rename_i hlt; exact ⟨h, hlt⟩
  · simp at h

theorem trim_inv {w : World} {G : Gh} {H : List Ob} (hi : Inv w G H) {n : Nat} (hb : (H.take n).all (Ob.below n) = true) : Inv w (G.trim n) (H.take n) := by
  refine ⟨hi.rd, fun id l e => ?_, fun i j b e1 e2 => hi.dis i j b (trim_blk e1).1 (trim_blk e2).1⟩
  simp only [Gh.trim] at e
  split at e
  · rename_i hlt
    obtain ⟨ob, ho, hh⟩ := hi.obj id l e
    have hg : (H.take n)[id]? = some ob := by rw [List.getElem?_take, if_pos hlt]; exact ho
    refine ⟨ob, hg, ?_⟩
    have hbo := List.all_eq_true.1 hb ob (List.mem_of_getElem? hg)
    cases l with
    | box b =>
      cases ob with
      | box cells =>
        simp only [Ob.below, List.all_eq_true] at hbo
        obtain ⟨cs, ty, e1, e2, e3, e4⟩ := hh
        exact ⟨cs, ty, e1, e2, fun j c hj => ⟨trim_one (e3 j c hj).1 (hbo c (List.mem_of_getElem? hj)), (e3 j c hj).2⟩, e4⟩
      | fz cs => exact hh
      | _ => exact hh.elim
    | row a cap k s =>
      cases ob with
      | row k' s' => exact hh
      | _ => exact hh.elim
    | mrow a cap v s =>
      cases ob with
      | mrow v' s' es => exact hh
      | frow v' s' es => exact hh
      | _ => exact hh.elim
  · simp at e

/- Less of the same. -/
theorem all2_get {α : Type} {R : α → α → Prop} : ∀ {xs ys : List α}, all2 R xs ys → ys.length = xs.length ∧ ∀ (j : Nat) (y : α), ys[j]? = some y → ∃ x, xs[j]? = some x ∧ R x y
  | [], [], _ => ⟨rfl, fun j y h => by simp at h⟩
  | [], _ :: _, h => h.elim
  | _ :: _, [], h => h.elim
  | x :: xs, y :: ys, h => by
    obtain ⟨h1, h2⟩ := all2_get h.2
    refine ⟨by simp [h1], fun j z hj => ?_⟩
    cases j with
    | zero => simp at hj; subst hj; exact ⟨x, rfl, h.1⟩
    | succ j => simp at hj; simpa using h2 j z hj

theorem le1_rep {G : Gh} {x y : AV} {v : Value} (h : x.le1 y) (r : RepA G x v) : RepA G y v := by
  unfold AV.le1 at h
  split at h
  · exact .top v
  · exact .p _ _ (r.cellT h)
  · subst h; exact r

theorem le_rep {G : Gh} {x y : AV} {v : Value} (h : x.le y) (r : RepA G x v) : RepA G y v := by
  unfold AV.le at h
  split at h
  · exact .p _ _ (r.toT h)
  · rename_i cs ds
    obtain ⟨h1, h2⟩ := all2_get h
    cases r with
    | agg _ vs hn hv hk =>
      refine .agg ds vs (hn.trans h1.symm) (fun j c hj => ?_) (fun j c hj => ?_)
      · obtain ⟨x, hx, hl⟩ := h2 j c hj
        exact le1_rep hl (hv j x hx)
      · obtain ⟨x, hx, hl⟩ := h2 j c hj
        exact hk j x hx
  · exact le1_rep h r

theorem le_holds {w : World} {G : Gh} {l : Loc} {x y : Ob} (h : x.le y) (r : Holds w G l x) : Holds w G l y := by
  unfold Ob.le at h
  split at h
  · obtain ⟨h1, h2⟩ := all2_get h
    cases l with
    | box b =>
      obtain ⟨cs, ty, e1, e2, e3, e4⟩ := r
      refine ⟨cs, ty, e1, e2.trans h1.symm, fun j c hj => ?_, e4⟩
      obtain ⟨x, hx, hl⟩ := h2 j c hj
      exact ⟨le1_rep hl (e3 j x hx).1, (e3 j x hx).2⟩
    | row => exact r.elim
    | mrow => exact r.elim
  · obtain ⟨rfl, rfl, k, rfl⟩ := h
    cases l with
    | box b => exact r.elim
    | row => exact r.elim
    | mrow a cap v s =>
      obtain ⟨⟨h1, h2, h3, h4⟩, h5⟩ := r
      refine ⟨⟨h1, h2, by simp at h3; omega, fun e he => h4 e (List.mem_append_left _ he)⟩, fun hc => ?_⟩
      obtain ⟨b, o, e1, ⟨cs, ty, e2, e3, e4⟩, e5⟩ := h5 hc
      exact ⟨b, o, e1, ⟨cs, ty, e2, e3, fun i j e c he hc => e4 i j e c (by rw [List.getElem?_append_left (List.getElem?_eq_some_iff.1 he).1]; exact he) hc⟩, e5⟩
  · subst h; exact r

theorem le_inv {w : World} {G : Gh} {H H' : List Ob} (hi : Inv w G H) {n : Nat} (h : all2 Ob.le (H.take n) H') (hn : n ≤ H.length) : Inv w G (H' ++ H.drop n) ∧ H'.length = n := by
  obtain ⟨h1, h2⟩ := all2_get h
  have hl : H'.length = n := by rw [h1]; simp; omega
  refine ⟨⟨hi.rd, fun j l e => ?_, hi.dis⟩, hl⟩
  obtain ⟨ob, ho, hh⟩ := hi.obj j l e
  rcases Nat.lt_or_ge j n with hj | hj
  · have hj' : j < H'.length := by omega
    obtain ⟨x, hx, hle⟩ := h2 j H'[j] (List.getElem?_eq_getElem hj')
    rw [List.getElem?_take, if_pos hj, ho] at hx
    simp at hx; subst hx
    exact ⟨H'[j], by rw [List.getElem?_append_left hj', List.getElem?_eq_getElem hj'], le_holds hle hh⟩
  · refine ⟨ob, ?_, hh⟩
    rw [List.getElem?_append_right (by omega), hl, List.getElem?_drop, show n + (j - n) = j by omega]
    exact ho

theorem fill_length : ∀ (ks : List Nat) (xs : List AV) (base : List AV), (fill base ks xs).length = base.length
  | [], xs, base => by cases xs <;> rfl
  | k :: ks, [], base => rfl
  | k :: ks, x :: xs, base => by rw [fill, fill_length]; simp

theorem fill_get (u : Nat) (p : AV → Prop) : ∀ (ks : List Nat) (xs : List AV) (base : List AV), p (base.getD u .top) → (∀ (i : Nat) (x : AV), ks[i]? = some u → xs[i]? = some x → p x) → p ((fill base ks xs).getD u .top)
  | [], xs, base, h, _ => by cases xs <;> exact h
  | k :: ks, [], base, h, _ => h
  | k :: ks, x :: xs, base, h, hx => by
    rw [fill]
    refine fill_get u p ks xs _ ?_ (fun i y h1 h2 => hx (i + 1) y (by simpa using h1) (by simpa using h2))
    rw [getD_set]
    split
    · rename_i hk; exact hx 0 x (by simp [hk.1]) rfl
    · exact h

theorem aCond_get {x : AV} {A B : Prop} (h : aGuard x A B) : ∃ b, x = .p (.bool b) ∧ (b = true → A) ∧ (b = false → B) := by
  unfold aGuard at h
  split at h
  · rename_i b; exact ⟨b, rfl, fun e => by subst e; exact h, fun e => by subst e; exact h⟩
  · exact False.elim h

theorem lit_rep {t : List AV} {c : Operand} {b : Bool} (h : rho t c = .p (.bool b)) : lit t c b = t := by
  cases c with
  | tmp u => exact set_same h
  | const v => rfl
  | func f => rfl
  | global g => rfl

theorem awp_sound (hm : P.follows .mixedOrders = true) (ann : Nat → List Nat) : ∀ (c : Code) (t : List AV) (H : List Ob) (K : AExit → List AV → List Ob → Prop), awp P ann c t H K →
    ∀ (a : Act) (w : World) (G : Gh), Inv w G H → RepTm G t a.tmps → c.wp P (Post c K a w G) a w := by
  intro c
  induction c with
  | skip =>
    intro t H K h a w G hi ht
    exact wp_skip ⟨.normal, t, H, G, .normal, h, hi, ht, ⟨rfl, rfl⟩, fun _ _ => rfl, .refl w G⟩
  | region id ops draw =>
    intro t H K h a w G hi ht
    refine region_sound hm h hi ht (fun a' w' G' t' H' hk hi' ht' hd hkp hs => ⟨.normal, t', H', G', .normal, hk, hi', ht', ⟨hd, hkp.2⟩, fun u hu => hkp.1 u (fun k o ho hd' => hu ?_), hs⟩)
    simp only [writes, List.mem_filterMap]
    exact ⟨o, List.mem_of_getElem? (i := k) (by simpa using ho), hd'⟩
  | seq x y ihx ihy =>
    intro t H K h a w G hi ht
    simp only [awp, strict_eq] at h
    refine wp_seq (wp_mono (ihx t H _ h a w G hi ht) ?_)
    rintro e a1 w1 ⟨e', t1, H1, G1, her, hk, hi1, ht1, hd1, hu1, hs1⟩
    cases her with
    | normal =>
      refine wp_mono (ihy _ H1 K hk a1 w1 G1 hi1 (trimS_rep ht1)) ?_
      rintro e a2 w2 ⟨e2, t2, H2, G2, her2, hk2, hi2, ht2, hd2, hu2, hs2⟩
      exact ⟨e2, t2, H2, G2, her2, hk2, hi2, ht2, ⟨hd2.1.trans hd1.1, hd2.2.trans hd1.2⟩, fun u hu => by simp [writes] at hu; rw [hu2 u hu.2, hu1 u hu.1], hs1.trans hs2⟩
    | exit id => exact ⟨.exit id, t1, H1, G1, .exit id, hk, hi1, ht1, hd1, fun u hu => hu1 u (by simp [writes] at hu; exact hu.1), hs1⟩
    | ret => exact ⟨.ret, t1, H1, G1, .ret, hk, hi1, ht1, hd1, fun u hu => hu1 u (by simp [writes] at hu; exact hu.1), hs1⟩
  | cond c x y ihx ihy =>
    intro t H K h a w G hi ht
    -- both ways of a truth, brought together
    have merged : ∀ (u : Nat) (want : Bool) (z : Code) (b cc : Bool), t.getD u .top = .p (.bool b) → (∀ v, v ∈ writes z → v ∈ writes (.cond c x y)) → ∀ (e : Exit) (a2 : Act) (w2 : World) (G2 : Gh),
        (b = want → a2.tmps.getD u undef = .bool cc) → (b ≠ want → a2.tmps.getD u undef = .bool b) → (∀ v, v ∉ writes z → a2.tmps.getD v undef = a.tmps.getD v undef) → a2.tmps.size = a.tmps.size → a2.defers = a.defers → Inv w2 G2 H → Step w G w2 G2 →
        K .normal ((forget t (writes z)).set u (.p (.bool (cond want (b && cc) (b || cc))))) H → Post (.cond c x y) K a w G .normal a2 w2 := by
      intro u want z b cc hb hwr e a2 w2 G2 h1 h2 hkp hsz hdf hi2 hs2 hk
      refine ⟨.normal, _, H, G2, .normal, hk, hi2, ⟨by simp [forget_length, hsz, ht.1], fun v => ?_⟩, ⟨hdf, hsz⟩, fun v hv => hkp v (fun hz => hv (hwr v hz)), hs2⟩
      rw [getD_set]
      split
      · rename_i hv
        obtain ⟨rfl, _⟩ := hv
        have hv2 : a2.tmps.getD u undef = .bool (cond want (b && cc) (b || cc)) := by
          by_cases hbw : b = want
          · rw [h1 hbw]; subst hbw; cases b <;> simp
          · rw [h2 hbw]
            cases b <;> cases want <;> simp_all
        rw [hv2]
        exact repA_bool.2 rfl
      · refine forget_get v (fun x => RepA G2 x (a2.tmps.getD v undef)) (.top _) _ _ (fun hv => ?_)
        rw [hkp v hv]
        exact (ht.2 v).mono hs2.grow
    simp only [awp, strict_eq] at h
    split at h
    · -- apart
      obtain ⟨b, hb, h1, h2⟩ := aCond_get h
      have hev : a.eval c = .bool b := by
        have r := ht.rho (a := a) c
        rw [hb] at r
        exact repA_bool.1 r
      refine wp_cond_split hev (fun e => ?_) (fun e => ?_)
      · subst e
        have h1 := h1 rfl
        rw [lit_rep hb] at h1
        refine wp_mono (ihx t H K h1 a w G hi ht) ?_
        rintro e a2 w2 ⟨e2, t2, H2, G2, her2, hk2, hi2, ht2, hd2, hu2, hs2⟩
        exact ⟨e2, t2, H2, G2, her2, hk2, hi2, ht2, hd2, fun u hu => hu2 u (by simp [writes] at hu; exact hu.1), hs2⟩
      · subst e
        have h2 := h2 rfl
        rw [lit_rep hb] at h2
        refine wp_mono (ihy t H K h2 a w G hi ht) ?_
        rintro e a2 w2 ⟨e2, t2, H2, G2, her2, hk2, hi2, ht2, hd2, hu2, hs2⟩
        exact ⟨e2, t2, H2, G2, her2, hk2, hi2, ht2, hd2, fun u hu => hu2 u (by simp [writes] at hu; exact hu.2), hs2⟩
    · rename_i u hm
      obtain ⟨hc, hx⟩ : c = .tmp u ∧ x = .skip := by
        unfold mrgT at hm
        split at hm
        · split at hm
          · split at hm <;> simp at hm
            exact ⟨by rw [hm], rfl⟩
          · split at hm
            · split at hm <;> simp at hm
            · simp at hm
        · simp at hm
      subst hc hx
      obtain ⟨b, cc, hb, hE, hK⟩ := aMerge_get h
      have hev : a.eval (.tmp u) = .bool b := by have := ht.2 u; rw [hb] at this; exact repA_bool.1 this
      refine wp_cond_split hev (fun e => ?_) (fun e => ?_)
      · exact wp_skip (merged u false y b cc hb (fun v hv => by simp [writes, hv]) .normal a w G (fun h => by rw [e] at h; simp at h) (fun _ => hev) (fun _ _ => rfl) rfl rfl hi (.refl w G) hK)
      · have hE := hE e
        rw [set_same (e ▸ hb)] at hE
        refine wp_mono (ihy t H _ hE a w G hi ht) ?_
        rintro e2 a2 w2 ⟨e', t2, H2, G2, her2, hk2, hi2, ht2, hd2, hu2, hs2⟩
        cases her2 with
        | normal =>
          obtain ⟨rfl, hq⟩ := hk2
          have hv : a2.tmps.getD u undef = .bool cc := by have := ht2.2 u; rw [hq] at this; exact repA_bool.1 this
          exact merged u false y b cc hb (fun v hv => by simp [writes, hv]) .normal a2 w2 G2 (fun _ => hv) (fun h => absurd e h) hu2 hd2.2 hd2.1 hi2 hs2 hK
        | exit j => exact hk2.elim
        | ret => exact hk2.elim
    · rename_i u hm
      obtain ⟨hc, hy⟩ : c = .tmp u ∧ y = .skip := by
        unfold mrgT at hm
        split at hm
        · split at hm
          · split at hm <;> simp at hm
          · split at hm
            · split at hm <;> simp at hm
              exact ⟨by rw [hm], rfl⟩
            · simp at hm
        · simp at hm
      subst hc hy
      obtain ⟨b, cc, hb, hE, hK⟩ := aMerge_get h
      have hev : a.eval (.tmp u) = .bool b := by have := ht.2 u; rw [hb] at this; exact repA_bool.1 this
      refine wp_cond_split hev (fun e => ?_) (fun e => ?_)
      · have hE := hE e
        rw [set_same (e ▸ hb)] at hE
        refine wp_mono (ihx t H _ hE a w G hi ht) ?_
        rintro e2 a2 w2 ⟨e', t2, H2, G2, her2, hk2, hi2, ht2, hd2, hu2, hs2⟩
        cases her2 with
        | normal =>
          obtain ⟨rfl, hq⟩ := hk2
          have hv : a2.tmps.getD u undef = .bool cc := by have := ht2.2 u; rw [hq] at this; exact repA_bool.1 this
          exact merged u true x b cc hb (fun v hv => by simp [writes, hv]) .normal a2 w2 G2 (fun _ => hv) (fun h => absurd e h) hu2 hd2.2 hd2.1 hi2 hs2 hK
        | exit j => exact hk2.elim
        | ret => exact hk2.elim
      · exact wp_skip (merged u true x b cc hb (fun v hv => by simp [writes, hv]) .normal a w G (fun h => by rw [e] at h; simp at h) (fun _ => hev) (fun _ _ => rfl) rfl rfl hi (.refl w G) hK)
  | block id x ih =>
    intro t H K h a w G hi ht
    refine wp_block (wp_mono (ih t H _ h a w G hi ht) ?_)
    rintro e a1 w1 ⟨e', t1, H1, G1, her, hk, hi1, ht1, hd1, hu1, hs1⟩
    cases her with
    | normal => exact ⟨.normal, t1, H1, G1, .normal, hk, hi1, ht1, hd1, hu1, hs1⟩
    | exit j =>
      simp only [Exit.inBlock]
      simp only [] at hk
      split at hk
      · rename_i hj
        have hj : j = id := by simpa using hj
        rw [if_pos hj]
        exact ⟨.normal, t1, H1, G1, .normal, hk, hi1, ht1, hd1, hu1, hs1⟩
      · rename_i hj
        have hj : ¬ j = id := by simpa using hj
        rw [if_neg hj]
        exact ⟨.exit j, t1, H1, G1, .exit j, hk, hi1, ht1, hd1, hu1, hs1⟩
    | ret => exact ⟨.ret, t1, H1, G1, .ret, hk, hi1, ht1, hd1, hu1, hs1⟩
  | loop x ih =>
    intro t H K h a w G hi ht
    simp only [awp, aLoop, aLoopN, strict_eq] at h
    generalize hkeep : ann ((key x).getD 0) = keep at h
    obtain ⟨n, I, m, ⟨gs, hgs⟩, hall⟩ := h
    obtain ⟨xs0', H0, ⟨xs0, H', hle0, hleO, hn, h0⟩, hxl', hg'⟩ := ghosts_sound gs _ H _ hgs
    obtain ⟨hxll, hxget⟩ := all2_get hle0
    have hxl : xs0.length = (keep.map fun k => t.getD k .top).length := hxll.trans hxl'
    have hg : ∀ (w : World) (G : Gh) (tm : Nat → Value), Inv w G H → RepK G (keep.map fun k => t.getD k .top) tm → ∃ G', Inv w G' H' ∧ RepK G' xs0 tm ∧ Step w G w G' := by
      intro w G tm hi hk
      obtain ⟨G', i1, k1, s1⟩ := hg' w G tm hi hk
      have hl0 : H0.length = n := by rw [← hn]; exact (all2_get hleO).1.symm
      obtain ⟨i2, _⟩ := le_inv (n := n) i1 (H' := H') (by rw [← hl0, List.take_length]; exact hleO) (by omega)
      rw [List.drop_eq_nil_of_le (by omega), List.append_nil] at i2
      refine ⟨G', i2, fun i x hx => ?_, s1⟩
      obtain ⟨x', hx', hle⟩ := hxget i x hx
      exact le_rep hle (k1 i x' hx')
    have hk0 : RepK G (keep.map fun k => t.getD k .top) (fun i => a.tmps.getD (keep.getD i 0) undef) := by
      intro i y hy
      simp only [List.getElem?_map, Option.map_eq_some_iff] at hy
      obtain ⟨u, hu, rfl⟩ := hy
      have e : keep.getD i 0 = u := by rw [List.getD_eq_getElem?_getD, hu]; rfl
      show RepA G (t.getD u .top) (a.tmps.getD (keep.getD i 0) undef)
      rw [e]
      exact ht.2 u
    obtain ⟨Gs, his, hks, hss⟩ := hg w G _ hi hk0
    have hts : RepTm Gs t a.tmps := ht.mono hss.grow
    have hxl0 : xs0.length = keep.length := by simpa using hxl
    refine wp_loop_ind (P := P) (α := List AV × List Ob) (fun y => m y.1 y.2)
      (fun y a1 w1 => ∃ G1, Inv w1 G1 y.2 ∧ y.2.length = n ∧ y.1.length = keep.length ∧ I y.1 y.2 ∧ RepTm G1 (fill (forget t (writes x)) keep y.1) a1.tmps ∧ (a1.defers = a.defers ∧ a1.tmps.size = a.tmps.size) ∧ (∀ u, u ∉ writes x → a1.tmps.getD u undef = a.tmps.getD u undef) ∧ Step w Gs w1 G1)
      ?_ (xs0, H') a w ⟨Gs, his, hn, hxl0, h0, ?_, ⟨rfl, rfl⟩, fun _ _ => rfl, .refl w Gs⟩
    · rintro ⟨xs, H1⟩ a1 w1 ⟨G1, hi1, hl1, hxl, hI, ht1, hd1, hu1, hs1⟩
      have hbody := allN_get _ _ hall xs hxl H1 hl1 hI
      refine wp_mono (ih _ _ _ hbody a1 w1 G1 hi1 ht1) ?_
      rintro e a2 w2 ⟨e2, t2, H2, G2, her2, hk2, hi2, ht2, hd2, hu2, hs2⟩
      have hu12 : ∀ u, u ∉ writes x → a2.tmps.getD u undef = a.tmps.getD u undef := fun u hu => (hu2 u hu).trans (hu1 u hu)
      cases her2 with
      | normal =>
        obtain ⟨xs', H', ⟨hle1, hle2, hb3⟩, ⟨hb1, hb2⟩, hI2, hlt⟩ := hk2
        obtain ⟨i2', hl'⟩ := le_inv hi2 hle2 hb3
        obtain ⟨hxl1, hxg⟩ := all2_get hle1
        have htk : (H' ++ H2.drop n).take n = H' := by rw [← hl']; simp
        have i2t := trim_inv i2' (n := n) (by rw [htk]; exact hb2)
        rw [htk] at i2t
        refine ⟨(xs', H'), ⟨G2.trim n, i2t, hl', by rw [hxl1]; simp, hI2, ?_, ⟨hd2.1.trans hd1.1, hd2.2.trans hd1.2⟩, hu12, ?_⟩, hlt⟩
        · have hgs' : Grow Gs (G2.trim n) := by
            have hg2 := (hs1.trans hs2).grow
            refine ⟨hg2.rd, fun id l e => ?_⟩
            obtain ⟨l', e', hle⟩ := hg2.loc id l e
            refine ⟨l', ?_, hle⟩
            simp only [Gh.trim]
            rw [if_pos (by have := his.loc_lt e; omega)]
            exact e'
          refine ⟨by rw [fill_length, forget_length, ← hts.1]; exact hd2.2.trans hd1.2, fun u => ?_⟩
          refine fill_get u (fun v => RepA (G2.trim n) v (a2.tmps.getD u undef)) _ _ _ ?_ (fun i v hk hv => ?_)
          · refine forget_get u (fun v => RepA (G2.trim n) v (a2.tmps.getD u undef)) (.top _) _ _ (fun hu => ?_)
            rw [hu12 u hu]
            exact (hts.2 u).mono hgs'
          · obtain ⟨v', hv', hle⟩ := hxg i v hv
            simp only [List.getElem?_map, hk, Option.map_some, Option.some.injEq] at hv'
            subst hv'
            exact trim_rep (le_rep hle (ht2.2 u)) (List.all_eq_true.1 hb1 _ (List.mem_of_getElem? hv))
        · have hst := hs1.trans hs2
          intro k
          refine ⟨(hst k).os, (hst k).tape, (hst k).output, (hst k).size, (hst k).keep, (hst k).rd, (hst k).rdn, fun id _ l e => ?_, fun id b e => (hst k).new id b (trim_blk e).1⟩
          obtain ⟨l', e', hle⟩ := hst.grow.loc id l e
          refine ⟨l', ?_, hle⟩
          simp only [Gh.trim]
          rw [if_pos (by have := his.loc_lt e; omega)]
          exact e'
      | exit id => exact ⟨.exit id, t2, H2, G2, .exit id, hk2, hi2, ht2, ⟨hd2.1.trans hd1.1, hd2.2.trans hd1.2⟩, hu12, hss.trans (hs1.trans hs2)⟩
      | ret => exact ⟨.ret, t2, H2, G2, .ret, hk2, hi2, ht2, ⟨hd2.1.trans hd1.1, hd2.2.trans hd1.2⟩, hu12, hss.trans (hs1.trans hs2)⟩
    · refine ⟨by rw [fill_length, forget_length]; exact hts.1, fun u => ?_⟩
      refine fill_get u (fun v => RepA Gs v (a.tmps.getD u undef)) _ _ _ ?_ (fun i v hk hv => ?_)
      · exact forget_get u (fun v => RepA Gs v (a.tmps.getD u undef)) (.top _) _ _ (fun _ => hts.2 u)
      · have := hks i v hv
        simp only [List.getD_eq_getElem?_getD, hk, Option.getD_some] at this
        exact this
  | exit id =>
    intro t H K h a w G hi ht
    exact wp_exit ⟨.exit id, t, H, G, .exit id, h, hi, ht, ⟨rfl, rfl⟩, fun _ _ => rfl, .refl w G⟩
  | ret =>
    intro t H K h a w G hi ht
    exact wp_ret ⟨.ret, t, H, G, .ret, h, hi, ht, ⟨rfl, rfl⟩, fun _ _ => rfl, .refl w G⟩
  | rangeFunc f ps x y => intro t H K h; exact h.elim
  | scope x => intro t H K h; exact h.elim
  | label l => intro t H K h; exact h.elim
  | goto l => intro t H K h; exact h.elim
  | refuse s => intro t H K h; exact h.elim

end Go.Abs
