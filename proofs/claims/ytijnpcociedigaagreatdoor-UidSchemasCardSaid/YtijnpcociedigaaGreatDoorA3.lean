/- Code: what a body does, as a proposition over trees; and that the model does it. -/
import Derived.Carry
import Derived.OpenShut
import Derived.ProofKit
import Derived.ChangeCalls
import Derived.IntWalk
import Derived.Test.YtijnpcociedigaaGreatDoorA2

section
/- Code: what a body does, as a proposition over trees; and that the model does it. -/
namespace Go.Abs

variable {P : Program}

inductive AExit where
  | normal
  | exit (id : Nat)
  | ret

/-- A loop is known by the first region in it. -/
def key : Code → Option Nat
  | .region id _ _ => some id
  | .seq a b => match key a with
    | some i => some i
    | none => key b
  | .cond _ a b => match key a with
    | some i => some i
    | none => key b
  | .block _ a => key a
  | .loop a => key a
  | .scope a => key a
  | _ => none

def writes : Code → List Nat
  | .region _ ops _ => ops.toList.filterMap (·.dst)
  | .seq a b => writes a ++ writes b
  | .cond _ a b => writes a ++ writes b
  | .block _ a => writes a
  | .loop a => writes a
  | _ => []

/-- At a loop's head an empty slice may be made to own its row. -/
inductive Gc where
  | slot (i s : Nat)
  | cell (id off s : Nat)
  | mslot (i s : Nat)
  | mcell (id off s : Nat)
  | fslot (i : Nat)

def ghost : Gc → List AV → List Ob → (List AV → List Ob → Prop) → Prop
  | .slot i s, t, H, K => match t.getD i .top with
    | .full [] => K (t.set i (.own H.length [])) (H ++ [.row 0 s])
    | .full (e :: es) => (∀ x ∈ e :: es, x.cells.length = s) ∧ K (t.set i (.own H.length (e :: es))) (H ++ [.row (es.length + 1) s])
    | _ => False
  | .cell id off s, t, H, K => match H[id]? with
    | some (.box cells) => match cells.getD off .top with
      | .full [] => K t (H.set id (.box (cells.set off (.own H.length []))) ++ [.row 0 s])
      | _ => False
    | _ => False
  | .mslot i s, t, H, K => match t.getD i .top with
    | .full [] => K (t.set i (.msl H.length 0 s 0 0)) (H ++ [.mrow 0 s []])
    | _ => False
  | .mcell id off s, t, H, K => match H[id]? with
    | some (.box cells) => match cells.getD off .top with
      | .full [] => K t (H.set id (.box (cells.set off (.msl H.length 0 s 0 0))) ++ [.mrow 0 s []])
      | _ => False
    | _ => False
  | .fslot i, t, H, K => match t.getD i .top with
    | .msl id v _ off len => match H[id]? with
      | some (.frow v2 _ es) => (v2 = v ∧ off + len ≤ es.length) ∧ K (t.set i (.p (.slice ((es.drop off).take len)))) H
      | _ => False
    | _ => False

def ghosts : List Gc → List AV → List Ob → (List AV → List Ob → Prop) → Prop
  | [], t, H, K => K t H
  | g :: gs, t, H, K => ghost g t H fun t' H' => ghosts gs t' H' K

def allN : Nat → (List AV → Prop) → Prop
  | 0, p => p []
  | n + 1, p => ∀ x, allN n fun xs => p (x :: xs)

def fill (base : List AV) : List Nat → List AV → List AV
  | k :: ks, x :: xs => fill (base.set k x) ks xs
  | _, _ => base

def all2 {α : Type} (R : α → α → Prop) : List α → List α → Prop
  | [], [] => True
  | x :: xs, y :: ys => R x y ∧ all2 R xs ys
  | _, _ => False

/-- What may be said in place of a value: less of the same. -/
def AV.le1 : AV → AV → Prop
  | _, .top => True
  | x, .p t => x.cellT = some t
  | x, y => x = y

def AV.le : AV → AV → Prop
  | .agg cs, .p t => (AV.agg cs).toT = some t
  | .agg cs, .agg ds => all2 AV.le1 cs ds
  | x, y => x.le1 y

def Ob.le : Ob → Ob → Prop
  | .box cs, .box ds => all2 AV.le1 cs ds
  | .mrow v s es, .mrow v' s' es' => v = v' ∧ s = s' ∧ es' <+: es
  | x, y => x = y

/-- Back at a loop's head. -/
def Back (n : Nat) (I : List AV → List Ob → Prop) (m : List AV → List Ob → Nat) (was : Nat) (xs : List AV) (H : List Ob) : Prop :=
  ∃ xs' H', (all2 AV.le xs xs' ∧ all2 Ob.le (H.take n) H' ∧ n ≤ H.length) ∧ (xs'.all (AV.under n) = true ∧ H'.all (Ob.below n) = true) ∧ I xs' H' ∧ m xs' H' < was

/-- A loop over so many slots: what holds at its head, and what each round lowers, is chosen in the proof. -/
def aLoopN (k : Nat) (xs0 : List AV) (H : List Ob) (body : List AV → List Ob → (List AV → List Ob → Prop) → Prop) : Prop :=
  ∃ (n : Nat) (I : List AV → List Ob → Prop) (m : List AV → List Ob → Nat), (∃ gs, ghosts gs xs0 H fun xs H' => ∃ xs' H2, all2 AV.le xs xs' ∧ all2 Ob.le H' H2 ∧ H2.length = n ∧ I xs' H2) ∧
    allN k fun xs => ∀ H1, H1.length = n → I xs H1 → body xs H1 fun xs' H2 => Back n I m (m xs H1) xs' H2

def aLoop (keep ws : List Nat) (body : List AV → List Ob → (AExit → List AV → List Ob → Prop) → Prop) (t : List AV) (H : List Ob) (K : AExit → List AV → List Ob → Prop) : Prop :=
  aLoopN keep.length (keep.map fun k => t.getD k .top) H fun xs H1 B => strict (fill (forget t ws) keep xs) fun t1 => body t1 H1 fun e t2 H2 => match e with
    | .normal => B (keep.map fun k => t2.getD k .top) H2
    | e => K e t2 H2

def lit (t : List AV) (c : Operand) (b : Bool) : List AV :=
  match c with
  | .tmp u => t.set u (.p (.bool b))
  | _ => t

/-- Where a truth and what hangs on it are to come together in one value. -/
inductive Mg where
  | no
  | orr (u : Nat)
  | andd (u : Nat)

def mark (ann : Nat → List Nat) (c : Code) : Bool :=
  match ann ((key c).getD 0 + 1000000) with
  | [] => false
  | _ => true

def mrgT (ann : Nat → List Nat) (c : Operand) (a b : Code) : Mg :=
  match c with
  | .tmp u => match a with
    | .skip => match mark ann b with
      | true => .orr u
      | false => .no
    | a => match b with
      | .skip => match mark ann a with
        | true => .andd u
        | false => .no
      | _ => .no
  | _ => .no

/-- The way back of what hangs on a truth. -/
def kMrg (u : Nat) (H : List Ob) (Q : AV → Prop) (e : AExit) (t' : List AV) (H' : List Ob) : Prop :=
  match e with
  | .normal => H' = H ∧ Q (t'.getD u .top)
  | _ => False

/-- The slots that are kept, where it is said which. -/
def keepS (l : List Nat) : Nat → List AV → List AV
  | _, [] => []
  | i, x :: r => (match l.contains i with
    | true => x
    | false => .top) :: keepS l (i + 1) r

def trimS (ann : Nat → List Nat) (b : Code) (t : List AV) : List AV :=
  match ann ((key b).getD 0 + 2000000) with
  | [] => t
  | l => keepS l 0 t

theorem keepS_length (l : List Nat) : ∀ (t : List AV) (i : Nat), (keepS l i t).length = t.length
  | [], _ => rfl
  | x :: r, i => by simp [keepS, keepS_length l r]

theorem keepS_get (l : List Nat) (p : AV → Prop) (htop : p .top) : ∀ (t : List AV) (i u : Nat), p (t.getD u .top) → p ((keepS l i t).getD u .top)
  | [], _, _, h => h
  | x :: r, i, 0, h => by
    simp only [keepS, List.getD_cons_zero] at h ⊢
    split
    · exact h
    · exact htop
  | x :: r, i, u + 1, h => by
    simp only [keepS, List.getD_cons_succ] at h ⊢
    exact keepS_get l p htop r (i + 1) u h

theorem trimS_rep {ann : Nat → List Nat} {b : Code} {G : Gh} {t : List AV} {tm : Array Value} (h : RepTm G t tm) : RepTm G (trimS ann b t) tm := by
  unfold trimS
  split
  · exact h
  · exact ⟨by rw [keepS_length]; exact h.1, fun i => keepS_get _ (fun v => RepA G v (tm.getD i undef)) (.top _) t 0 i (h.2 i)⟩

def awp (P : Program) (ann : Nat → List Nat) : Code → List AV → List Ob → (AExit → List AV → List Ob → Prop) → Prop
  | .skip, t, H, K => K .normal t H
  | .region id ops draw, t, H, K => aRegionX P (ann (id + 3000000)) ops draw t H fun t' H' => K .normal t' H'
  | .seq a b, t, H, K => awp P ann a t H fun e t' H' => match e with
    | .normal => strict (trimS ann b t') fun t' => awp P ann b t' H' K
    | e => K e t' H'
  | .cond c a b, t, H, K => match mrgT ann c a b with
    | .no => aGuard (rho t c) (strict (lit t c true) fun t => awp P ann a t H K) (strict (lit t c false) fun t => awp P ann b t H K)
    | .orr u => aMerge false (t.getD u .top) (fun Q => strict (t.set u (.p (.bool false))) fun t => awp P ann b t H (kMrg u H Q)) (fun v => strict ((forget t (writes b)).set u v) fun t => K .normal t H)
    | .andd u => aMerge true (t.getD u .top) (fun Q => strict (t.set u (.p (.bool true))) fun t => awp P ann a t H (kMrg u H Q)) (fun v => strict ((forget t (writes a)).set u v) fun t => K .normal t H)
  | .block id a, t, H, K => awp P ann a t H fun e t' H' => match e with
    | .exit j => match j == id with
      | true => K .normal t' H'
      | false => K (.exit j) t' H'
    | e => K e t' H'
  | .loop a, t, H, K => aLoop (ann ((key a).getD 0)) (writes a) (awp P ann a) t H K
  | .exit id, t, H, K => K (.exit id) t H
  | .ret, t, H, K => K .ret t H
  | _, _, _, _ => False

/- Soundness. -/
inductive ExitRel : Exit → AExit → Prop where
  | normal : ExitRel .normal .normal
  | exit (id : Nat) : ExitRel (.exit id) (.exit id)
  | ret : ExitRel .ret .ret

/-- What holds behind a piece of code. -/
def Post (c : Code) (K : AExit → List AV → List Ob → Prop) (a0 : Act) (w0 : World) (G0 : Gh) (e : Exit) (a : Act) (w : World) : Prop :=
  ∃ (e' : AExit) (t : List AV) (H : List Ob) (G : Gh), ExitRel e e' ∧ K e' t H ∧ Inv w G H ∧ RepTm G t a.tmps ∧ (a.defers = a0.defers ∧ a.tmps.size = a0.tmps.size) ∧ (∀ u, u ∉ writes c → a.tmps.getD u undef = a0.tmps.getD u undef) ∧ Step w0 G0 w G

theorem wp_loop_ind {α : Type} {c : Code} {Q : Exit → Act → World → Prop} (m : α → Nat) (I : α → Act → World → Prop)
    (round : ∀ x a w, I x a w → c.wp P (Exit.then (fun a' w' => ∃ y, I y a' w' ∧ m y < m x) Q) a w) : ∀ (x : α) (a : Act) (w : World), I x a w → (Code.loop c).wp P Q a w := by
  intro x a w h₀ b k cs
  have keyl : ∀ n x a w, m x = n → I x a w → ∃ e a' w', Q e a' w' ∧ Arrives P (lone (b.at a (.code c :: .inLoop c :: k)) cs w) b k cs e a' w' := by
    intro n
    induction n using Nat.strongRecOn with
    | _ n ih =>
      intro x a w hn hI
      obtain ⟨e, a₁, w₁, hq, harr⟩ := round x a w hI b (.inLoop c :: k) cs
      cases e with
      | normal =>
        obtain ⟨y, hI₁, hlt⟩ := hq
        obtain ⟨e₂, a₂, w₂, hq₂, harr₂⟩ := ih (m y) (hn ▸ hlt) y a₁ w₁ rfl hI₁
        exact ⟨e₂, a₂, w₂, hq₂, .of_steps (Steps.trans harr (.one step_inLoop)) harr₂⟩
      | exit id => exact ⟨_, a₁, w₁, hq, .pass (x := .inLoop c) rfl (fun _ _ => .inl (by simp)) harr⟩
      | goto l => exact ⟨_, a₁, w₁, hq, .pass (x := .inLoop c) rfl (fun _ _ => .inl (by simp)) harr⟩
      | ret => exact ⟨_, a₁, w₁, hq, .pass (x := .inLoop c) rfl (fun _ _ => .inl (by simp)) harr⟩
      | panic ch => exact ⟨_, a₁, w₁, hq, .pass (x := .inLoop c) rfl (fun _ _ => .inl (by simp)) harr⟩
      | outgrown => exact ⟨_, a₁, w₁, hq, .pass (x := .inLoop c) rfl (fun _ _ => .inl (by simp)) harr⟩
  obtain ⟨e, a', w', hq, harr⟩ := keyl _ x a w rfl h₀
  exact ⟨e, a', w', hq, .of_steps (.one step_loop) harr⟩

theorem allN_get : ∀ (n : Nat) (p : List AV → Prop), allN n p → ∀ xs : List AV, xs.length = n → p xs
  | 0, p, h, [], _ => h
  | n + 1, p, h, x :: xs, hl => allN_get n _ (h x) xs (by simpa using hl)

/-- The kept slots' values. -/
def RepK (G : Gh) (xs : List AV) (tm : Nat → Value) : Prop := ∀ (i : Nat) (x : AV), xs[i]? = some x → RepA G x (tm i)

theorem RepK.mono {G G' : Gh} (g : Grow G G') {xs : List AV} {tm : Nat → Value} (h : RepK G xs tm) : RepK G' xs tm := fun i x e => (h i x e).mono g

/-- A new row that has nothing yet, in a slot. -/
theorem slot_new {H : List Ob} {t : List AV} {i : Nat} (hx : t.getD i .top = .full []) (y : AV) (ob : Ob) (l : Option Addr → Loc) (hb : ∀ a, (l a).blk = none) (ho : ∀ w G a, Holds w G (l a) ob)
    (hy : ∀ G a, G.loc H.length = some (l a) → RepA G y (.slice a 0 0)) {w : World} {G : Gh} {tm : Nat → Value} (hi : Inv w G H) (ht : RepK G t tm) : ∃ G', Inv w G' (H ++ [ob]) ∧ RepK G' (t.set i y) tm ∧ Step w G w G' := by
  have hil : i < t.length := by
    rcases Nat.lt_or_ge i t.length with hl | hl
    · exact hl
    · rw [List.getD_eq_getElem?_getD, List.getElem?_eq_none hl] at hx; simp at hx
  have r := ht i _ (lt_get hil .top)
  rw [hx] at r
  obtain ⟨a, ev⟩ : ∃ a, tm i = .slice a 0 0 := by
    generalize tm i = v at r
    cases r with
    | full _ a h => exact ⟨a, rfl⟩
  obtain ⟨i1, s1⟩ := add_loc hi (l a) ob (hb a) (ho _ _ a)
  refine ⟨_, i1, fun u x hu => ?_, s1⟩
  by_cases hui : i = u
  · subst hui
    simp [hil] at hu
    subst hu
    rw [ev]
    exact hy _ a (by simp [Gh.withLoc])
  · rw [List.getElem?_set_ne hui] at hu
    exact (ht u x hu).mono s1.grow

/-- .. in a variable's cell. -/
theorem cell_new {H : List Ob} {id off : Nat} {cells : List AV} (hob : H[id]? = some (.box cells)) (hx : cells.getD off .top = .full []) (y : AV) (ob : Ob) (l : Option Addr → Loc) (hb : ∀ a, (l a).blk = none) (ho : ∀ w G a, Holds w G (l a) ob)
    (hy : ∀ G a, G.loc H.length = some (l a) → RepA G y (.slice a 0 0)) {t : List AV} {w : World} {G : Gh} {tm : Nat → Value} (hi : Inv w G H) (ht : RepK G t tm) : ∃ G', Inv w G' (H.set id (.box (cells.set off y)) ++ [ob]) ∧ RepK G' t tm ∧ Step w G w G' := by
  cases hl : G.loc id with
  | none =>
    -- the object is known, but lies nowhere: nothing is owed
    have i0 : Inv w G (H.set id (.box (cells.set off y))) := by
      refine ⟨hi.rd, fun j l e => ?_, hi.dis, hi.tab⟩
      obtain ⟨ob, ho, hh⟩ := hi.obj j l e
      have hne : id ≠ j := fun he => by subst he; rw [hl] at e; simp at e
      exact ⟨ob, by rw [List.getElem?_set_ne hne]; exact ho, hh⟩
    obtain ⟨i1, s1⟩ := add_loc i0 (l none) ob (hb none) (ho _ _ none)
    exact ⟨_, i1, ht.mono s1.grow, s1⟩
  | some l' =>
    obtain ⟨ob', ho', hh⟩ := hi.obj id l' hl
    rw [hob] at ho'; simp at ho'; subst ho'
    cases l' with
    | row => exact hh.elim
    | mrow => exact hh.elim
    | box b =>
      obtain ⟨cs, ty, e1, e2, e3, e4⟩ := hh
      rcases Nat.lt_or_ge off cells.length with hoff | hoff
      · have hc : cells[off]? = some (.full []) := by
          rw [List.getD_eq_getElem?_getD, List.getElem?_eq_getElem hoff] at hx
          rw [List.getElem?_eq_getElem hoff]
          simpa using hx
        obtain ⟨r, _⟩ := e3 off _ hc
        obtain ⟨a, ev⟩ : ∃ a, cs.getD off undef = .slice a 0 0 := by
          generalize cs.getD off undef = v at r
          cases r with
          | full _ a h => exact ⟨a, rfl⟩
        obtain ⟨i1, s1⟩ := add_loc hi (l a) ob (hb a) (ho _ _ a)
        have hidl := hi.loc_lt hl
        refine ⟨_, ⟨i1.rd, fun j l2 e => ?_, i1.dis, i1.tab⟩, ht.mono s1.grow, s1⟩
        obtain ⟨ob2, ho2, hh⟩ := i1.obj j l2 e
        by_cases hj : j = id
        · subst hj
          rw [List.getElem?_append_left hidl, hob] at ho2
          simp at ho2; subst ho2
          have hl' : l2 = .box b := by
            simp only [Gh.withLoc] at e
            rw [if_neg (by omega), hl] at e
            simpa using e.symm
          subst hl'
          obtain ⟨cs', ty', f1, f2, f3, f4⟩ := hh
          rw [e1] at f1
          simp at f1
          obtain ⟨rfl, rfl⟩ := f1
          refine ⟨.box (cells.set off y), by rw [List.getElem?_append_left (by simpa using hidl)]; simp [hidl], cs, ty, e1, by simpa using e2, fun k c hk => ?_, f4⟩
          by_cases hko : off = k
          · subst hko
            simp [hoff] at hk
            subst hk
            rw [ev]
            exact ⟨hy _ a (by simp [Gh.withLoc]), rfl⟩
          · rw [List.getElem?_set_ne hko] at hk
            exact f3 k c hk
        · refine ⟨ob2, ?_, hh⟩
          rcases Nat.lt_or_ge j H.length with h1 | h1
          · rw [List.getElem?_append_left h1] at ho2
            rw [List.getElem?_append_left (by simpa using h1), List.getElem?_set_ne (fun h => hj h.symm)]
            exact ho2
          · rw [List.getElem?_append_right h1] at ho2
            rw [List.getElem?_append_right (by simpa using h1)]
            simpa using ho2
      · rw [List.getD_eq_getElem?_getD, List.getElem?_eq_none hoff] at hx; simp at hx

theorem own_new {n s : Nat} (G : Gh) (a : Option Addr) (h : G.loc n = some (.row a 0 0 s)) : RepA G (.own n []) (.slice a 0 0) :=
  .own n [] a a 0 0 0 s (.nil a 0) h (Nat.le_refl _) (fun _ => ⟨rfl, rfl⟩) (fun e he => by simp at he)

theorem msl_new {n s : Nat} (G : Gh) (a : Option Addr) (h : G.loc n = some (.mrow a 0 0 s)) : RepA G (.msl n 0 s 0 0) (.slice a 0 0) :=
  .msl n 0 s 0 0 a a a 0 0 0 0 h (Nat.le_refl _) (fun _ => ⟨rfl, rfl⟩) (Nat.le_refl _) (Nat.zero_le _) (fun h => absurd h (Nat.lt_irrefl _)) rfl (fun h => absurd h (Nat.lt_irrefl _))

theorem row_blk0 (s : Nat) (a : Option Addr) : (Loc.row a 0 0 s).blk = none := by cases a <;> simp [Loc.blk]
theorem mrow_blk0 (s : Nat) (a : Option Addr) : (Loc.mrow a 0 0 s).blk = none := by cases a <;> simp [Loc.blk]
theorem row_holds0 (s : Nat) (w : World) (G : Gh) (a : Option Addr) : Holds w G (.row a 0 0 s) (.row 0 s) := ⟨rfl, rfl, Nat.le_refl _, fun h => absurd h (Nat.lt_irrefl _)⟩
theorem mrow_holds0 (s : Nat) (w : World) (G : Gh) (a : Option Addr) : Holds w G (.mrow a 0 0 s) (.mrow 0 s []) := ⟨⟨rfl, rfl, Nat.le_refl _, by simp⟩, fun h => absurd h (Nat.lt_irrefl _)⟩

/-- What a frozen row's parts are. -/
theorem frow_part {w : World} {G : Gh} {H : List Ob} (hi : Inv w G H) {id ver s0 : Nat} {es : List T} (ho : H[id]? = some (.frow ver s0 es)) {s off len : Nat} {v : Value} (r : RepA G (.msl id ver s off len) v) (hle : off + len ≤ es.length) : RepT G.rd (.slice ((es.drop off).take len)) v := by
  have hn : ((es.drop off).take len).length = len := by simp; omega
  cases r with
  | msl _ _ _ _ _ a a' a2 cap cap' ver' c2 hl hv he hc hm hz h2 ha =>
    obtain ⟨ob, ho2, hh⟩ := hi.obj id _ hl
    rw [ho] at ho2; simp at ho2; subst ho2
    obtain ⟨⟨rfl, rfl, h3, h4⟩, h5⟩ := hh
    obtain ⟨rfl, rfl⟩ := he rfl
    by_cases h0 : len = 0
    · subst h0
      rw [List.take_zero]
      exact .nil _ _
    · obtain ⟨b, o, rfl, _, h7⟩ := h5 (by omega)
      have ha := ha (by omega)
      subst ha
      simp only [Option.map_some, addr_add]
      have look : ∀ i e, ((es.drop off).take len)[i]? = some e → es[off + i]? = some e := by
        intro i e he
        rw [List.getElem?_take] at he
        split at he
        · rwa [List.getElem?_drop] at he
        · simp at he
      have hidx : ∀ i j, o + (off + i) * s + j = o + off * s + i * s + j := by intro i j; rw [Nat.add_mul]; omega
      have := RepT.slice (rd := G.rd) ((es.drop off).take len) b (o + off * s) c2 s (fun i j => (G.rd b (o + (off + i) * s + j)).getD undef) (fun e he => h4 e (List.mem_of_mem_drop (List.mem_of_mem_take he)))
        (fun i j e c he hc => by
          obtain ⟨u, g1, _, _⟩ := h7 (off + i) j e c (look i e he) hc
          rw [← hidx, g1]; rfl)
        (fun i j e c he hc => by
          obtain ⟨u, g1, g2, _⟩ := h7 (off + i) j e c (look i e he) hc
          rw [g1]; exact g2)
        (fun i j e c he hc => by
          obtain ⟨u, g1, _, g3⟩ := h7 (off + i) j e c (look i e he) hc
          rw [g1]; exact g3) (by omega) (by omega)
      rwa [hn] at this

theorem ghost_sound {g : Gc} {t : List AV} {H : List Ob} {K : List AV → List Ob → Prop} (h : ghost g t H K) : ∃ t' H', K t' H' ∧ t'.length = t.length ∧ ∀ (w : World) (G : Gh) (tm : Nat → Value), Inv w G H → RepK G t tm → ∃ G', Inv w G' H' ∧ RepK G' t' tm ∧ Step w G w G' := by
  cases g with
  | slot i s =>
    simp only [ghost] at h
    split at h
    · rename_i hx
      exact ⟨_, _, h, by simp, fun w G tm hi ht => slot_new hx _ _ (fun a => .row a 0 0 s) (row_blk0 s) (row_holds0 s) own_new hi ht⟩
    · rename_i e es hx
      obtain ⟨hsz, h⟩ := h
      refine ⟨_, _, h, by simp, fun w G tm hi ht => ?_⟩
      have hil : i < t.length := by
        rcases Nat.lt_or_ge i t.length with hl | hl
        · exact hl
        · rw [List.getD_eq_getElem?_getD, List.getElem?_eq_none hl] at hx; simp at hx
      have r := ht i _ (lt_get hil .top)
      rw [hx] at r
      obtain ⟨a, ev, hr⟩ : ∃ a, tm i = .slice a (e :: es).length (e :: es).length ∧ RepT G.rd (.slice (e :: es)) (.slice a (e :: es).length (e :: es).length) := by
        generalize tm i = v at r
        cases r with
        | full _ a h => exact ⟨a, rfl, h⟩
      obtain ⟨i1, s1⟩ := add_loc hi (.row a (e :: es).length (e :: es).length s) (.row (es.length + 1) s) (by cases a <;> simp [Loc.blk]) ⟨rfl, rfl, Nat.le_refl _, fun h => absurd h (Nat.lt_irrefl _)⟩
      refine ⟨_, i1, fun u x hu => ?_, s1⟩
      by_cases hui : i = u
      · subst hui
        simp [hil] at hu
        subst hu
        rw [ev]
        exact .own H.length (e :: es) a a _ _ _ s (hr.mono s1.grow.rd) (by simp [Gh.withLoc]) (Nat.le_refl _) (fun _ => ⟨rfl, rfl⟩) hsz
      · rw [List.getElem?_set_ne hui] at hu
        exact (ht u x hu).mono s1.grow
    · exact h.elim
  | cell id off s =>
    simp only [ghost] at h
    split at h
    · rename_i cells hob
      split at h
      · rename_i hx
        exact ⟨_, _, h, rfl, fun w G tm hi ht => cell_new hob hx _ _ (fun a => .row a 0 0 s) (row_blk0 s) (row_holds0 s) own_new hi ht⟩
      · exact h.elim
    · exact h.elim
  | mslot i s =>
    simp only [ghost] at h
    split at h
    · rename_i hx
      exact ⟨_, _, h, by simp, fun w G tm hi ht => slot_new hx _ _ (fun a => .mrow a 0 0 s) (mrow_blk0 s) (mrow_holds0 s) msl_new hi ht⟩
    · exact h.elim
  | mcell id off s =>
    simp only [ghost] at h
    split at h
    · rename_i cells hob
      split at h
      · rename_i hx
        exact ⟨_, _, h, rfl, fun w G tm hi ht => cell_new hob hx _ _ (fun a => .mrow a 0 0 s) (mrow_blk0 s) (mrow_holds0 s) msl_new hi ht⟩
      · exact h.elim
    · exact h.elim
  | fslot i =>
    simp only [ghost] at h
    split at h
    · rename_i id v s off len hx
      split at h
      · rename_i v2 s2 es hob
        obtain ⟨⟨rfl, hle⟩, h⟩ := h
        refine ⟨_, _, h, by simp, fun w G tm hi ht => ⟨G, hi, fun u x hu => ?_, .refl w G⟩⟩
        have hil : i < t.length := by
          rcases Nat.lt_or_ge i t.length with hl | hl
          · exact hl
          · rw [List.getD_eq_getElem?_getD, List.getElem?_eq_none hl] at hx; simp at hx
        by_cases hui : i = u
        · subst hui
          simp [hil] at hu
          subst hu
          have r := ht i _ (lt_get hil .top)
          rw [hx] at r
          exact .p _ _ (frow_part hi hob r hle)
        · rw [List.getElem?_set_ne hui] at hu
          exact ht u x hu
      · exact h.elim
    · exact h.elim

theorem ghosts_sound : ∀ (gs : List Gc) (t : List AV) (H : List Ob) (K : List AV → List Ob → Prop), ghosts gs t H K → ∃ t' H', K t' H' ∧ t'.length = t.length ∧ ∀ (w : World) (G : Gh) (tm : Nat → Value), Inv w G H → RepK G t tm → ∃ G', Inv w G' H' ∧ RepK G' t' tm ∧ Step w G w G'
  | [], t, H, K, h => ⟨t, H, h, rfl, fun w G tm hi ht => ⟨G, hi, ht, .refl w G⟩⟩
  | g :: gs, t, H, K, h => by
    obtain ⟨t1, H1, h1, l1, r1⟩ := ghost_sound h
    obtain ⟨t2, H2, h2, l2, r2⟩ := ghosts_sound gs t1 H1 K h1
    refine ⟨t2, H2, h2, l2.trans l1, fun w G tm hi ht => ?_⟩
    obtain ⟨G1, i1, t1', s1⟩ := r1 w G tm hi ht
    obtain ⟨G2, i2, t2', s2⟩ := r2 w G1 tm i1 t1'
    exact ⟨G2, i2, t2', s1.trans s2⟩

def Gh.trim (G : Gh) (n : Nat) : Gh := ⟨G.rd, fun id => if id < n then G.loc id else none⟩

theorem trim_one {G : Gh} {n : Nat} {x : AV} {v : Value} (h : RepA G x v) (hb : x.under1 n = true) : RepA (G.trim n) x v := by
  cases h with
  | p t v h => exact .p t v h
  | full es a h => exact .full es a h
  | own id es a a' cap cap' k s h hl hn he hs =>
    simp [AV.under1] at hb
    exact .own id es a a' cap cap' k s h (by simp [Gh.trim, hb, hl]) hn he hs
  | bptr id off b hl =>
    simp [AV.under1] at hb
    exact .bptr id off b (by simp [Gh.trim, hb, hl])
  | mclo f caps vs hn hv =>
    simp only [AV.under1, List.all_eq_true, decide_eq_true_eq] at hb
    refine .mclo f caps vs hn (fun j c hj => ?_)
    obtain ⟨b, h1, h2⟩ := hv j c hj
    have := hb c (List.mem_of_getElem? hj)
    exact ⟨b, by simp [Gh.trim, this, h1], h2⟩
  | top v => exact .top v
  | nils cap => exact .nils cap
  | nns es a cap h => exact .nns es a cap h
  | msl id ver s off len a a' a2 cap cap' ver' c2 hl hn he hc hm hz h2 ha =>
    simp [AV.under1] at hb
    exact .msl id ver s off len a a' a2 cap cap' ver' c2 (by simp [Gh.trim, hb, hl]) hn he hc hm hz h2 ha
  | mptr id ver s i off b o a a' cap cap' ver' hl hn he hi ha =>
    simp [AV.under1] at hb
    exact .mptr id ver s i off b o a a' cap cap' ver' (by simp [Gh.trim, hb, hl]) hn he hi ha
  | bnd f id off b hl =>
    simp [AV.under1] at hb
    exact .bnd f id off b (by simp [Gh.trim, hb, hl])
  | mapr id b hl =>
    simp [AV.under1] at hb
    exact .mapr id b (by simp [Gh.trim, hb, hl])
  | agg cs vs hn hv hk => simp [AV.under1] at hb
  | tup cs vs hn hv => simp [AV.under1] at hb

theorem trim_rep {G : Gh} {n : Nat} {x : AV} {v : Value} (h : RepA G x v) (hb : x.under n = true) : RepA (G.trim n) x v := by
  cases x with
  | agg cs =>
    simp only [AV.under, List.all_eq_true] at hb
    cases h with
    | agg _ vs hn hv hk => exact .agg cs vs hn (fun j c hj => trim_one (hv j c hj) (hb c (List.mem_of_getElem? hj))) hk
  | tup cs =>
    simp only [AV.under, List.all_eq_true] at hb
    cases h with
    | tup _ vs hn hv => exact .tup cs vs hn (fun j c hj => trim_one (hv j c hj) (hb c (List.mem_of_getElem? hj)))
  | p t => exact trim_one h hb
  | full es => exact trim_one h hb
  | own id es => exact trim_one h hb
  | bptr id off => exact trim_one h hb
  | mclo f caps => exact trim_one h hb
  | top => exact trim_one h hb
  | nils => exact trim_one h hb
  | nns es => exact trim_one h hb
  | msl id ver s off len => exact trim_one h hb
  | mptr id ver s i off => exact trim_one h hb
  | bnd f id off => exact trim_one h hb
  | mapr id => exact trim_one h hb

theorem trim_blk {G : Gh} {n id b : Nat} (h : (G.trim n).blk id = some b) : G.blk id = some b ∧ id < n := by
  simp only [Gh.blk, Gh.trim] at h ⊢
  split at h
  · rename_i hlt; exact ⟨h, hlt⟩
  · simp at h

theorem trim_inv {w : World} {G : Gh} {H : List Ob} (hi : Inv w G H) {n : Nat} (hb : (H.take n).all (Ob.below n) = true) : Inv w (G.trim n) (H.take n) := by
  refine ⟨hi.rd, fun id l e => ?_, fun i j b e1 e2 => hi.dis i j b (trim_blk e1).1 (trim_blk e2).1, hi.tab⟩
  simp only [Gh.trim] at e
  split at e
  · rename_i hlt
    obtain ⟨ob, ho, hh⟩ := hi.obj id l e
    have hg : (H.take n)[id]? = some ob := by rw [List.getElem?_take, if_pos hlt]; exact ho
    refine ⟨ob, hg, ?_⟩
    have hbo := List.all_eq_true.1 hb ob (List.mem_of_getElem? hg)
    cases l with
    | box b =>
      cases ob with
      | box cells =>
        simp only [Ob.below, List.all_eq_true] at hbo
        obtain ⟨cs, ty, e1, e2, e3, e4⟩ := hh
        exact ⟨cs, ty, e1, e2, fun j c hj => ⟨trim_one (e3 j c hj).1 (hbo c (List.mem_of_getElem? hj)), (e3 j c hj).2⟩, e4⟩
      | fz cs => exact hh
      | mapo es => exact hh
      | _ => exact hh.elim
    | row a cap k s =>
      cases ob with
      | row k' s' => exact hh
      | _ => exact hh.elim
    | mrow a cap v s =>
      cases ob with
      | mrow v' s' es => exact hh
      | frow v' s' es => exact hh
      | _ => exact hh.elim
  · simp at e

/- Less of the same. -/
theorem all2_get {α : Type} {R : α → α → Prop} : ∀ {xs ys : List α}, all2 R xs ys → ys.length = xs.length ∧ ∀ (j : Nat) (y : α), ys[j]? = some y → ∃ x, xs[j]? = some x ∧ R x y
  | [], [], _ => ⟨rfl, fun j y h => by simp at h⟩
  | [], _ :: _, h => h.elim
  | _ :: _, [], h => h.elim
  | x :: xs, y :: ys, h => by
    obtain ⟨h1, h2⟩ := all2_get h.2
    refine ⟨by simp [h1], fun j z hj => ?_⟩
    cases j with
    | zero => simp at hj; subst hj; exact ⟨x, rfl, h.1⟩
    | succ j => simp at hj; simpa using h2 j z hj

theorem le1_rep {G : Gh} {x y : AV} {v : Value} (h : x.le1 y) (r : RepA G x v) : RepA G y v := by
  unfold AV.le1 at h
  split at h
  · exact .top v
  · exact .p _ _ (r.cellT h)
  · subst h; exact r

theorem le_rep {G : Gh} {x y : AV} {v : Value} (h : x.le y) (r : RepA G x v) : RepA G y v := by
  unfold AV.le at h
  split at h
  · exact .p _ _ (r.toT h)
  · rename_i cs ds
    obtain ⟨h1, h2⟩ := all2_get h
    cases r with
    | agg _ vs hn hv hk =>
      refine .agg ds vs (hn.trans h1.symm) (fun j c hj => ?_) (fun j c hj => ?_)
      · obtain ⟨x, hx, hl⟩ := h2 j c hj
        exact le1_rep hl (hv j x hx)
      · obtain ⟨x, hx, hl⟩ := h2 j c hj
        exact hk j x hx
  · exact le1_rep h r

theorem le_holds {w : World} {G : Gh} {l : Loc} {x y : Ob} (h : x.le y) (r : Holds w G l x) : Holds w G l y := by
  unfold Ob.le at h
  split at h
  · obtain ⟨h1, h2⟩ := all2_get h
    cases l with
    | box b =>
      obtain ⟨cs, ty, e1, e2, e3, e4⟩ := r
      refine ⟨cs, ty, e1, e2.trans h1.symm, fun j c hj => ?_, e4⟩
      obtain ⟨x, hx, hl⟩ := h2 j c hj
      exact ⟨le1_rep hl (e3 j x hx).1, (e3 j x hx).2⟩
    | row => exact r.elim
    | mrow => exact r.elim
  · obtain ⟨rfl, rfl, k, rfl⟩ := h
    cases l with
    | box b => exact r.elim
    | row => exact r.elim
    | mrow a cap v s =>
      obtain ⟨⟨h1, h2, h3, h4⟩, h5⟩ := r
      refine ⟨⟨h1, h2, by simp at h3; omega, fun e he => h4 e (List.mem_append_left _ he)⟩, fun hc => ?_⟩
      obtain ⟨b, o, e1, ⟨cs, ty, e2, e3, e4⟩, e5⟩ := h5 hc
      exact ⟨b, o, e1, ⟨cs, ty, e2, e3, fun i j e c he hc => e4 i j e c (by rw [List.getElem?_append_left (List.getElem?_eq_some_iff.1 he).1]; exact he) hc⟩, e5⟩
  · subst h; exact r

theorem le_inv {w : World} {G : Gh} {H H' : List Ob} (hi : Inv w G H) {n : Nat} (h : all2 Ob.le (H.take n) H') (hn : n ≤ H.length) : Inv w G (H' ++ H.drop n) ∧ H'.length = n := by
  obtain ⟨h1, h2⟩ := all2_get h
  have hl : H'.length = n := by rw [h1]; simp; omega
  refine ⟨⟨hi.rd, fun j l e => ?_, hi.dis, hi.tab⟩, hl⟩
  obtain ⟨ob, ho, hh⟩ := hi.obj j l e
  rcases Nat.lt_or_ge j n with hj | hj
  · have hj' : j < H'.length := by omega
    obtain ⟨x, hx, hle⟩ := h2 j H'[j] (List.getElem?_eq_getElem hj')
    rw [List.getElem?_take, if_pos hj, ho] at hx
    simp at hx; subst hx
    exact ⟨H'[j], by rw [List.getElem?_append_left hj', List.getElem?_eq_getElem hj'], le_holds hle hh⟩
  · refine ⟨ob, ?_, hh⟩
    rw [List.getElem?_append_right (by omega), hl, List.getElem?_drop, show n + (j - n) = j by omega]
    exact ho

theorem fill_length : ∀ (ks : List Nat) (xs : List AV) (base : List AV), (fill base ks xs).length = base.length
  | [], xs, base => by cases xs <;> rfl
  | k :: ks, [], base => rfl
  | k :: ks, x :: xs, base => by rw [fill, fill_length]; simp

theorem fill_get (u : Nat) (p : AV → Prop) : ∀ (ks : List Nat) (xs : List AV) (base : List AV), p (base.getD u .top) → (∀ (i : Nat) (x : AV), ks[i]? = some u → xs[i]? = some x → p x) → p ((fill base ks xs).getD u .top)
  | [], xs, base, h, _ => by cases xs <;> exact h
  | k :: ks, [], base, h, _ => h
  | k :: ks, x :: xs, base, h, hx => by
    rw [fill]
    refine fill_get u p ks xs _ ?_ (fun i y h1 h2 => hx (i + 1) y (by simpa using h1) (by simpa using h2))
    rw [getD_set]
    split
    · rename_i hk; exact hx 0 x (by simp [hk.1]) rfl
    · exact h

theorem aCond_get {x : AV} {A B : Prop} (h : aGuard x A B) : ∃ b, x = .p (.bool b) ∧ (b = true → A) ∧ (b = false → B) := by
  unfold aGuard at h
  split at h
  · rename_i b; exact ⟨b, rfl, fun e => by subst e; exact h, fun e => by subst e; exact h⟩
  · exact False.elim h

theorem lit_rep {t : List AV} {c : Operand} {b : Bool} (h : rho t c = .p (.bool b)) : lit t c b = t := by
  cases c with
  | tmp u => exact set_same h
  | const v => rfl
  | func f => rfl
  | global g => rfl

theorem awp_sound (hm : P.follows .mixedOrders = true) (ann : Nat → List Nat) : ∀ (c : Code) (t : List AV) (H : List Ob) (K : AExit → List AV → List Ob → Prop), awp P ann c t H K →
    ∀ (a : Act) (w : World) (G : Gh), Inv w G H → RepTm G t a.tmps → c.wp P (Post c K a w G) a w := by
  intro c
  induction c with
  | skip =>
    intro t H K h a w G hi ht
    exact wp_skip ⟨.normal, t, H, G, .normal, h, hi, ht, ⟨rfl, rfl⟩, fun _ _ => rfl, .refl w G⟩
  | region id ops draw =>
    intro t H K h a w G hi ht
    refine region_soundX hm h hi ht (fun a' w' G' t' H' hk hi' ht' hd hkp hs => ⟨.normal, t', H', G', .normal, hk, hi', ht', ⟨hd, hkp.2⟩, fun u hu => hkp.1 u (fun k o ho hd' => hu ?_), hs⟩)
    simp only [writes, List.mem_filterMap]
    exact ⟨o, List.mem_of_getElem? (i := k) (by simpa using ho), hd'⟩
  | seq x y ihx ihy =>
    intro t H K h a w G hi ht
    simp only [awp, strict_eq] at h
    refine wp_seq (wp_mono (ihx t H _ h a w G hi ht) ?_)
    rintro e a1 w1 ⟨e', t1, H1, G1, her, hk, hi1, ht1, hd1, hu1, hs1⟩
    cases her with
    | normal =>
      refine wp_mono (ihy _ H1 K hk a1 w1 G1 hi1 (trimS_rep ht1)) ?_
      rintro e a2 w2 ⟨e2, t2, H2, G2, her2, hk2, hi2, ht2, hd2, hu2, hs2⟩
      exact ⟨e2, t2, H2, G2, her2, hk2, hi2, ht2, ⟨hd2.1.trans hd1.1, hd2.2.trans hd1.2⟩, fun u hu => by simp [writes] at hu; rw [hu2 u hu.2, hu1 u hu.1], hs1.trans hs2⟩
    | exit id => exact ⟨.exit id, t1, H1, G1, .exit id, hk, hi1, ht1, hd1, fun u hu => hu1 u (by simp [writes] at hu; exact hu.1), hs1⟩
    | ret => exact ⟨.ret, t1, H1, G1, .ret, hk, hi1, ht1, hd1, fun u hu => hu1 u (by simp [writes] at hu; exact hu.1), hs1⟩
  | cond c x y ihx ihy =>
    intro t H K h a w G hi ht
    -- both ways of a truth, brought together
    have merged : ∀ (u : Nat) (want : Bool) (z : Code) (b cc : Bool), t.getD u .top = .p (.bool b) → (∀ v, v ∈ writes z → v ∈ writes (.cond c x y)) → ∀ (e : Exit) (a2 : Act) (w2 : World) (G2 : Gh),
        (b = want → a2.tmps.getD u undef = .bool cc) → (b ≠ want → a2.tmps.getD u undef = .bool b) → (∀ v, v ∉ writes z → a2.tmps.getD v undef = a.tmps.getD v undef) → a2.tmps.size = a.tmps.size → a2.defers = a.defers → Inv w2 G2 H → Step w G w2 G2 →
        K .normal ((forget t (writes z)).set u (.p (.bool (cond want (b && cc) (b || cc))))) H → Post (.cond c x y) K a w G .normal a2 w2 := by
      intro u want z b cc hb hwr e a2 w2 G2 h1 h2 hkp hsz hdf hi2 hs2 hk
      refine ⟨.normal, _, H, G2, .normal, hk, hi2, ⟨by simp [forget_length, hsz, ht.1], fun v => ?_⟩, ⟨hdf, hsz⟩, fun v hv => hkp v (fun hz => hv (hwr v hz)), hs2⟩
      rw [getD_set]
      split
      · rename_i hv
        obtain ⟨rfl, _⟩ := hv
        have hv2 : a2.tmps.getD u undef = .bool (cond want (b && cc) (b || cc)) := by
          by_cases hbw : b = want
          · rw [h1 hbw]; subst hbw; cases b <;> simp
          · rw [h2 hbw]
            cases b <;> cases want <;> simp_all
        rw [hv2]
        exact repA_bool.2 rfl
      · refine forget_get v (fun x => RepA G2 x (a2.tmps.getD v undef)) (.top _) _ _ (fun hv => ?_)
        rw [hkp v hv]
        exact (ht.2 v).mono hs2.grow
    simp only [awp, strict_eq] at h
    split at h
    · -- apart
      obtain ⟨b, hb, h1, h2⟩ := aCond_get h
      have hev : a.eval c = .bool b := by
        have r := ht.rho (a := a) c
        rw [hb] at r
        exact repA_bool.1 r
      refine wp_cond_split hev (fun e => ?_) (fun e => ?_)
      · subst e
        have h1 := h1 rfl
        rw [lit_rep hb] at h1
        refine wp_mono (ihx t H K h1 a w G hi ht) ?_
        rintro e a2 w2 ⟨e2, t2, H2, G2, her2, hk2, hi2, ht2, hd2, hu2, hs2⟩
        exact ⟨e2, t2, H2, G2, her2, hk2, hi2, ht2, hd2, fun u hu => hu2 u (by simp [writes] at hu; exact hu.1), hs2⟩
      · subst e
        have h2 := h2 rfl
        rw [lit_rep hb] at h2
        refine wp_mono (ihy t H K h2 a w G hi ht) ?_
        rintro e a2 w2 ⟨e2, t2, H2, G2, her2, hk2, hi2, ht2, hd2, hu2, hs2⟩
        exact ⟨e2, t2, H2, G2, her2, hk2, hi2, ht2, hd2, fun u hu => hu2 u (by simp [writes] at hu; exact hu.2), hs2⟩
    · rename_i u hm
      obtain ⟨hc, hx⟩ : c = .tmp u ∧ x = .skip := by
        unfold mrgT at hm
        split at hm
        · split at hm
          · split at hm <;> simp at hm
            exact ⟨by rw [hm], rfl⟩
          · split at hm
            · split at hm <;> simp at hm
            · simp at hm
        · simp at hm
      subst hc hx
      obtain ⟨b, cc, hb, hE, hK⟩ := aMerge_get h
      have hev : a.eval (.tmp u) = .bool b := by have := ht.2 u; rw [hb] at this; exact repA_bool.1 this
      refine wp_cond_split hev (fun e => ?_) (fun e => ?_)
      · exact wp_skip (merged u false y b cc hb (fun v hv => by simp [writes, hv]) .normal a w G (fun h => by rw [e] at h; simp at h) (fun _ => hev) (fun _ _ => rfl) rfl rfl hi (.refl w G) hK)
      · have hE := hE e
        rw [set_same (e ▸ hb)] at hE
        refine wp_mono (ihy t H _ hE a w G hi ht) ?_
        rintro e2 a2 w2 ⟨e', t2, H2, G2, her2, hk2, hi2, ht2, hd2, hu2, hs2⟩
        cases her2 with
        | normal =>
          obtain ⟨rfl, hq⟩ := hk2
          have hv : a2.tmps.getD u undef = .bool cc := by have := ht2.2 u; rw [hq] at this; exact repA_bool.1 this
          exact merged u false y b cc hb (fun v hv => by simp [writes, hv]) .normal a2 w2 G2 (fun _ => hv) (fun h => absurd e h) hu2 hd2.2 hd2.1 hi2 hs2 hK
        | exit j => exact hk2.elim
        | ret => exact hk2.elim
    · rename_i u hm
      obtain ⟨hc, hy⟩ : c = .tmp u ∧ y = .skip := by
        unfold mrgT at hm
        split at hm
        · split at hm
          · split at hm <;> simp at hm
          · split at hm
            · split at hm <;> simp at hm
              exact ⟨by rw [hm], rfl⟩
            · simp at hm
        · simp at hm
      subst hc hy
      obtain ⟨b, cc, hb, hE, hK⟩ := aMerge_get h
      have hev : a.eval (.tmp u) = .bool b := by have := ht.2 u; rw [hb] at this; exact repA_bool.1 this
      refine wp_cond_split hev (fun e => ?_) (fun e => ?_)
      · have hE := hE e
        rw [set_same (e ▸ hb)] at hE
        refine wp_mono (ihx t H _ hE a w G hi ht) ?_
        rintro e2 a2 w2 ⟨e', t2, H2, G2, her2, hk2, hi2, ht2, hd2, hu2, hs2⟩
        cases her2 with
        | normal =>
          obtain ⟨rfl, hq⟩ := hk2
          have hv : a2.tmps.getD u undef = .bool cc := by have := ht2.2 u; rw [hq] at this; exact repA_bool.1 this
          exact merged u true x b cc hb (fun v hv => by simp [writes, hv]) .normal a2 w2 G2 (fun _ => hv) (fun h => absurd e h) hu2 hd2.2 hd2.1 hi2 hs2 hK
        | exit j => exact hk2.elim
        | ret => exact hk2.elim
      · exact wp_skip (merged u true x b cc hb (fun v hv => by simp [writes, hv]) .normal a w G (fun h => by rw [e] at h; simp at h) (fun _ => hev) (fun _ _ => rfl) rfl rfl hi (.refl w G) hK)
  | block id x ih =>
    intro t H K h a w G hi ht
    refine wp_block (wp_mono (ih t H _ h a w G hi ht) ?_)
    rintro e a1 w1 ⟨e', t1, H1, G1, her, hk, hi1, ht1, hd1, hu1, hs1⟩
    cases her with
    | normal => exact ⟨.normal, t1, H1, G1, .normal, hk, hi1, ht1, hd1, hu1, hs1⟩
    | exit j =>
      simp only [Exit.inBlock]
      simp only [] at hk
      split at hk
      · rename_i hj
        have hj : j = id := by simpa using hj
        rw [if_pos hj]
        exact ⟨.normal, t1, H1, G1, .normal, hk, hi1, ht1, hd1, hu1, hs1⟩
      · rename_i hj
        have hj : ¬ j = id := by simpa using hj
        rw [if_neg hj]
        exact ⟨.exit j, t1, H1, G1, .exit j, hk, hi1, ht1, hd1, hu1, hs1⟩
    | ret => exact ⟨.ret, t1, H1, G1, .ret, hk, hi1, ht1, hd1, hu1, hs1⟩
  | loop x ih =>
    intro t H K h a w G hi ht
    simp only [awp, aLoop, aLoopN, strict_eq] at h
    generalize hkeep : ann ((key x).getD 0) = keep at h
    obtain ⟨n, I, m, ⟨gs, hgs⟩, hall⟩ := h
    obtain ⟨xs0', H0, ⟨xs0, H', hle0, hleO, hn, h0⟩, hxl', hg'⟩ := ghosts_sound gs _ H _ hgs
    obtain ⟨hxll, hxget⟩ := all2_get hle0
    have hxl : xs0.length = (keep.map fun k => t.getD k .top).length := hxll.trans hxl'
    have hg : ∀ (w : World) (G : Gh) (tm : Nat → Value), Inv w G H → RepK G (keep.map fun k => t.getD k .top) tm → ∃ G', Inv w G' H' ∧ RepK G' xs0 tm ∧ Step w G w G' := by
      intro w G tm hi hk
      obtain ⟨G', i1, k1, s1⟩ := hg' w G tm hi hk
      have hl0 : H0.length = n := by rw [← hn]; exact (all2_get hleO).1.symm
      obtain ⟨i2, _⟩ := le_inv (n := n) i1 (H' := H') (by rw [← hl0, List.take_length]; exact hleO) (by omega)
      rw [List.drop_eq_nil_of_le (by omega), List.append_nil] at i2
      refine ⟨G', i2, fun i x hx => ?_, s1⟩
      obtain ⟨x', hx', hle⟩ := hxget i x hx
      exact le_rep hle (k1 i x' hx')
    have hk0 : RepK G (keep.map fun k => t.getD k .top) (fun i => a.tmps.getD (keep.getD i 0) undef) := by
      intro i y hy
      simp only [List.getElem?_map, Option.map_eq_some_iff] at hy
      obtain ⟨u, hu, rfl⟩ := hy
      have e : keep.getD i 0 = u := by rw [List.getD_eq_getElem?_getD, hu]; rfl
      show RepA G (t.getD u .top) (a.tmps.getD (keep.getD i 0) undef)
      rw [e]
      exact ht.2 u
    obtain ⟨Gs, his, hks, hss⟩ := hg w G _ hi hk0
    have hts : RepTm Gs t a.tmps := ht.mono hss.grow
    have hxl0 : xs0.length = keep.length := by simpa using hxl
    refine wp_loop_ind (P := P) (α := List AV × List Ob) (fun y => m y.1 y.2)
      (fun y a1 w1 => ∃ G1, Inv w1 G1 y.2 ∧ y.2.length = n ∧ y.1.length = keep.length ∧ I y.1 y.2 ∧ RepTm G1 (fill (forget t (writes x)) keep y.1) a1.tmps ∧ (a1.defers = a.defers ∧ a1.tmps.size = a.tmps.size) ∧ (∀ u, u ∉ writes x → a1.tmps.getD u undef = a.tmps.getD u undef) ∧ Step w Gs w1 G1)
      ?_ (xs0, H') a w ⟨Gs, his, hn, hxl0, h0, ?_, ⟨rfl, rfl⟩, fun _ _ => rfl, .refl w Gs⟩
    · rintro ⟨xs, H1⟩ a1 w1 ⟨G1, hi1, hl1, hxl, hI, ht1, hd1, hu1, hs1⟩
      have hbody := allN_get _ _ hall xs hxl H1 hl1 hI
      refine wp_mono (ih _ _ _ hbody a1 w1 G1 hi1 ht1) ?_
      rintro e a2 w2 ⟨e2, t2, H2, G2, her2, hk2, hi2, ht2, hd2, hu2, hs2⟩
      have hu12 : ∀ u, u ∉ writes x → a2.tmps.getD u undef = a.tmps.getD u undef := fun u hu => (hu2 u hu).trans (hu1 u hu)
      cases her2 with
      | normal =>
        obtain ⟨xs', H', ⟨hle1, hle2, hb3⟩, ⟨hb1, hb2⟩, hI2, hlt⟩ := hk2
        obtain ⟨i2', hl'⟩ := le_inv hi2 hle2 hb3
        obtain ⟨hxl1, hxg⟩ := all2_get hle1
        have htk : (H' ++ H2.drop n).take n = H' := by rw [← hl']; simp
        have i2t := trim_inv i2' (n := n) (by rw [htk]; exact hb2)
        rw [htk] at i2t
        refine ⟨(xs', H'), ⟨G2.trim n, i2t, hl', by rw [hxl1]; simp, hI2, ?_, ⟨hd2.1.trans hd1.1, hd2.2.trans hd1.2⟩, hu12, ?_⟩, hlt⟩
        · have hgs' : Grow Gs (G2.trim n) := by
            have hg2 := (hs1.trans hs2).grow
            refine ⟨hg2.rd, fun id l e => ?_⟩
            obtain ⟨l', e', hle⟩ := hg2.loc id l e
            refine ⟨l', ?_, hle⟩
            simp only [Gh.trim]
            rw [if_pos (by have := his.loc_lt e; omega)]
            exact e'
          refine ⟨by rw [fill_length, forget_length, ← hts.1]; exact hd2.2.trans hd1.2, fun u => ?_⟩
          refine fill_get u (fun v => RepA (G2.trim n) v (a2.tmps.getD u undef)) _ _ _ ?_ (fun i v hk hv => ?_)
          · refine forget_get u (fun v => RepA (G2.trim n) v (a2.tmps.getD u undef)) (.top _) _ _ (fun hu => ?_)
            rw [hu12 u hu]
            exact (hts.2 u).mono hgs'
          · obtain ⟨v', hv', hle⟩ := hxg i v hv
            simp only [List.getElem?_map, hk, Option.map_some, Option.some.injEq] at hv'
            subst hv'
            exact trim_rep (le_rep hle (ht2.2 u)) (List.all_eq_true.1 hb1 _ (List.mem_of_getElem? hv))
        · have hst := hs1.trans hs2
          intro k
          refine ⟨(hst k).os, (hst k).tape, (hst k).output, (hst k).size, (hst k).keep, (hst k).rd, (hst k).rdn, fun id _ l e => ?_, fun id b e => (hst k).new id b (trim_blk e).1⟩
          obtain ⟨l', e', hle⟩ := hst.grow.loc id l e
          refine ⟨l', ?_, hle⟩
          simp only [Gh.trim]
          rw [if_pos (by have := his.loc_lt e; omega)]
          exact e'
      | exit id => exact ⟨.exit id, t2, H2, G2, .exit id, hk2, hi2, ht2, ⟨hd2.1.trans hd1.1, hd2.2.trans hd1.2⟩, hu12, hss.trans (hs1.trans hs2)⟩
      | ret => exact ⟨.ret, t2, H2, G2, .ret, hk2, hi2, ht2, ⟨hd2.1.trans hd1.1, hd2.2.trans hd1.2⟩, hu12, hss.trans (hs1.trans hs2)⟩
    · refine ⟨by rw [fill_length, forget_length]; exact hts.1, fun u => ?_⟩
      refine fill_get u (fun v => RepA Gs v (a.tmps.getD u undef)) _ _ _ ?_ (fun i v hk hv => ?_)
      · exact forget_get u (fun v => RepA Gs v (a.tmps.getD u undef)) (.top _) _ _ (fun _ => hts.2 u)
      · have := hks i v hv
        simp only [List.getD_eq_getElem?_getD, hk, Option.getD_some] at this
        exact this
  | exit id =>
    intro t H K h a w G hi ht
    exact wp_exit ⟨.exit id, t, H, G, .exit id, h, hi, ht, ⟨rfl, rfl⟩, fun _ _ => rfl, .refl w G⟩
  | ret =>
    intro t H K h a w G hi ht
    exact wp_ret ⟨.ret, t, H, G, .ret, h, hi, ht, ⟨rfl, rfl⟩, fun _ _ => rfl, .refl w G⟩
  | rangeFunc f ps x y => intro t H K h; exact h.elim
  | scope x => intro t H K h; exact h.elim
  | label l => intro t H K h; exact h.elim
  | goto l => intro t H K h; exact h.elim
  | refuse s => intro t H K h; exact h.elim

end Go.Abs
end

section
/- Calls: of a function of trees; over the whole heap; over a part of the heap. -/
namespace Go.Abs

variable {P : Program}

/-- What a bound method is bound to. -/
def firstsOf : AV → List AV
  | .bnd _ id off => [.bptr id off]
  | _ => []

theorem func_repL {G : Gh} {f : FuncId} {caps : List T} {u : Value} (h : RepA G (.p (.func f caps)) u) : ∃ vs : Array Value, u = .func (.func f) #[] vs ∧ RepL G (caps.map .p) vs := by
  obtain ⟨vs, rfl, hn, hv⟩ := func_rep h
  refine ⟨vs, rfl, by simpa using hn, fun j x hj => ?_⟩
  simp only [List.getElem?_map, Option.map_eq_some_iff] at hj
  obtain ⟨c, hc, rfl⟩ := hj
  exact .p _ _ (hv j c hc)

theorem repL_append {G : Gh} {xs ys : List AV} {vs us : Array Value} (h : RepL G xs vs) (k : RepL G ys us) : RepL G (xs ++ ys) (vs ++ us) := by
  refine ⟨by simp [h.1, k.1], fun j x hj => ?_⟩
  have e1 := h.1
  rcases Nat.lt_or_ge j xs.length with hl | hl
  · rw [List.getElem?_append_left hl] at hj
    have e : (vs ++ us).getD j undef = vs.getD j undef := by
      simp only [Array.getD_eq_getD_getElem?]
      rw [Array.getElem?_append_left (by omega)]
    rw [e]
    exact h.2 j x hj
  · rw [List.getElem?_append_right hl] at hj
    have e : (vs ++ us).getD j undef = us.getD (j - xs.length) undef := by
      simp only [Array.getD_eq_getD_getElem?]
      rw [Array.getElem?_append_right (by omega), e1]
    rw [e]
    exact k.2 _ x hj

theorem toTs_repL {G G' : Gh} (hrd : G'.rd = G.rd) {xs : List AV} {vs : Array Value} {ts : List T} (h : RepL G xs vs) (e : toTs xs = some ts) : RepL G' (ts.map .p) vs := by
  obtain ⟨hl, hs⟩ := toTs_spec e
  refine ⟨by simpa [hl] using h.1, fun j x hj => ?_⟩
  simp only [List.getElem?_map, Option.map_eq_some_iff] at hj
  obtain ⟨t, ht, rfl⟩ := hj
  obtain ⟨c, hc, hct⟩ := hs j t ht
  exact .p _ _ (by rw [hrd]; exact (h.2 j c hc).toT hct)

theorem Move.step {w w' : World} {G G' : Gh} {H : List Ob} (hm : Move H.length w G w' G') (hi : Inv w G H) : Step w G w' G' :=
  fun _ => ⟨hm.os, hm.tape, hm.output, hm.size, hm.keep, hm.rd, hm.rdn, fun id _ l el => hm.loc id (hi.loc_lt el) l el, hm.new⟩

theorem callDoes_tree {fv : AV} {args : List AV} {caps ts : List T} {f : FuncId} {r : AV} {H Hn : List Ob} (hf : fv = .p (.func f caps)) (ha : toTs args = some ts) (h : Fn P f [] ((ts ++ caps).map .p) r Hn) :
    CallDoes P fv args (r.shift H.length) H (H ++ Hn.map (Ob.shift H.length)) := by
  intro w G u vs hi rf rl
  subst hf
  obtain ⟨us, rfl, hu⟩ := func_repL rf
  have h1 : RepL G.bare (ts.map .p) vs := toTs_repL (G := G) (G' := G.bare) rfl rl ha
  have h2 : RepL G.bare (caps.map .p) us := by
    refine ⟨hu.1, fun j x hj => ?_⟩
    have := hu.2 j x hj
    simp only [List.getElem?_map, Option.map_eq_some_iff] at hj
    obtain ⟨c, hc, rfl⟩ := hj
    have this := repA_p.1 this
    exact .p _ _ this
  have h3 := repL_append h1 h2
  rw [← List.map_append] at h3
  refine ⟨f, #[], us, rfl, h.1, ?_⟩
  rw [show (#[] ++ vs ++ us : Array Value) = vs ++ us by simp]
  refine (h.2 w G.bare _ hi.bare h3).mono ?_
  rintro e w' ⟨v, G0, rfl, hrep, hi0, hm⟩
  obtain ⟨i1, s1, c1⟩ := call_back hi hi0 hm
  exact ⟨v, _, rfl, c1 _ _ hrep, i1, s1⟩

def Gh.part (G : Gh) (ids : List Nat) : Gh := ⟨G.rd, fun i => (ids[i]?).bind G.loc⟩

end Go.Abs
end

section
/- Rows that are no longer written; answers with the objects that go with them. -/
namespace Go.Abs

variable {P : Program}

/-- A part of a row that is no longer written is a tree. -/
def AV.unm1 (id ver : Nat) (es : List T) : AV → AV
  | .msl i v s off len => if i = id ∧ v = ver ∧ off + len ≤ es.length then .p (.slice ((es.drop off).take len)) else .msl i v s off len
  | x => x

def AV.unm (id ver : Nat) (es : List T) : AV → AV
  | .tup vs => .tup (vs.map (AV.unm1 id ver es))
  | .agg cs => .agg (cs.map (AV.unm1 id ver es))
  | x => x.unm1 id ver es

theorem unm_of {G G' : Gh} (g : Grow G G') {id ver : Nat} {es : List T} (hh : ∀ s off len v, RepA G' (.msl id ver s off len) v → off + len ≤ es.length → RepT G'.rd (.slice ((es.drop off).take len)) v) {x : AV} {v : Value} (r : RepA G x v) : RepA G' (x.unm id ver es) v := by
  have one : ∀ {y : AV} {u : Value}, RepA G' y u → RepA G' (y.unm1 id ver es) u := by
    intro y u r
    unfold AV.unm1
    split
    · split
      · rename_i h
        obtain ⟨rfl, rfl, h3⟩ := h
        exact .p _ _ (hh _ _ _ _ r h3)
      · exact r
    · exact r
  have r := r.mono g
  cases x with
  | tup vs =>
    cases r with
    | tup _ us hn hv =>
      refine .tup _ us (by simpa using hn) (fun j c hj => ?_)
      simp only [List.getElem?_map, Option.map_eq_some_iff] at hj
      obtain ⟨c', hc', rfl⟩ := hj
      exact one (hv j c' hc')
  | agg cs =>
    cases r with
    | agg _ us hn hv hk =>
      refine .agg _ us (by simpa using hn) (fun j c hj => ?_) (fun j c hj => ?_) <;>
      · simp only [List.getElem?_map, Option.map_eq_some_iff] at hj
        obtain ⟨c', hc', rfl⟩ := hj
        first | exact one (hv j c' hc') | exact hk j c' hc'
  | _ => exact one r

theorem freeze_row {w : World} {G : Gh} {H : List Ob} (hi : Inv w G H) {id ver s : Nat} {es : List T} (ho : H[id]? = some (.mrow ver s es)) :
    ∃ G', Inv w G' (H.set id (.frow ver s es)) ∧ Step w G w G' ∧ ∀ x v, RepA G x v → RepA G' (x.unm id ver es) v := by
  have hidl : id < H.length := (List.getElem?_eq_some_iff.1 ho).1
  have hset : (H.set id (.frow ver s es))[id]? = some (.frow ver s es) := by simp [hidl]
  suffices h : ∃ G', Inv w G' (H.set id (.frow ver s es)) ∧ Step w G w G' by
    obtain ⟨G', i1, s1⟩ := h
    exact ⟨G', i1, s1, fun x v r => unm_of s1.grow (fun s off len u r hle => frow_part i1 hset r hle) r⟩
  have other : ∀ {G' : Gh}, Grow G G' → G'.loc = G.loc → (∀ b o c, G'.rd b o = some c → w.cell? ⟨b, o, none⟩ = some c) → (∀ k, G.blk id ≠ some k → ∀ o, G.rd k o = none → G'.rd k o = none) → (∀ l, G.loc id = some l → Holds w G' l (.frow ver s es)) → Inv w G' (H.set id (.frow ver s es)) := by
    intro G' g hloc hrd hno hh
    refine ⟨hrd, fun j l e => ?_, fun i j b e1 e2 => hi.dis i j b (by unfold Gh.blk at e1 ⊢; rwa [hloc] at e1) (by unfold Gh.blk at e2 ⊢; rwa [hloc] at e2), hi.tab.keep g.rd (fun _ _ _ => rfl)⟩
    rw [hloc] at e
    by_cases hj : j = id
    · subst hj; exact ⟨_, hset, hh l e⟩
    · obtain ⟨ob, ho2, hh2⟩ := hi.obj j l e
      refine ⟨ob, by rw [List.getElem?_set_ne (fun h => hj h.symm)]; exact ho2, hh2.keep g (Nat.le_refl _) (fun k hk => ⟨rfl, hno k (fun h => hj (hi.dis j id k (by simp [Gh.blk, e, hk]) h))⟩)⟩
  cases hl : G.loc id with
  | none => exact ⟨G, other (Grow.refl G) rfl hi.rd (fun _ _ _ h => h) (fun l e => by rw [hl] at e; simp at e), .refl w G⟩
  | some l =>
    obtain ⟨ob, ho2, hh⟩ := hi.obj id l hl
    rw [ho] at ho2; simp at ho2; subst ho2
    cases l with
    | box b => exact hh.elim
    | row a cap n s' => exact hh.elim
    | mrow a cap v s' =>
      obtain ⟨h1, h2⟩ := hh
      by_cases hcap : 0 < cap
      · obtain ⟨b, o, rfl, ⟨cs, ty, e1, e2, e3⟩, e4⟩ := h2 hcap
        have hb : b < w.heap.size := (Array.getElem?_eq_some_iff.1 e1).1
        have hblk : G.blk id = some b := by simp [Gh.blk, hl, Loc.blk, hcap]
        have hrd : ∀ b' o c, G.rd b' o = some c → (G.withRd b (fun o => cs[o]?)).rd b' o = some c := by
          intro b' o c e
          simp only [Gh.withRd]
          rw [if_neg (fun h => by subst h; rw [e4] at e; simp at e)]
          exact e
        have hg : Grow G (G.withRd b (fun o => cs[o]?)) := ⟨hrd, fun _ l e => ⟨l, e, .refl l⟩⟩
        refine ⟨G.withRd b (fun o => cs[o]?), other hg rfl (fun b' o' c e => ?_) (fun k hk o' h => ?_) (fun l e => ?_), fun n => ⟨rfl, rfl, rfl, Nat.le_refl _, fun _ _ _ => rfl, hrd, fun b' o' c e => ?_, fun _ _ l e => ⟨l, e, .refl l⟩, fun j _ e => .inr ⟨j, e⟩⟩⟩
        · simp only [Gh.withRd] at e
          split at e
          · rename_i h
            subst h
            unfold World.cell?
            simp [e1, e]
          · exact hi.rd b' o' c e
        · simp only [Gh.withRd]
          rw [if_neg (fun e => by subst e; exact hk hblk)]
          exact h
        · rw [hl] at e; simp at e; subst e
          refine ⟨h1, fun _ => ⟨b, o, rfl, hb, fun i j e c he hc => ?_⟩⟩
          obtain ⟨g1, g2⟩ := e3 i j e c he hc
          have hj : j < s' := by
            have := (List.getElem?_eq_some_iff.1 hc).1
            rwa [h1.2.2.2 e (List.mem_of_getElem? he)] at this
          have hi3 : i < cap := by have := (List.getElem?_eq_some_iff.1 he).1; have := h1.2.2.1; omega
          have hmul : (i + 1) * s' ≤ cap * s' := Nat.mul_le_mul_right _ hi3
          rw [Nat.add_mul] at hmul
          have hlt : o + i * s' + j < cs.size := by omega
          have ev : cs.getD (o + i * s' + j) undef = cs[o + i * s' + j] := by simp [Array.getD_eq_getD_getElem?, Array.getElem?_eq_getElem hlt]
          rw [ev] at g1 g2
          exact ⟨_, by simp [Gh.withRd, Array.getElem?_eq_getElem hlt], g1.mono hrd, g2⟩
        · simp only [Gh.withRd] at e
          split at e
          · rename_i h; exact .inr (.inr ⟨id, by rw [h]; exact hblk⟩)
          · exact .inl e
      · refine ⟨G, other (Grow.refl G) rfl hi.rd (fun _ _ _ h => h) (fun l e => ?_), .refl w G⟩
        rw [hl] at e; simp at e; subst e
        exact ⟨h1, fun h => absurd h hcap⟩

theorem callDoes_freeze {fv : AV} {args : List AV} {r : AV} {H H' : List Ob} {id ver s : Nat} {es : List T} (ho : H[id]? = some (.mrow ver s es)) (h : CallDoes P (fv.unm id ver es) (args.map (AV.unm id ver es)) r (H.set id (.frow ver s es)) H') : CallDoes P fv args r H H' := by
  intro w G u vs hi rf rl
  obtain ⟨G', i1, s1, c1⟩ := freeze_row hi ho
  obtain ⟨g, fs, cs, e1, e2, e3⟩ := h w G' u vs i1 (c1 _ _ rf) ⟨by simpa using rl.1, fun j x hj => by
    simp only [List.getElem?_map, Option.map_eq_some_iff] at hj
    obtain ⟨y, hy, rfl⟩ := hj
    exact c1 _ _ (rl.2 j y hy)⟩
  refine ⟨g, fs, cs, e1, e2, e3.mono ?_⟩
  rintro e w' ⟨v, G2, rfl, hr, hi2, s2⟩
  exact ⟨v, G2, rfl, hr, hi2, s1.trans s2⟩

end Go.Abs
end

section
/- Functions. -/
namespace Go.Abs

variable {P : Program}

def aRes (P : Program) : List ResultVar → List AV → List Ob → (List AV → Prop) → Prop
  | [], _, _, K => K []
  | .tmp u :: r, t, H, K => aRes P r t H fun vs => K (t.getD u .top :: vs)
  | .cell u ty :: r, t, H, K => match P.underlying ty, P.info? ty with
    | some d, some i => match aggD d || i.size == 1 with
      | true => aLoad (aggD d) i.size (t.getD u .top) H fun v => aRes P r t H fun vs => K (v :: vs)
      | false => False
    | _, _ => False

def tupOf : List AV → AV
  | [v] => v
  | vs => .tup vs

/-- An answer, with the objects that go with it. -/
def Gives (n : Nat) (v : AV) (H : List Ob) (r : AV) (Hout : List Ob) : Prop := ∀ (w : World) (G : Gh) (u : Value), Inv w G H → RepA G v u → ∃ G', Inv w G' Hout ∧ RepA G' r u ∧ Move n w G w G'

def aEnd (P : Program) (rs : List ResultVar) (n : Nat) (r : AV) (Hout : List Ob) (e : AExit) (t : List AV) (H : List Ob) : Prop :=
  match e with
  | .exit _ => False
  | _ => aRes P rs t H fun vs => Gives n (tupOf vs) H r Hout

def aBody (P : Program) (ann : Nat → List Nat) (fn : Func) (Hin : List Ob) (args : List AV) (r : AV) (Hout : List Ob) : Prop :=
  match fn.body with
  | some c => awp P ann c (args ++ List.replicate (fn.ntmps - args.length) .top) Hin (aEnd P fn.results.toList Hin.length r Hout)
  | none => False

theorem aLoad_value {agg : Bool} {s : Nat} {x : AV} {H : List Ob} {K : AV → Prop} (hz : agg = true ∨ s = 1) (h : aLoad agg s x H K) :
    ∃ r, K r ∧ ∀ (w : World) (G : Gh) (v : Value), Inv w G H → RepA G x v → ∃ b o f, v = .pointer (some ⟨b, o, none⟩) ∧ (∀ j, j < s → w.cell? ⟨b, o + j, none⟩ = some (f j)) ∧
      RepA G r (if agg then .agg ((List.range s).map f).toArray else f 0) := by
  unfold aLoad at h
  split at h
  · rename_i id off
    split at h
    · rename_i cells hob
      obtain ⟨h1, h2⟩ := h
      refine ⟨_, h2, fun w G v hinv rx => ?_⟩
      cases rx with
      | bptr _ _ b hl =>
        obtain ⟨ob, ho, hh⟩ := hinv.obj id _ hl
        rw [hob] at ho; simp at ho; subst ho
        obtain ⟨cs, ty, e1, e2, e3, e4⟩ := hh
        refine ⟨b, off, fun j => cs.getD (off + j) undef, rfl, fun j hj => ?_, ?_⟩
        · have hlt : off + j < cs.size := by omega
          unfold World.cell?
          simp [e1, Array.getElem?_eq_getElem hlt, Array.getD_eq_getD_getElem?]
        · cases hb : agg with
          | true => exact range_rep h1 (fun j c hj => e3 _ c hj)
          | false =>
            have hs : s = 1 := by
              rcases hz with h | h
              · rw [hb] at h; simp at h
              · exact h
            simpa using (e3 off (cells.getD off .top) (lt_get (by omega) _)).1
    · rename_i cs hob
      obtain ⟨h1, h2⟩ := h
      refine ⟨_, h2, fun w G v hinv rx => ?_⟩
      cases rx with
      | bptr _ _ b hl =>
        obtain ⟨ob, ho, hh⟩ := hinv.obj id _ hl
        rw [hob] at ho; simp at ho; subst ho
        obtain ⟨e1, e2⟩ := hh
        refine ⟨b, off, fun j => (G.rd b (off + j)).getD undef, rfl, fun j hj => ?_, .p _ _ ?_⟩
        · obtain ⟨v, g1, g2, g3⟩ := e2 (off + j) _ (lt_get (by omega) default)
          rw [hinv.rd _ _ _ g1]
          show some v = some ((G.rd b (off + j)).getD undef)
          rw [g1]; rfl
        · cases hb : agg with
          | true =>
            refine range_repT h1 (fun j c hj => ?_)
            obtain ⟨v, g1, g2, g3⟩ := e2 _ c hj
            show RepT G.rd c ((G.rd b (off + j)).getD undef) ∧ scalar ((G.rd b (off + j)).getD undef) = true
            rw [g1]; exact ⟨g2, g3⟩
          | false =>
            have hs : s = 1 := by
              rcases hz with h | h
              · rw [hb] at h; simp at h
              · exact h
            obtain ⟨v, g1, g2, g3⟩ := e2 off (cs.getD off default) (lt_get (by omega) _)
            simp only [Bool.false_eq_true, if_false, Nat.add_zero, g1, Option.getD_some]
            exact g2
    · exact h.elim
  · rename_i cs off
    obtain ⟨h1, h2⟩ := h
    refine ⟨_, h2, fun w G v hinv rx => ?_⟩
    have rx := repA_p.1 rx
    cases rx with
    | imm _ _ b o' val hr hv hk =>
      refine ⟨b, o' + off, fun j => val (off + j), rfl, fun j hj => ?_, .p _ _ ?_⟩
      · rw [Nat.add_assoc]
        exact hinv.rd _ _ _ (hr (off + j) _ (lt_get (by omega) default))
      · cases hb : agg with
        | true => exact range_repT h1 (fun j c hj => ⟨hv _ c hj, hk _ c hj⟩)
        | false =>
          have hs : s = 1 := by
            rcases hz with h | h
            · rw [hb] at h; simp at h
            · exact h
          exact hv off (cs.getD off default) (lt_get (by omega) _)
  · rename_i id ver s' i off
    have row : ∀ {es : List T} {v2 s2 : Nat}, (H[id]? = some (.mrow v2 s2 es) ∨ H[id]? = some (.frow v2 s2 es)) → ((v2 = ver ∧ s2 = s' ∧ i < es.length ∧ off + s ≤ s') ∧ K (.p (if agg then .agg (((es.getD i default).cells.drop off).take s) else (es.getD i default).cells.getD off default))) →
        ∃ r, K r ∧ ∀ (w : World) (G : Gh) (v : Value), Inv w G H → RepA G (.mptr id ver s' i off) v → ∃ b o f, v = .pointer (some ⟨b, o, none⟩) ∧ (∀ j, j < s → w.cell? ⟨b, o + j, none⟩ = some (f j)) ∧ RepA G r (if agg then .agg ((List.range s).map f).toArray else f 0) := by
      intro es v2 s2 hob h
      obtain ⟨⟨rfl, rfl, h4, h5⟩, h2⟩ := h
      refine ⟨_, h2, fun w G v hinv rx => ?_⟩
      cases rx with
      | mptr _ _ _ _ _ b o a a' cap cap' ver' hl hn he hi ha =>
        obtain ⟨rfl, _, h6, h7, h8⟩ := row_view hinv hob hl
        obtain ⟨rfl, rfl⟩ := he rfl
        obtain ⟨b', o', f, e1, hf⟩ := h8 (by omega)
        rw [ha] at e1
        simp at e1
        obtain ⟨rfl, rfl⟩ := e1
        have hei := lt_get h4 default
        have hcl := h7 _ (List.mem_of_getElem? hei)
        refine ⟨b, o + i * s2 + off, fun j => f i (off + j), rfl, fun j hj => ?_, .p _ _ ?_⟩
        · rw [Nat.add_assoc]
          exact (hf i (off + j) _ _ hei (lt_get (by omega) default)).1
        · cases hb : agg with
          | true => exact range_repT (by omega) (fun j c hj => (hf i _ _ c hei hj).2)
          | false =>
            have hs : s = 1 := by
              rcases hz with h | h
              · rw [hb] at h; simp at h
              · exact h
            exact (hf i off _ _ hei (lt_get (by omega) default)).2.1
    split at h
    · rename_i hob; exact row (.inl hob) h
    · rename_i hob; exact row (.inr hob) h
    · exact h.elim
  · exact h.elim

def resOne (tm : Array Value) : ResultVar → Sem Value
  | .tmp t => pure (tm.getD t undef)
  | .cell a t => do loadVar t (← asAddr (tm.getD a undef))

theorem res_sound : ∀ (rs : List ResultVar) (t : List AV) (H : List Ob) (K : List AV → Prop), aRes P rs t H K → ∀ (w : World) (G : Gh) (tm : Array Value), Inv w G H → RepTm G t tm →
    ∃ xs vs, K xs ∧ (rs.mapM (resOne tm)).run P w = .ok vs w ∧ vs.length = xs.length ∧ ∀ (j : Nat) (x : AV) (v : Value), xs[j]? = some x → vs[j]? = some v → RepA G x v
  | [], t, H, K, h, w, G, tm, _, _ => ⟨[], [], h, by simp, rfl, fun j x v hx => by simp at hx⟩
  | .tmp u :: r, t, H, K, h, w, G, tm, hi, ht => by
    simp only [aRes] at h
    obtain ⟨xs, vs, h1, h2, h3, h4⟩ := res_sound r t H _ h w G tm hi ht
    refine ⟨_, tm.getD u undef :: vs, h1, ?_, by simp [h3], fun j x v hx hv => ?_⟩
    · rw [List.mapM_cons, Sem.run_bind]
      show (Result.ok (tm.getD u undef) w).andThen _ = _
      simp only [Result.andThen, Sem.run_bind, h2, Sem.run_pure]
    · cases j with
      | zero => simp only [List.getElem?_cons_zero, Option.some.injEq] at hx hv; subst hx hv; exact ht.2 u
      | succ j => simp only [List.getElem?_cons_succ] at hx hv; exact h4 j x v hx hv
  | .cell u ty :: r, t, H, K, h, w, G, tm, hi, ht => by
    simp only [aRes] at h
    split at h
    · rename_i d i hd hinfo
      split at h
      · rename_i hz
        have hz : aggD d = true ∨ i.size = 1 := by simpa using hz
        obtain ⟨x0, hk, hval⟩ := aLoad_value hz h
        obtain ⟨xs, vs, h1, h2, h3, h4⟩ := res_sound r t H _ hk w G tm hi ht
        obtain ⟨b, o, f, ev, hc, hr⟩ := hval w G _ hi (ht.2 u)
        have hrun := loadAt_run (P := P) hd hinfo hz hc
        refine ⟨_, (if aggD d then .agg ((List.range i.size).map f).toArray else f 0) :: vs, h1, ?_, by simp [h3], fun j x v hx hv => ?_⟩
        · have h0 : (resOne tm (.cell u ty)).run P w = .ok (if aggD d then .agg ((List.range i.size).map f).toArray else f 0) w := by
            simp only [resOne, ev, asAddr]
            simp only [Instr.loadAt, Instr.sureAddr] at hrun
            exact hrun
          rw [List.mapM_cons, Sem.run_bind, h0]
          simp only [Result.andThen, Sem.run_bind, h2, Sem.run_pure]
        · cases j with
          | zero => simp only [List.getElem?_cons_zero, Option.some.injEq] at hx hv; subst hx hv; exact hr
          | succ j => simp only [List.getElem?_cons_succ] at hx hv; exact h4 j x v hx hv
      · exact h.elim
    · exact h.elim

theorem results_run {fn : Func} {tm : Array Value} {w : World} {vs : List Value} (h : (fn.results.toList.mapM (resOne tm)).run P w = .ok vs w) :
    (results fn tm).run P w = .ok (if h : vs.toArray.size = 1 then vs.toArray[0] else .tuple vs.toArray) w := by
  have e : results fn tm = (do let vs ← fn.results.mapM (resOne tm); pure (if h : vs.size = 1 then vs[0] else .tuple vs)) := by
    unfold results
    congr 2
  rw [e, Array.mapM_eq_mapM_toList]
  simp only [Sem.run_bind, Sem.run_map, h, Result.andThen]
  rfl

theorem tupOf_rep {G : Gh} {xs : List AV} {vs : List Value} (hl : vs.length = xs.length) (h : ∀ (j : Nat) (x : AV) (v : Value), xs[j]? = some x → vs[j]? = some v → RepA G x v) : RepA G (tupOf xs) (if h : vs.toArray.size = 1 then vs.toArray[0] else .tuple vs.toArray) := by
  have tup : ∀ (xs : List AV) (vs : List Value), vs.length = xs.length → (∀ (j : Nat) (x : AV) (v : Value), xs[j]? = some x → vs[j]? = some v → RepA G x v) → RepA G (.tup xs) (.tuple vs.toArray) := by
    intro xs vs hl h
    refine .tup xs vs.toArray (by simpa using hl) (fun j c hj => ?_)
    have hlt : j < vs.length := by have := (List.getElem?_eq_some_iff.1 hj).1; omega
    have := h j c vs[j] hj (List.getElem?_eq_getElem hlt)
    simpa [Array.getD_eq_getD_getElem?, List.getElem?_eq_getElem hlt] using this
  match xs, vs, hl with
  | [], [], _ => simpa [tupOf] using tup [] [] rfl (fun j x v hx => by simp at hx)
  | [x], [v], _ => simpa [tupOf] using h 0 x v rfl rfl
  | x :: y :: xs, u :: v :: vs, hl => simpa [tupOf] using tup (x :: y :: xs) (u :: v :: vs) hl h

theorem args_tm {G : Gh} {args : List AV} {vs : Array Value} (h : RepL G args vs) (n : Nat) : RepTm G (args ++ List.replicate (n - args.length) .top) (vs ++ Array.replicate (n - vs.size) undef) := by
  refine ⟨by simp [h.1], fun i => ?_⟩
  rcases Nat.lt_or_ge i args.length with hi | hi
  · have e1 : (args ++ List.replicate (n - args.length) AV.top).getD i .top = args[i] := by
      rw [List.getD_eq_getElem?_getD, List.getElem?_append_left hi, List.getElem?_eq_getElem hi]; rfl
    have e2 : (vs ++ Array.replicate (n - vs.size) undef).getD i undef = vs.getD i undef := by
      simp only [Array.getD_eq_getD_getElem?]
      rw [Array.getElem?_append_left (by rw [h.1]; exact hi)]
    rw [e1, e2]
    exact h.2 i _ (List.getElem?_eq_getElem hi)
  · have e1 : (args ++ List.replicate (n - args.length) AV.top).getD i .top = .top := by
      rw [List.getD_eq_getElem?_getD, List.getElem?_append_right hi]
      by_cases hk : i - args.length < n - args.length
      · simp [hk]
      · simp [hk]
    rw [e1]
    exact .top _

/-- A function answers what its body, walked over trees, answers. -/
theorem fn_intro (hm : P.follows .mixedOrders = true) (ann : Nat → List Nat) {f : FuncId} {fn : Func} (hf : P.funcs[f]? = some fn) (hc : callable P f = true) {Hin Hout : List Ob} {args : List AV} {r : AV} (h : aBody P ann fn Hin args r Hout) : Fn P f Hin args r Hout := by
  refine ⟨hc, fun w G vs hi hv => ?_⟩
  unfold aBody at h
  cases hb : fn.body with
  | none => simp [hb] at h
  | some c =>
    simp only [hb] at h
    refine calls_of_wp hf hb ?_
    have ht := args_tm hv fn.ntmps
    refine wp_mono (awp_sound hm ann c _ Hin _ h { tmps := vs ++ Array.replicate (fn.ntmps - vs.size) undef, defers := [] } w G hi ht) ?_
    rintro e a w' ⟨e', t, H, G', her, hk, hi', ht', hd, _, hs⟩
    have fin : aRes P fn.results.toList t H (fun vs => Gives Hin.length (tupOf vs) H r Hout) → a.defers = [] ∧ ∃ v, (results fn a.tmps).run P w' = .ok v w' ∧ ∃ v' G'', Ending.returned v = .returned v' ∧ RepA G'' r v' ∧ Inv w' G'' Hout ∧ Move Hin.length w G w' G'' := by
      intro hres
      obtain ⟨xs, us, h1, h2, h3, h4⟩ := res_sound _ _ _ _ hres w' G' a.tmps hi' ht'
      obtain ⟨G2, i2, r2, m2⟩ := h1 w' G' _ hi' (tupOf_rep h3 h4)
      exact ⟨hd.1, _, results_run h2, _, G2, rfl, r2, i2, (hs _).trans m2⟩
    cases her with
    | normal => exact fin hk
    | ret => exact fin hk
    | exit id => exact hk.elim

/-- A slice that comes in is nil, or is not. -/
theorem fn_nil_cases {f : FuncId} {es : List T} {as : List AV} {r : AV} {Ho : List Ob} (h1 : es = [] → Fn P f [] (.nils :: as) r Ho) (h2 : Fn P f [] (.nns es :: as) r Ho) : Fn P f [] (.p (.slice es) :: as) r Ho := by
  refine ⟨h2.1, fun w G vs hi hv => ?_⟩
  have r0 := repA_p.1 (hv.2 0 _ rfl)
  have tail : ∀ x, RepA G x (vs.getD 0 undef) → RepL G (x :: as) vs := by
    intro x hx
    refine ⟨by simpa using hv.1, fun j c hj => ?_⟩
    cases j with
    | zero => simp at hj; subst hj; exact hx
    | succ j => exact hv.2 (j + 1) c (by simpa using hj)
  generalize hv0 : vs.getD 0 undef = v0 at r0
  cases r0 with
  | nil a cap =>
    cases a with
    | some a => exact h2.2 w G vs hi (tail _ (by rw [hv0]; exact .nns [] a cap (.nil (some a) cap)))
    | none => exact (h1 rfl).2 w G vs hi (tail _ (by rw [hv0]; exact .nils cap))
  | slice es b o cap s val hs hr hv' hk hl hc => exact h2.2 w G vs hi (tail _ (by rw [hv0]; exact .nns es ⟨b, o, none⟩ cap (.slice es b o cap s val hs hr hv' hk hl hc)))

theorem gives_pure {v r : AV} {H : List Ob} (h : v.pur = some r) : Gives 0 v H r [] := by
  intro w G u hi hr
  refine ⟨G.bare, hi.bare, hr.pur h (fun _ _ _ e => e), ⟨rfl, rfl, rfl, Nat.le_refl _, fun _ _ _ => rfl, fun _ _ _ e => e, fun _ _ _ e => .inl e, fun id hid => by omega, fun id b e => by simp [bare_blk] at e⟩⟩

/-- One row goes with the answer. -/
def Gh.only (G : Gh) (id : Nat) : Gh := ⟨G.rd, fun i => if i = 0 then G.loc id else none⟩

theorem only_inv {w : World} {G : Gh} {H : List Ob} (hi : Inv w G H) {id n s : Nat} (ho : H[id]? = some (.row n s)) : Inv w (G.only id) [.row n s] ∧ Move 0 w G w (G.only id) := by
  have hblk : ∀ i b, (G.only id).blk i = some b → i = 0 ∧ G.blk id = some b := by
    intro i b e
    simp only [Gh.blk, Gh.only] at e ⊢
    split at e
    · rename_i h; exact ⟨h, e⟩
    · simp at e
  refine ⟨⟨hi.rd, fun i l e => ?_, fun i j b e1 e2 => by rw [(hblk i b e1).1, (hblk j b e2).1], hi.tab⟩, ⟨rfl, rfl, rfl, Nat.le_refl _, fun _ _ _ => rfl, fun _ _ _ e => e, fun _ _ _ e => .inl e, fun id hid => by omega, fun i b e => .inr ⟨id, (hblk i b e).2⟩⟩⟩
  simp only [Gh.only] at e
  split at e
  · rename_i h
    subst h
    obtain ⟨ob, ho', hh⟩ := hi.obj id l e
    rw [ho] at ho'; simp at ho'; subst ho'
    refine ⟨.row n s, rfl, ?_⟩
    cases l with
    | box b => exact hh.elim
    | mrow => exact hh.elim
    | row a cap k s' => exact hh
  · simp at e

theorem gives_own {id n s : Nat} {es : List T} {H : List Ob} (ho : H[id]? = some (.row n s)) : Gives 0 (.own id es) H (.own 0 es) [.row n s] := by
  intro w G u hi hr
  obtain ⟨i1, m1⟩ := only_inv hi ho
  refine ⟨_, i1, ?_, m1⟩
  cases hr with
  | own _ _ a a' cap cap' k s' h hl hn he hs => exact .own 0 es a a' cap cap' k s' h (by simp [Gh.only, hl]) hn he hs

end Go.Abs
end

section
/- From contracts over trees to rows: what is read of arguments as trees; what a law's row asks behind the call. -/
namespace Go.Abs
open Go.RowKit Go.ChangeShapes

/-- All cells that are there, never to change. -/
def G0 (w : World) : Gh := ⟨fun b o => w.cell? ⟨b, o, none⟩, fun _ => none⟩

/-- Where the tables lie in a world. -/
def TabsIn (w : World) : Prop := ∀ g cs, (g, cs) ∈ tabs → (∃ ty fr, w.heap[g]? = some (.cells cs.toArray ty fr)) ∧ cs ≠ []

theorem tabs0 {w : World} (h : TabsIn w) : TabOk w (G0 w).rd := by
  intro g cs hm
  obtain ⟨⟨ty, fr, e⟩, hne⟩ := h g cs hm
  refine ⟨⟨ty, fr, e⟩, hne, fun o v hv => ?_⟩
  show w.cell? ⟨g, o, none⟩ = some v
  unfold World.cell?
  simp [e, hv]

theorem inv0 {w : World} (h : TabsIn w) : Inv w (G0 w) [] := ⟨fun _ _ _ h => h, fun id l h => by simp [G0] at h, fun i j b h => by simp [Gh.blk, G0] at h, tabs0 h⟩

theorem move_below {n : Nat} {w w' : World} {G' : Gh} (h : Move n w (G0 w) w' G') : Below w.heap.size w w' :=
  ⟨h.os, h.tape, h.output, h.size, fun k hk => h.keep k hk (fun id e => by simp [Gh.blk, G0] at e)⟩

/-- A value of a type, by its cells. -/
def elemT (P : Program) (t : TypeId) (cs : List T) : T :=
  match P.underlying t with
  | some (.struct _) => .agg cs
  | _ => cs.getD 0 default

def segs (p : TypeId → List T → Prop) : List TypeId → List T → Prop
  | [], ts => ts = []
  | t :: r, ts => ∃ a b, ts = a ++ b ∧ p t a ∧ segs p r b

/-- Trees of a type. -/
def Typ (P : Program) : Nat → TypeId → List T → Prop
  | 0, _, _ => False
  | n + 1, t, ts => match P.underlying t with
    | some .bool => ∃ b, ts = [.bool b]
    | some (.int k) => ∃ m, ts = [.int k m] ∧ (Lit.int k m).wf = true
    | some .string => ∃ s, ts = [.str s] ∧ s.length ≤ maxLen
    | some (.slice e) => ∃ es : List (List T), ts = [.slice (es.map (elemT P e))] ∧ es.length ≤ maxLen ∧ ∀ x ∈ es, Typ P n e x
    | some (.struct fs) => segs (Typ P n) (fs.toList.map (·.type)) ts
    | _ => False

def offs (P : Program) : List Field → Nat → Nat → Bool
  | [], k, n => k == n
  | f :: r, k, n => f.offset == k && offs P r (k + P.cellsOf f.type) n

def closedOne (P : Program) (Ts : List TypeId) (t : TypeId) : Bool :=
  match P.underlying t with
  | some .bool => P.cellsOf t == 1
  | some (.int _) => P.cellsOf t == 1
  | some .string => P.cellsOf t == 1
  | some (.slice e) => P.cellsOf t == 1 && Ts.contains e && decide (0 < P.cellsOf e)
  | some (.struct fs) => offs P fs.toList 0 (P.cellsOf t) && fs.toList.all (fun f => Ts.contains f.type)
  | _ => false

def closedT (P : Program) (Ts : List TypeId) : Bool := Ts.all (closedOne P Ts)

variable {H : Type} {enc : TypeId × Value → H} {P : Program} {w : World} {spare : Nat → Bool}

/-- Trees for cells. -/
def RepRow (rd : Rd) (ts : List T) (cs : List Value) : Prop := ts.length = cs.length ∧ ∀ (j : Nat) (c : T), ts[j]? = some c → RepT rd c (cs.getD j undef) ∧ scalar (cs.getD j undef) = true

theorem RepRow.one {rd : Rd} {c : T} {v : Value} (h : RepT rd c v) (hs : scalar v = true) : RepRow rd [c] [v] := by
  refine ⟨rfl, fun j c' hj => ?_⟩
  cases j with
  | zero => simp at hj; subst hj; exact ⟨h, hs⟩
  | succ j => simp at hj

theorem RepRow.append {rd : Rd} {a b : List T} {cs ds : List Value} (h : RepRow rd a cs) (k : RepRow rd b ds) : RepRow rd (a ++ b) (cs ++ ds) := by
  refine ⟨by simp [h.1, k.1], fun j c hj => ?_⟩
  rcases Nat.lt_or_ge j a.length with hl | hl
  · rw [List.getElem?_append_left hl] at hj
    have := h.2 j c hj
    rw [List.getD_eq_getElem?_getD, List.getElem?_append_left (by rw [← h.1]; exact hl), ← List.getD_eq_getElem?_getD]
    exact this
  · rw [List.getElem?_append_right hl] at hj
    have := k.2 _ c hj
    rw [List.getD_eq_getElem?_getD, List.getElem?_append_right (by rw [← h.1]; exact hl), ← h.1, ← List.getD_eq_getElem?_getD]
    exact this

theorem closed_get {Ts : List TypeId} (h : closedT P Ts = true) {t : TypeId} (ht : t ∈ Ts) : closedOne P Ts t = true := List.all_eq_true.1 h t ht

theorem cells?_get {base n : Nat} {a : Addr} {cs : List Value} (h : w.cells? base a n = some cs) : cs.length = n ∧ ∀ i, i < n → w.cell? (a.add i) = cs[i]? := by
  unfold World.cells? at h
  split at h
  · have key : ∀ (l : List Nat) (cs : List Value), l.mapM (fun i => w.cell? (a.add i)) = some cs → cs.length = l.length ∧ ∀ (j : Nat) (i : Nat), l[j]? = some i → w.cell? (a.add i) = cs[j]? := by
      intro l
      induction l with
      | nil => intro cs h; simp at h; subst h; simp
      | cons x r ih =>
        intro cs h
        simp only [List.mapM_cons, Option.bind_eq_bind, Option.bind_eq_some_iff] at h
        obtain ⟨y, hy, ys, hys, hr⟩ := h
        simp at hr
        subst hr
        obtain ⟨h1, h2⟩ := ih ys hys
        refine ⟨by simp [h1], fun j i hj => ?_⟩
        cases j with
        | zero => simp at hj; subst hj; simpa using hy
        | succ j => simp at hj ⊢; exact h2 j i hj
    obtain ⟨h1, h2⟩ := key _ _ h
    exact ⟨by simpa using h1, fun i hi => h2 i i (by simp [hi])⟩
  · simp at h

theorem spot_none {a : Addr} {v : Value} (h : w.cell? a = some v) : a.spot = none := by
  unfold World.cell? at h
  split at h
  · split at h
    · simp at h
    · rename_i hs; simpa using hs
  · simp at h

theorem add_none {a : Addr} (h : a.spot = none) (n : Nat) : a.add n = ⟨a.block, a.off + n, none⟩ := by
  unfold Addr.add
  split
  · rename_i hn; subst hn; cases a; simp_all
  · rfl

/-- What is read of a plain type is a tree of it. -/
theorem trod_typ {Ts : List TypeId} (hc : closedT P Ts = true) : ∀ (n : Nat) (t : TypeId) (cs : List Value) (x : DataW H × List MemPlace), t ∈ Ts → DataW.trod enc P w 0 spare true n t cs = some x →
    cs.length = P.cellsOf t ∧ ∃ ts, RepRow (G0 w).rd ts cs ∧ Typ P n t ts := by
  intro n
  induction n with
  | zero => intro t cs x _ h; simp [DataW.trod] at h
  | succ n ih =>
    intro t cs x ht h
    have hone := closed_get hc ht
    unfold closedOne at hone
    simp only [Typ]
    split at hone
    · rename_i hu
      obtain ⟨b, rfl, rfl⟩ := DataW.trod_bool hu h
      exact ⟨by simpa using (beq_iff_eq.1 hone).symm, [.bool b], .one (.bool b) rfl, b, rfl⟩
    · rename_i k hu
      obtain ⟨m, rfl, rfl, hw⟩ := DataW.trod_int hu h
      exact ⟨by simpa using (beq_iff_eq.1 hone).symm, [.int k m], .one (.int k m) rfl, m, rfl, hw⟩
    · rename_i hu
      obtain ⟨s, rfl, rfl, hw⟩ := DataW.trod_string hu h
      refine ⟨by simpa using (beq_iff_eq.1 hone).symm, [.str s.data.toList], .one ?_ rfl, ?_⟩
      · have := RepT.str (rd := (G0 w).rd) s.data.toList (by simpa using hw)
        simpa using this
      · exact ⟨_, rfl, by simpa using hw⟩
    · rename_i e hu
      simp only [Bool.and_eq_true, beq_iff_eq, decide_eq_true_eq, List.contains_iff_mem] at hone
      obtain ⟨⟨h1, he⟩, hpos⟩ := hone
      rcases DataW.trod_slice hu h with ⟨rfl, _⟩ | ⟨a, len, cap, elems, rest, m, hm, rfl, _, _, hle, hmax, hlen, hel, _⟩
      · refine ⟨by simp [h1], [.slice []], .one (.nil none 0) rfl, ?_⟩
        exact ⟨[], rfl, by simp, by simp⟩
      · have hm : m = n := by omega
        subst hm
        -- each element
        have hrow : ∀ i, i < len → ∃ cs, w.cells? 0 (a.add (i * P.cellsOf e)) (P.cellsOf e) = some cs ∧ cs.length = P.cellsOf e ∧ ∃ ts, RepRow (G0 w).rd ts cs ∧ Typ P m e ts := by
          intro i hi
          have := hel i hi
          rw [List.getElem?_eq_getElem (by omega)] at this
          rw [Option.bind_eq_some_iff] at this
          obtain ⟨cs, h2, h3⟩ := this
          obtain ⟨h4, ts, h5, h6⟩ := ih e cs _ he h3
          exact ⟨cs, h2, h4, ts, h5, h6⟩
        let f : Nat → List T := fun i => if h : i < len then (hrow i h).choose_spec.2.2.choose else []
        have hf : ∀ i, i < len → ∃ cs, w.cells? 0 (a.add (i * P.cellsOf e)) (P.cellsOf e) = some cs ∧ cs.length = P.cellsOf e ∧ RepRow (G0 w).rd (f i) cs ∧ Typ P m e (f i) := by
          intro i hi
          simp only [f, hi, dif_pos]
          exact ⟨(hrow i hi).choose, (hrow i hi).choose_spec.1, (hrow i hi).choose_spec.2.1, (hrow i hi).choose_spec.2.2.choose_spec.1, (hrow i hi).choose_spec.2.2.choose_spec.2⟩
        have hcells : ∀ i, i < len → (elemT P e (f i)).cells = f i := by
          intro i hi
          obtain ⟨cs, g1, g2, g3, g4⟩ := hf i hi
          have hl : (f i).length = P.cellsOf e := by rw [g3.1, g2]
          unfold elemT
          cases hm : m with
          | zero => rw [hm] at g4; simp [Typ] at g4
          | succ m' =>
            rw [hm] at g4
            simp only [Typ] at g4
            split
            · rfl
            · rename_i hns
              split at g4
              · obtain ⟨b, hb⟩ := g4; rw [hb]; rfl
              · obtain ⟨b, hb, _⟩ := g4; rw [hb]; rfl
              · obtain ⟨b, hb, _⟩ := g4; rw [hb]; rfl
              · obtain ⟨b, hb, _⟩ := g4; rw [hb]; rfl
              · rename_i fs hfs; exact absurd hfs (hns fs)
              · exact g4.elim
        refine ⟨by simp [h1], [.slice ((List.range len).map fun i => elemT P e (f i))], .one ?_ rfl, ?_⟩
        · by_cases h0 : len = 0
          · subst h0; exact .nil _ _
          · have hspot : a.spot = none := by
              obtain ⟨cs, g1, g2, _⟩ := hf 0 (by omega)
              have := (cells?_get g1).2 0 (by omega)
              rw [List.getElem?_eq_getElem (by omega)] at this
              simpa [Addr.add] using spot_none this
            obtain ⟨b, o, sp⟩ := a
            simp at hspot
            subst hspot
            have hlen' : ((List.range len).map fun i => elemT P e (f i)).length = len := by simp
            have := RepT.slice (rd := (G0 w).rd) ((List.range len).map fun i => elemT P e (f i)) b o cap (P.cellsOf e) (fun i j => ((w.cell? ⟨b, o + i * P.cellsOf e + j, none⟩).getD undef)) (fun e' he' => ?_) (fun i j e' c he' hc' => ?_) (fun i j e' c he' hc' => ?_) (fun i j e' c he' hc' => ?_) (by simp; omega) (by simpa using hle)
            · rw [hlen'] at this; exact this
            · simp only [List.mem_map, List.mem_range] at he'
              obtain ⟨i, hi, rfl⟩ := he'
              obtain ⟨cs, g1, g2, g3, _⟩ := hf i hi
              rw [hcells i hi, g3.1, g2]
            all_goals
              simp only [List.getElem?_map, Option.map_eq_some_iff] at he'
              obtain ⟨i', hi', rfl⟩ := he'
              have hil : i < len := by have := (List.getElem?_eq_some_iff.1 hi').1; simpa using this
              have : i' = i := by simp [hil] at hi'; exact hi'.symm
              subst this
              rw [hcells i' hil] at hc'
              obtain ⟨cs, g1, g2, g3, _⟩ := hf i' hil
              have hjl : j < cs.length := by rw [← g3.1]; exact (List.getElem?_eq_some_iff.1 hc').1
              have hcell := (cells?_get g1).2 j (by omega)
              rw [add_none (a := ⟨b, o, none⟩) rfl (i' * P.cellsOf e), add_none rfl j, List.getElem?_eq_getElem hjl] at hcell
              simp only at hcell
              have hg := g3.2 j c hc'
              rw [List.getD_eq_getElem?_getD, List.getElem?_eq_getElem hjl] at hg
              simp only [G0, hcell, Option.getD_some]
            · exact hg.1
            · exact hg.2
        · refine ⟨(List.range len).map f, by simp [Function.comp_def], by simp; omega, fun x hx => ?_⟩
          simp only [List.mem_map, List.mem_range] at hx
          obtain ⟨i, hi, rfl⟩ := hx
          obtain ⟨_, _, _, _, g⟩ := hf i hi
          exact g
    · rename_i fs hu
      simp only [Bool.and_eq_true, List.all_eq_true, List.contains_iff_mem] at hone
      obtain ⟨ho, hfs⟩ := hone
      obtain ⟨xs, m, hm, _, hlen, hxs, hel⟩ := DataW.trod_struct hu h
      have hm : m = n := by omega
      subst hm
      refine ⟨hlen, ?_⟩
      have key : ∀ (l : List Field) (k : Nat), (∀ f ∈ l, f ∈ fs.toList) → offs P l k (P.cellsOf t) = true → ∃ ts, RepRow (G0 w).rd ts (cs.drop k) ∧ segs (Typ P m) (l.map (·.type)) ts := by
        intro l
        induction l with
        | nil =>
          intro k _ hk
          have : k = P.cellsOf t := by simpa [offs] using hk
          refine ⟨[], ⟨by simp [hlen, this], by simp⟩, rfl⟩
        | cons f r ihl =>
          intro k hmem hk
          simp only [offs, Bool.and_eq_true, beq_iff_eq] at hk
          obtain ⟨rfl, hk⟩ := hk
          obtain ⟨ts, g1, g2⟩ := ihl _ (fun f hf => hmem f (List.mem_cons_of_mem _ hf)) hk
          obtain ⟨i, hi, hif⟩ := List.getElem_of_mem (hmem f List.mem_cons_self)
          have hi' : fs[i]? = some f := by rw [← hif]; simp
          have := hel i f hi'
          rw [List.getElem?_eq_getElem (by rw [hxs]; simpa using hi)] at this
          obtain ⟨e1, us, e2, e3⟩ := ih _ _ _ (hfs f (hmem f List.mem_cons_self)) this
          refine ⟨us ++ ts, ?_, us, ts, rfl, e3, g2⟩
          have hd : cs.drop f.offset = (cs.drop f.offset).take (P.cellsOf f.type) ++ cs.drop (f.offset + P.cellsOf f.type) := by
            rw [← List.drop_drop, List.take_append_drop]
          rw [hd]
          exact e2.append g1
      obtain ⟨ts, g1, g2⟩ := key fs.toList 0 (fun _ h => h) ho
      exact ⟨ts, by simpa using g1, g2⟩
    · simp at hone

/-- An argument of a plain type. -/
theorem arg_rep {Ts : List TypeId} (hc : closedT P Ts = true) {t : TypeId} (ht : t ∈ Ts) {r : Reach} {b0 : Nat} {v : Value} {d : DataW H} {ps : List MemPlace} (hval : Value.okWide P w r b0 t v) (hd : DataW.Trod enc P w 0 spare true t v d ps) :
    ∃ n ts, Typ P n t ts ∧ RepT (G0 w).rd (elemT P t ts) v := by
  obtain ⟨n, hn⟩ := hd
  obtain ⟨hlen, ts, h1, h2⟩ := trod_typ hc n t _ _ ht hn
  refine ⟨n, ts, h2, ?_⟩
  have hone := closed_get hc ht
  unfold closedOne at hone
  unfold elemT
  split
  · rename_i fs hu
    simp only [Value.okWide, hu] at hval
    obtain ⟨cs, rfl, _, _⟩ := hval
    refine .agg ts cs (by simpa [Value.cells] using h1.1.symm) (fun j c hj => ?_) (fun j c hj => ?_)
    · have := (h1.2 j c hj).1
      simpa [Value.cells, Array.getD_eq_getD_getElem?, List.getD_eq_getElem?_getD] using this
    · have := (h1.2 j c hj).2
      simpa [Value.cells, Array.getD_eq_getD_getElem?, List.getD_eq_getElem?_getD] using this
  · rename_i hns
    have hl1 : P.cellsOf t = 1 := by
      split at hone
      · simpa using hone
      · simpa using hone
      · simpa using hone
      · simp only [Bool.and_eq_true, beq_iff_eq] at hone; exact hone.1.1
      · rename_i fs hu; exact absurd hu (hns fs)
      · simp at hone
    have hva : ∀ cs, v ≠ .agg cs := by
      rintro cs rfl
      split at hone
      · rename_i hu; simp [Value.okWide, Cell.okWide, Cell.ok, hu] at hval
      · rename_i hu; simp [Value.okWide, Cell.okWide, Cell.ok, hu] at hval
      · rename_i hu; simp [Value.okWide, Cell.okWide, Cell.ok, hu] at hval
      · rename_i hu; simp [Value.okWide, Cell.okWide, Cell.ok, hu] at hval
      · rename_i fs hu; exact absurd hu (hns fs)
      · simp at hone
    have hcs : v.cells.toList = [v] := by
      cases v with
      | agg cs => exact absurd rfl (hva cs)
      | _ => rfl
    rw [hcs] at h1
    have hl : ts.length = 1 := by simpa using h1.1
    match ts, hl with
    | [c], _ => simpa using (h1.2 0 c rfl).1

theorem typ_int {n : Nat} {t : TypeId} {k : IntKind} {cs : List T} (hu : P.underlying t = some (.int k)) (h : Typ P n t cs) : ∃ m, cs = [.int k m] ∧ elemT P t cs = .int k m ∧ (Lit.int k m).wf = true := by
  cases n with
  | zero => exact h.elim
  | succ n =>
    simp only [Typ, hu] at h
    obtain ⟨m, rfl, hw⟩ := h
    exact ⟨m, rfl, by simp [elemT, hu], hw⟩

theorem u8_wf {m : Int} (h : (Lit.int .u8 m).wf = true) : 0 ≤ m ∧ m ≤ 255 := by
  simpa [Lit.wf, IntKind.min, IntKind.max, IntKind.signed, IntKind.bits] using h

def TypAll (P : Program) : List TypeId → List T → Prop
  | [], xs => xs = []
  | t :: ts, xs => ∃ x r, xs = x :: r ∧ (∃ n cs, x = elemT P t cs ∧ Typ P n t cs) ∧ TypAll P ts r

theorem rowArgs_rep {Ts : List TypeId} (hc : closedT P Ts = true) {r : Reach} {b0 : Nat} : ∀ (ts : List TypeId) (vs : List Value) (ds : List (DataW H)) (ps : List MemPlace), ts.all (Ts.contains ·) = true → (∀ (j : Nat) t v, ts[j]? = some t → vs[j]? = some v → Value.okWide P w r b0 t v) →
    DataW.TrodAll enc P w 0 spare true ts vs ds ps → ∃ xs, TypAll P ts xs ∧ xs.length = vs.length ∧ ∀ (j : Nat) x v, xs[j]? = some x → vs[j]? = some v → RepT (G0 w).rd x v
  | [], vs, ds, ps, _, _, h => by
    obtain ⟨rfl, rfl, rfl⟩ := trodAll_nil h
    exact ⟨[], rfl, rfl, by simp⟩
  | t :: ts, vs, ds, ps, ha, hv, h => by
    obtain ⟨v0, vs0, d0, ds0, p0, q0, rfl, rfl, rfl, h0, r0⟩ := trodAll_cons h
    simp only [List.all_cons, Bool.and_eq_true, List.contains_iff_mem] at ha
    obtain ⟨n, cs, g1, g2⟩ := arg_rep hc ha.1 (hv 0 t v0 rfl rfl) h0
    obtain ⟨xs, e1, e2, e3⟩ := rowArgs_rep hc ts vs0 ds0 q0 ha.2 (fun j t v hj hk => hv (j + 1) t v (by simpa using hj) (by simpa using hk)) r0
    refine ⟨_ :: xs, ⟨_, _, rfl, ⟨n, cs, rfl, g1⟩, e1⟩, by simp [e2], fun j x v hj hk => ?_⟩
    cases j with
    | zero => simp at hj hk; subst hj hk; exact g2
    | succ j => simp at hj hk; exact e3 j x v hj hk

theorem args_stay {W W' : World} (hl : laidOutB P = true) (hb : Below W.heap.size W W') : ∀ (ts : List TypeId) (vs : List Value) (ds : List (DataW H)) (ps : List MemPlace), (∀ x ∈ ps, x.block < W.heap.size) → ts.all (fun t => P.readableRec t && decide (t < P.types.size)) = true →
    DataW.TrodAll enc P W 0 (fun _ => true) true ts vs ds ps → DataW.TrodAll enc P W' 0 (fun b => decide (b < W.heap.size)) true ts vs ds ps
  | [], vs, ds, ps, _, _, h => by
    obtain ⟨rfl, rfl, rfl⟩ := trodAll_nil h
    exact trodAll_mk0
  | t :: ts, vs, ds, ps, hlt, ha, h => by
    obtain ⟨v0, vs0, d0, ds0, p0, q0, rfl, rfl, rfl, h0, r0⟩ := trodAll_cons h
    simp only [List.all_cons, Bool.and_eq_true, decide_eq_true_eq] at ha
    exact trodAll_cons_mk (Below.trod hl ha.1.1 ha.1.2 h0 hb (fun x hx => hlt x (List.mem_append_left _ hx))) (args_stay hl hb ts vs0 ds0 q0 (fun x hx => hlt x (List.mem_append_right _ hx)) ha.2 r0)

/-- A law's contract, out of one over trees. -/
theorem law_contract {f : FuncId} {fn : Func} {s : ChangeSpec} {tb : TypeId} {Ts : List TypeId} (hres : fn.resultTypes = #[tb]) (htb : P.underlying tb = some .bool) (hl : laidOutB P = true) (hrd : fn.params.toList.all (fun t => P.readableRec t && decide (t < P.types.size)) = true)
    (hv : s.vars = []) (hs : ∀ ds : List (DataW H), ds.length = fn.params.size → (s.fn H ds).results = [.lit (.bool true)] ∧ (s.fn H ds).args = ds ∧ (s.fn H ds).vars = []) (hc : closedT P Ts = true) (hp : fn.params.toList.all (Ts.contains ·) = true)
    (hf : ∀ xs, TypAll P fn.params.toList xs → Fn P f [] (xs.map .p) (.p (.bool true)) []) (W : World) (base : Nat) (args : Array Value) (ds gs : List (DataW H)) (before : List MemPlace)
    (hval : ∀ (j : Nat) t v, fn.params[j]? = some t → args[j]? = some v → Value.okWide P W .any base t v) (hW : DataW.Whole enc P fn.params.toList s.vars false W args.toList ds gs before) (hT : TabsIn W) :
    Calls P f args W fun e W' => ∃ v, e = .returned v ∧ s.post enc P fn false true false false W args v W' := by
  have hW' := hW
  obtain ⟨p, q, hA, hV, rfl, _, _⟩ := hW
  rw [hv] at hV
  obtain ⟨rfl, rfl⟩ := trodVars_none hV
  obtain ⟨xs, h1, h2, h3⟩ := rowArgs_rep hc _ _ _ _ hp (fun j t v hj hk => hval j t v (by simpa using hj) (by simpa using hk)) hA
  have hds : ds.length = fn.params.size := by simpa using (trodAll_length hA).2
  obtain ⟨s1, s2, s3⟩ := hs ds hds
  refine ((hf xs h1).2 W (G0 W) args (inv0 hT) ⟨by simpa using h2.symm, fun j x hj => ?_⟩).mono ?_
  · simp only [List.getElem?_map, Option.map_eq_some_iff] at hj
    obtain ⟨t, ht, rfl⟩ := hj
    have hlt : j < args.size := by have := (List.getElem?_eq_some_iff.1 ht).1; simp at h2; omega
    refine .p _ _ (h3 j t _ ht ?_)
    simp [Array.getD_eq_getD_getElem?, Array.getElem?_eq_getElem hlt]
  · rintro e W' ⟨v, G', rfl, hr, _, hm⟩
    have hb := move_below hm
    have : v = .bool true := repA_bool.1 hr
    subst this
    refine ⟨_, rfl, ds, [], _, [], p, [], hW', ?_, ?_, ?_, hb.frame _, fun h => by cases h⟩
    · rw [List.append_nil, s1, hres]
      exact trodAll_cons_mk (shut_bool htb _) trodAll_mk0
    · rw [List.append_nil, s2]
      exact args_stay hl hb _ _ _ _ (fun x hx => hW'.lt x (by simpa using hx)) hrd hA
    · rw [List.append_nil, s3, hv]
      exact rfl

end Go.Abs
end

section
/- How the texts over trees are reckoned: one lemma for each operation, for 'simp'; the rules for calls and loops. -/
namespace Go.Abs

variable {P : Program} {K : AV → Prop} {K2 : AV → List Ob → Prop} {H : List Ob} {k : IntKind} {a b : Int} {bb bp : Bool}

@[simp ↓] theorem aPick_eq {x : Bool} {u v : AV} : aPick (.p (.bool x)) u v K = cond x (K u) (K v) := rfl
@[simp ↓] theorem aBin_add : aBin bb bp .add (.p (.int k a)) (.p (.int k b)) K = K (.p (.int k (k.wrap (a + b)))) := by simp [aBin, intBin]
@[simp ↓] theorem aBin_sub : aBin bb bp .sub (.p (.int k a)) (.p (.int k b)) K = K (.p (.int k (k.wrap (a - b)))) := by simp [aBin, intBin]
@[simp ↓] theorem aBin_mul : aBin bb bp .mul (.p (.int k a)) (.p (.int k b)) K = K (.p (.int k (k.wrap (a * b)))) := by simp [aBin, intBin]
@[simp ↓] theorem aBin_quo : aBin bb bp .quo (.p (.int k a)) (.p (.int k b)) K = (b ≠ 0 ∧ K (.p (.int k (k.wrap (a.tdiv b))))) := by simp [aBin, intBin]
@[simp ↓] theorem aBin_rem : aBin bb bp .rem (.p (.int k a)) (.p (.int k b)) K = (b ≠ 0 ∧ K (.p (.int k (a.tmod b)))) := by simp [aBin, intBin]
@[simp ↓] theorem aBin_shl {k' : IntKind} : aBin bb bp .shl (.p (.int k a)) (.p (.int k' b)) K = (0 ≤ b ∧ K (.p (.int k (k.wrap (a * 2 ^ (min b.toNat k.bits)))))) := rfl
@[simp ↓] theorem aBin_shr {k' : IntKind} : aBin bb bp .shr (.p (.int k a)) (.p (.int k' b)) K = (0 ≤ b ∧ K (.p (.int k (a.fdiv (2 ^ (min b.toNat k.bits)))))) := rfl
@[simp ↓] theorem aBin_and : aBin bb bp .and (.p (.int k a)) (.p (.int k b)) K = K (.p (.int k (k.wrap (BitVec.ofInt k.bits a &&& BitVec.ofInt k.bits b).toNat))) := by simp [aBin, intBin]
@[simp ↓] theorem aBin_or : aBin bb bp .or (.p (.int k a)) (.p (.int k b)) K = K (.p (.int k (k.wrap (BitVec.ofInt k.bits a ||| BitVec.ofInt k.bits b).toNat))) := by simp [aBin, intBin]
@[simp ↓] theorem aBin_xor : aBin bb bp .xor (.p (.int k a)) (.p (.int k b)) K = K (.p (.int k (k.wrap (BitVec.ofInt k.bits a ^^^ BitVec.ofInt k.bits b).toNat))) := by simp [aBin, intBin]
@[simp ↓] theorem aBin_eql : aBin bb bp .eql (.p (.int k a)) (.p (.int k b)) K = K (.p (.bool (decide (a = b)))) := by simp [aBin, intBin]; rfl
@[simp ↓] theorem aBin_neq : aBin bb bp .neq (.p (.int k a)) (.p (.int k b)) K = K (.p (.bool (decide (a ≠ b)))) := by
  simp only [aBin, intBin, true_and]
  congr 3
  cases h : decide (a ≠ b) <;> simp_all
@[simp ↓] theorem aBin_lss : aBin bb bp .lss (.p (.int k a)) (.p (.int k b)) K = K (.p (.bool (decide (a < b)))) := by simp [aBin, intBin]
@[simp ↓] theorem aBin_leq : aBin bb bp .leq (.p (.int k a)) (.p (.int k b)) K = K (.p (.bool (decide (a ≤ b)))) := by simp [aBin, intBin]
@[simp ↓] theorem aBin_gtr : aBin bb bp .gtr (.p (.int k a)) (.p (.int k b)) K = K (.p (.bool (decide (b < a)))) := by simp [aBin, intBin]
@[simp ↓] theorem aBin_geq : aBin bb bp .geq (.p (.int k a)) (.p (.int k b)) K = K (.p (.bool (decide (b ≤ a)))) := by simp [aBin, intBin]
@[simp ↓] theorem aBin_addS {x y : List UInt8} : aBin bb bp .add (.p (.str x)) (.p (.str y)) K = (x.length + y.length ≤ maxLen ∧ K (.p (.str (x ++ y)))) := rfl
@[simp ↓] theorem aBin_eqlS {x y : List UInt8} : aBin bb bp .eql (.p (.str x)) (.p (.str y)) K = K (.p (.bool (decide (x = y)))) := by
  simp only [aBin, strBin]
  congr 3
  cases h : decide (x = y) <;> simp_all
@[simp ↓] theorem aBin_neqS {x y : List UInt8} : aBin bb bp .neq (.p (.str x)) (.p (.str y)) K = K (.p (.bool (decide (x ≠ y)))) := by
  simp only [aBin, strBin]
  congr 3
  cases h : decide (x = y) <;> simp_all
@[simp ↓] theorem aBin_lssS {x y : List UInt8} : aBin bb bp .lss (.p (.str x)) (.p (.str y)) K = K (.p (.bool (Op.bytesLess x y))) := rfl
@[simp ↓] theorem aBin_eqlB {x y : Bool} : aBin true bp .eql (.p (.bool x)) (.p (.bool y)) K = K (.p (.bool (x == y))) := by simp [aBin, eqBin]
@[simp ↓] theorem aBin_neqB {x y : Bool} : aBin true bp .neq (.p (.bool x)) (.p (.bool y)) K = K (.p (.bool (!(x == y)))) := by simp [aBin, eqBin]
@[simp ↓] theorem aNil_eq1 : aNil true .eql .nils K = K (.p (.bool true)) := by simp [aNil]
@[simp ↓] theorem aNil_eq2 {es : List T} : aNil true .eql (.nns es) K = K (.p (.bool false)) := by simp [aNil]
@[simp ↓] theorem aNil_ne1 : aNil true .neq .nils K = K (.p (.bool false)) := by simp [aNil]
@[simp ↓] theorem aNil_ne2 {es : List T} : aNil true .neq (.nns es) K = K (.p (.bool true)) := by simp [aNil]
@[simp ↓] theorem aNil_eq3 {i v s o n : Nat} : aNil true .eql (.msl i v s o n) K = (0 < n ∧ K (.p (.bool false))) := by simp [aNil]
@[simp ↓] theorem aNil_ne3 {i v s o n : Nat} : aNil true .neq (.msl i v s o n) K = (0 < n ∧ K (.p (.bool true))) := by simp [aNil]
@[simp ↓] theorem aNil_eq4 {es : List T} : aNil true .eql (.p (.slice es)) K = (es ≠ [] ∧ K (.p (.bool false))) := by simp [aNil, AV.elems]
@[simp ↓] theorem aNil_ne4 {es : List T} : aNil true .neq (.p (.slice es)) K = (es ≠ [] ∧ K (.p (.bool true))) := by simp [aNil, AV.elems]
@[simp] theorem elems_nils : AV.nils.elems = some [] := rfl
@[simp] theorem elems_nns {es : List T} : (AV.nns es).elems = some es := rfl
@[simp ↓] theorem aUn_not {x : Bool} : aUn .not (.p (.bool x)) K = K (.p (.bool (!x))) := rfl
@[simp ↓] theorem aUn_neg : aUn .neg (.p (.int k a)) K = K (.p (.int k (k.wrap (0 - a)))) := rfl
@[simp ↓] theorem aConvInt_eq {k' : IntKind} : aConvInt k (.p (.int k' a)) K = K (.p (.int k (k.wrap a))) := rfl
@[simp ↓] theorem aConvStr_eq {x : List UInt8} : aConvStr (.p (.str x)) K = K (.p (.str x)) := rfl
@[simp ↓] theorem aStrBytes_eq {x : List UInt8} : aStrBytes (.p (.str x)) K = K (.p (.slice (x.map byteT))) := rfl
@[simp ↓] theorem aNilCheck_b {i o : Nat} : aNilCheck (.bptr i o) K = K (.bptr i o) := rfl
@[simp ↓] theorem aNilCheck_i {cs : List T} {o : Nat} : aNilCheck (.p (.imm cs o)) K = K (.p (.imm cs o)) := rfl
@[simp ↓] theorem aNilCheck_m {i v s j o : Nat} : aNilCheck (.mptr i v s j o) K = K (.mptr i v s j o) := rfl
@[simp ↓] theorem aBind_b {f i o : Nat} : aBind f (.bptr i o) H K2 = K2 (.bnd f i o) H := rfl
@[simp] theorem storable_bnd {f i o : Nat} : (AV.bnd f i o).storable = true := rfl
@[simp] theorem cells_bnd {f i o : Nat} : (AV.bnd f i o).cells = [.bnd f i o] := rfl
@[simp] theorem storable_mapr {i : Nat} : (AV.mapr i).storable = true := rfl
@[simp] theorem cells_mapr {i : Nat} : (AV.mapr i).cells = [.mapr i] := rfl
@[simp ↓] theorem aNilCheck_bnd {f i o : Nat} : aNilCheck (.bnd f i o) K = K (.bnd f i o) := rfl
@[simp ↓] theorem aNilCheck_c {f : Nat} {cs : List (Nat × Nat)} : aNilCheck (.mclo f cs) K = K (.mclo f cs) := rfl
@[simp ↓] theorem aNilCheck_f {f : Nat} {cs : List T} : aNilCheck (.p (.func f cs)) K = K (.p (.func f cs)) := rfl
@[simp ↓] theorem aFieldAddr_b {i o off : Nat} : aFieldAddr off (.bptr i o) K = K (.bptr i (o + off)) := rfl
@[simp ↓] theorem aFieldAddr_i {cs : List T} {o off : Nat} : aFieldAddr off (.p (.imm cs o)) K = K (.p (.imm cs (o + off))) := rfl
@[simp ↓] theorem aFieldAddr_m {i v s j o off : Nat} : aFieldAddr off (.mptr i v s j o) K = K (.mptr i v s j (o + off)) := rfl
@[simp ↓] theorem aField_agg {agg : Bool} {off s : Nat} {cs : List AV} : aField agg off s (.agg cs) K = (off + s ≤ cs.length ∧ K (if agg then .agg ((cs.drop off).take s) else cs.getD off .top)) := rfl
@[simp ↓] theorem aField_p {agg : Bool} {off s : Nat} {cs : List T} : aField agg off s (.p (.agg cs)) K = (off + s ≤ cs.length ∧ K (.p (if agg then .agg ((cs.drop off).take s) else cs.getD off default))) := rfl
@[simp] theorem elems_p {es : List T} : (AV.p (.slice es)).elems = some es := rfl
@[simp] theorem elems_full {es : List T} : (AV.full es).elems = some es := rfl
@[simp] theorem elems_own {i : Nat} {es : List T} : (AV.own i es).elems = some es := rfl
@[simp ↓] theorem aIndexAddr_p {s : Nat} {es : List T} : aIndexAddr s (.p (.slice es)) (.p (.int k a)) K = ((0 ≤ a ∧ a < es.length) ∧ (es.getD a.toNat default).cells.length = s ∧ K (.p (.imm (es.getD a.toNat default).cells 0))) := rfl
@[simp ↓] theorem aIndexAddr_full {s : Nat} {es : List T} : aIndexAddr s (.full es) (.p (.int k a)) K = ((0 ≤ a ∧ a < es.length) ∧ (es.getD a.toNat default).cells.length = s ∧ K (.p (.imm (es.getD a.toNat default).cells 0))) := rfl
@[simp ↓] theorem aIndexAddr_own {s i : Nat} {es : List T} : aIndexAddr s (.own i es) (.p (.int k a)) K = ((0 ≤ a ∧ a < es.length) ∧ (es.getD a.toNat default).cells.length = s ∧ K (.p (.imm (es.getD a.toNat default).cells 0))) := rfl
@[simp ↓] theorem aIndexAddr_m {s i v s' o n : Nat} : aIndexAddr s (.msl i v s' o n) (.p (.int k a)) K = (s' = s ∧ (0 ≤ a ∧ a < n) ∧ K (.mptr i v s (o + a.toNat) 0)) := rfl
@[simp ↓] theorem aIndex_eq {x : List UInt8} : aIndex (.p (.str x)) (.p (.int k a)) K = ((0 ≤ a ∧ a < x.length) ∧ K (.p (byteT (x.getD a.toNat 0)))) := rfl
@[simp ↓] theorem boundK_none {d : Int} {Q : Int → Prop} : boundK none d Q = Q d := rfl
@[simp ↓] theorem boundK_some {d : Int} {Q : Int → Prop} : boundK (some (.p (.int k a))) d Q = Q a := rfl
@[simp ↓] theorem aSlice_str {s : Nat} {x : List UInt8} {lo hi : Option AV} : aSlice true s (.p (.str x)) lo hi none K = boundK lo 0 fun l => boundK hi x.length fun h => (0 ≤ l ∧ l ≤ h ∧ h ≤ x.length) ∧ K (.p (.str ((x.take h.toNat).drop l.toNat))) := rfl
@[simp ↓] theorem aSlice_p {s : Nat} {es : List T} {lo hi mx : Option AV} : aSlice false s (.p (.slice es)) lo hi mx K = aSliceSl s es lo hi mx K := rfl
@[simp ↓] theorem aSlice_full {s : Nat} {es : List T} {lo hi mx : Option AV} : aSlice false s (.full es) lo hi mx K = aSliceSl s es lo hi mx K := rfl
@[simp ↓] theorem aSlice_own {s i : Nat} {es : List T} {lo hi mx : Option AV} : aSlice false s (.own i es) lo hi mx K = aSliceSl s es lo hi mx K := rfl
@[simp ↓] theorem aSlice_m {s i v s' o n : Nat} {lo hi mx : Option AV} : aSlice false s (.msl i v s' o n) lo hi mx K = aSliceM s i v s' o n lo hi mx K := rfl
@[simp ↓] theorem aExtract_eq {vs : List AV} {i : Nat} : aExtract (.tup vs) i K = (i < vs.length ∧ K (vs.getD i .top)) := rfl
@[simp ↓] theorem aLen_str {x : List UInt8} : aLen false true (.p (.str x)) K = (x.length ≤ maxLen → K (.p (.int .i64 x.length))) := rfl
@[simp ↓] theorem aLen_p {es : List T} : aLen false false (.p (.slice es)) K = (es.length ≤ maxLen → K (.p (.int .i64 es.length))) := rfl
@[simp ↓] theorem aLen_full {es : List T} : aLen false false (.full es) K = (es.length ≤ maxLen → K (.p (.int .i64 es.length))) := rfl
@[simp ↓] theorem aLen_own {i : Nat} {es : List T} : aLen false false (.own i es) K = (es.length ≤ maxLen → K (.p (.int .i64 es.length))) := rfl
@[simp ↓] theorem aLen_m {i v s o n : Nat} : aLen false false (.msl i v s o n) K = (n ≤ maxLen → K (.p (.int .i64 n))) := rfl
@[simp ↓] theorem aLenD_m {i v s o n : Nat} : aLen true false (.msl i v s o n) K = (n ≤ maxLen ∧ K (.p (.int .i64 n))) := rfl
@[simp ↓] theorem aLenD_str {x : List UInt8} : aLen true true (.p (.str x)) K = (x.length ≤ maxLen ∧ K (.p (.int .i64 x.length))) := rfl
@[simp ↓] theorem aLenD_p {es : List T} : aLen true false (.p (.slice es)) K = (es.length ≤ maxLen ∧ K (.p (.int .i64 es.length))) := rfl
@[simp ↓] theorem aLenD_full {es : List T} : aLen true false (.full es) K = (es.length ≤ maxLen ∧ K (.p (.int .i64 es.length))) := rfl
@[simp ↓] theorem aLenD_own {i : Nat} {es : List T} : aLen true false (.own i es) K = (es.length ≤ maxLen ∧ K (.p (.int .i64 es.length))) := rfl
@[simp ↓] theorem aBuild_eq {z : List AV} {ps : List (Nat × Nat × AV)} : aBuild z ps K = aFill z ps fun cs => K (.agg cs) := rfl
@[simp ↓] theorem aFill_nil {cs : List AV} {Q : List AV → Prop} : aFill cs [] Q = Q cs := rfl
@[simp ↓] theorem aFill_cons {cs : List AV} {off s : Nat} {v : AV} {r : List (Nat × Nat × AV)} {Q : List AV → Prop} :
    aFill cs ((off, s, v) :: r) Q = ((v.storable = true ∧ v.cells.length = s ∧ off + s ≤ cs.length) ∧ aFill (put cs off v.cells) r Q) := rfl
@[simp ↓] theorem aBuildSlice_eq {s : Nat} {vs : List AV} : aBuildSlice s vs K = aElems s vs fun es => K (.full es) := rfl
@[simp ↓] theorem aElems_nil {s : Nat} {Q : List T → Prop} : aElems s [] Q = Q [] := rfl
@[simp ↓] theorem aElems_p {s : Nat} {r : List AV} {t : T} {Q : List T → Prop} : aElems s (.p t :: r) Q = (t.cells.length = s ∧ aElems s r fun ts => Q (t :: ts)) := rfl
@[simp ↓] theorem aElems_full {s : Nat} {r : List AV} {es : List T} {Q : List T → Prop} : aElems s (.full es :: r) Q = (1 = s ∧ aElems s r fun ts => Q (.slice es :: ts)) := rfl
@[simp ↓] theorem aElems_own {s i : Nat} {r : List AV} {es : List T} {Q : List T → Prop} : aElems s (.own i es :: r) Q = (1 = s ∧ aElems s r fun ts => Q (.slice es :: ts)) := rfl
@[simp ↓] theorem aElems_agg {s : Nat} {r cs : List AV} {Q : List T → Prop} : aElems s (.agg cs :: r) Q = (match allT cs with
    | some ts => ts.length = s ∧ aElems s r fun us => Q (.agg ts :: us)
    | none => False) := by
  simp only [aElems, AV.toT]
  cases allT cs <;> rfl
@[simp ↓] theorem aLoad_i {agg : Bool} {s off : Nat} {cs : List T} : aLoad agg s (.p (.imm cs off)) H K = (off + s ≤ cs.length ∧ K (.p (if agg then .agg ((cs.drop off).take s) else cs.getD off default))) := rfl
@[simp ↓] theorem aLoad_b {agg : Bool} {s i off : Nat} : aLoad agg s (.bptr i off) H K = (match H[i]? with
    | some (.box cells) => off + s ≤ cells.length ∧ K (if agg then .agg ((cells.drop off).take s) else cells.getD off .top)
    | some (.fz cs) => off + s ≤ cs.length ∧ K (.p (if agg then .agg ((cs.drop off).take s) else cs.getD off default))
    | _ => False) := rfl
@[simp ↓] theorem aLoad_m {agg : Bool} {s i v s' j off : Nat} : aLoad agg s (.mptr i v s' j off) H K = (match H[i]? with
    | some (.mrow v2 s2 es) => (v2 = v ∧ s2 = s' ∧ j < es.length ∧ off + s ≤ s') ∧ K (.p (if agg then .agg (((es.getD j default).cells.drop off).take s) else (es.getD j default).cells.getD off default))
    | some (.frow v2 s2 es) => (v2 = v ∧ s2 = s' ∧ j < es.length ∧ off + s ≤ s') ∧ K (.p (if agg then .agg (((es.getD j default).cells.drop off).take s) else (es.getD j default).cells.getD off default))
    | _ => False) := rfl
@[simp ↓] theorem aStore_m {s i v s' j off : Nat} {u : AV} : aStore s (.mptr i v s' j off) u H K2 = (match H[i]? with
    | some (.mrow v2 s2 es) => match allT u.cells with
      | some ts => (u.storable = true ∧ ts.length = s ∧ 0 < s ∧ v2 = v ∧ s2 = s' ∧ j < es.length ∧ off + s ≤ s') ∧ K2 .top (H.set i (.mrow v s' (es.set j ((es.getD j default).putT off ts))))
      | none => aFreeze [u] H fun cs H1 => (u.storable = true ∧ s = 1 ∧ v2 = v ∧ s2 = s' ∧ j < es.length ∧ off + 1 ≤ s' ∧ H1.length = H.length ∧ H1[i]? = some (.mrow v2 s2 es) ∧ ∃ ts o, cs = [.imm ts o]) ∧ K2 .top (H1.set i (.mrow v s' (es.set j ((es.getD j default).putT off cs))))
    | _ => False) := rfl
@[simp] theorem putT_agg {cs ts : List T} {off : Nat} : (T.agg cs).putT off ts = .agg (put cs off ts) := rfl
@[simp] theorem putT_int {k k' : IntKind} {m n : Int} {off : Nat} : (T.int k m).putT off [.int k' n] = .int k' n := rfl
@[simp] theorem putT_bool {x y : Bool} {off : Nat} : (T.bool x).putT off [.bool y] = .bool y := rfl
@[simp] theorem putT_slice {x y : List T} {off : Nat} : (T.slice x).putT off [.slice y] = .slice y := rfl
@[simp] theorem putT_raw_imm {x : Value} {y : List T} {o off : Nat} : (T.raw x).putT off [.imm y o] = .imm y o := rfl
@[simp] theorem storable_msl {i v s o n : Nat} : (AV.msl i v s o n).storable = true := rfl
@[simp] theorem storable_mclo {f : Nat} {cs : List (Nat × Nat)} : (AV.mclo f cs).storable = true := rfl
@[simp] theorem cells_msl {i v s o n : Nat} : (AV.msl i v s o n).cells = [.msl i v s o n] := rfl
@[simp] theorem cells_bptr {i o : Nat} : (AV.bptr i o).cells = [.bptr i o] := rfl
@[simp] theorem cells_mclo {f : Nat} {cs : List (Nat × Nat)} : (AV.mclo f cs).cells = [.mclo f cs] := rfl
@[simp ↓] theorem aStore_b {s i off : Nat} {v : AV} : aStore s (.bptr i off) v H K2 = (match H[i]? with
    | some (.box cells) => (v.storable = true ∧ v.cells.length = s ∧ off + s ≤ cells.length) ∧ K2 .top (H.set i (.box (put cells off v.cells)))
    | _ => False) := rfl
@[simp ↓] theorem aAlloc_eq {z : List AV} : aAlloc z H K2 = K2 (.bptr H.length 0) (H ++ [.box z]) := rfl
@[simp ↓] theorem aBox_eq {v : AV} : aBox v H K2 = (v.storable = true ∧ K2 (.bptr H.length 0) (H ++ [.box v.cells])) := rfl
@[simp ↓] theorem aMake_eq {s : Nat} {z : List AV} {ts : List T} {k' : IntKind} (h : allT z = some ts) : aMake s z (.p (.int k a)) (.p (.int k' b)) H K2 = ((a = b ∧ 0 ≤ a ∧ a ≤ 2 ^ 20 ∧ ts.length = s) ∧ K2 (.msl H.length 0 s 0 a.toNat) (H ++ [.mrow 0 s (List.replicate a.toNat (elemZ ts))])) := by simp only [aMake, h]
@[simp] theorem storable_p {t : T} : (AV.p t).storable = true := rfl
@[simp] theorem storable_full {es : List T} : (AV.full es).storable = true := rfl
@[simp] theorem storable_own {i : Nat} {es : List T} : (AV.own i es).storable = true := rfl
@[simp] theorem storable_agg {cs : List AV} : (AV.agg cs).storable = true := rfl
@[simp] theorem storable_bptr {i o : Nat} : (AV.bptr i o).storable = true := rfl
@[simp] theorem cells_full {es : List T} : (AV.full es).cells = [.full es] := rfl
@[simp] theorem cells_own {i : Nat} {es : List T} : (AV.own i es).cells = [.own i es] := rfl
@[simp] theorem cells_agg {cs : List AV} : (AV.agg cs).cells = cs := rfl
@[simp] theorem cells_p {t : T} : (AV.p t).cells = t.cells.map .p := rfl
@[simp] theorem tcells_agg {cs : List T} : (T.agg cs).cells = cs := rfl
@[simp] theorem tcells_int {n : Int} : (T.int k n).cells = [.int k n] := rfl
@[simp] theorem tcells_bool {x : Bool} : (T.bool x).cells = [.bool x] := rfl
@[simp] theorem tcells_str {x : List UInt8} : (T.str x).cells = [.str x] := rfl
@[simp] theorem tcells_slice {x : List T} : (T.slice x).cells = [.slice x] := rfl
@[simp] theorem tcells_imm {x : List T} {o : Nat} : (T.imm x o).cells = [.imm x o] := rfl
@[simp] theorem tcells_func {f : Nat} {x : List T} : (T.func f x).cells = [.func f x] := rfl
@[simp ↓] theorem aAppend_p {s eb : Nat} {x : AV} {ms : List T} : aAppend false s eb x (.p (.slice ms)) H K2 = aAppendTo s eb x ms H K2 := rfl
@[simp ↓] theorem aAppend_full {s eb : Nat} {x : AV} {ms : List T} : aAppend false s eb x (.full ms) H K2 = aAppendTo s eb x ms H K2 := rfl
@[simp ↓] theorem aAppend_own {s eb i : Nat} {x : AV} {ms : List T} : aAppend false s eb x (.own i ms) H K2 = aAppendTo s eb x ms H K2 := rfl
@[simp ↓] theorem aAppend_nns {s eb : Nat} {x : AV} {ms : List T} : aAppend false s eb x (.nns ms) H K2 = aAppendTo s eb x ms H K2 := rfl
@[simp ↓] theorem aAppend_str {s eb : Nat} {x : AV} {l : List UInt8} : aAppend true s eb x (.p (.str l)) H K2 = aAppendTo s eb x (l.map byteT) H K2 := rfl
@[simp] theorem moded_nil : moded [] = false := id rfl
@[simp] theorem moded_mode {l : List Ob} : moded (.mode :: l) = true := id rfl
@[simp] theorem moded_box {l : List Ob} {cs : List AV} : moded (.box cs :: l) = false := id rfl
@[simp] theorem moded_fz {l : List Ob} {cs : List T} : moded (.fz cs :: l) = false := id rfl
@[simp] theorem moded_row {l : List Ob} {n s : Nat} : moded (.row n s :: l) = false := id rfl
@[simp] theorem moded_mrow {l : List Ob} {v s : Nat} {es : List T} : moded (.mrow v s es :: l) = false := id rfl
@[simp] theorem moded_frow {l : List Ob} {v s : Nat} {es : List T} : moded (.frow v s es :: l) = false := id rfl
@[simp ↓] theorem aAppendTo_full {s eb : Nat} {es ms : List T} (h : moded H = false) : aAppendTo s eb (.full es) ms H K2 = (appendable s eb es ms ∧ K2 (.own H.length (es ++ ms)) (H ++ [.row (es.length + ms.length) s])) := by simp only [aAppendTo, h]
@[simp ↓] theorem aAppendTo_fullM {s eb : Nat} {es ms : List T} (h : moded H = true) : aAppendTo s eb (.full es) ms H K2 = ((es = [] ∧ appendable s eb [] ms) ∧ K2 (.msl H.length 0 s 0 ms.length) (H ++ [.mrow 0 s ms])) := by simp only [aAppendTo, h]
@[simp ↓] theorem aAppendTo_m {s eb i v s' n : Nat} {ms : List T} : aAppendTo s eb (.msl i v s' 0 n) ms H K2 = (match H[i]? with
    | some (.mrow v2 s2 es) => (v2 = v ∧ s' = s ∧ s2 = s ∧ n ≤ es.length) ∧ appendable s eb (es.take n) ms ∧ K2 (.msl i (v + 1) s 0 (n + ms.length)) (H.set i (.mrow (v + 1) s (es.take n ++ ms)))
    | _ => False) := rfl
@[simp ↓] theorem aAppend_m {s eb i v s' o n : Nat} {x : AV} : aAppend false s eb x (.msl i v s' o n) H K2 = (match H[i]? with
    | some (.mrow v2 s2 es) => (v2 = v ∧ s2 = s' ∧ o + n ≤ es.length) ∧ aAppendTo s eb x ((es.drop o).take n) H K2
    | some (.frow v2 s2 es) => (v2 = v ∧ s2 = s' ∧ o + n ≤ es.length) ∧ aAppendTo s eb x ((es.drop o).take n) H K2
    | _ => False) := rfl
@[simp ↓] theorem aCalm_nil {p : Prop} : aCalm [] p = p := rfl
@[simp ↓] theorem aCalm_p {p : Prop} {l : List AV} {t : T} : aCalm ((.p t) :: l) p = aCalm l p := rfl
@[simp ↓] theorem aCalm_full {p : Prop} {l : List AV} {es : List T} : aCalm ((.full es) :: l) p = aCalm l p := rfl
@[simp ↓] theorem aCalm_own {p : Prop} {l : List AV} {i : Nat} {es : List T} : aCalm ((.own i es) :: l) p = aCalm l p := rfl
@[simp ↓] theorem aCalm_bptr {p : Prop} {l : List AV} {i o : Nat} : aCalm ((.bptr i o) :: l) p = aCalm l p := rfl
@[simp ↓] theorem aCalm_nils {p : Prop} {l : List AV} : aCalm (.nils :: l) p = aCalm l p := rfl
@[simp ↓] theorem aCalm_nns {p : Prop} {l : List AV} {es : List T} : aCalm ((.nns es) :: l) p = aCalm l p := rfl
@[simp ↓] theorem aCalm_agg {p : Prop} {l : List AV} {vs : List AV} : aCalm ((.agg vs) :: l) p = aCalm l p := rfl
@[simp ↓] theorem aCalm_top {p : Prop} {l : List AV} : aCalm (.top :: l) p = aCalm l p := rfl
@[simp ↓] theorem aCalm_mclo {p : Prop} {l : List AV} {i : Nat} {cs : List (Nat × Nat)} : aCalm ((.mclo i cs) :: l) p = aCalm l p := rfl
@[simp ↓] theorem aCalm_mptr {p : Prop} {l : List AV} {i v s j o : Nat} : aCalm ((.mptr i v s j o) :: l) p = aCalm l p := rfl
@[simp ↓] theorem aAppendTo_own {s eb i : Nat} {es ms : List T} : aAppendTo s eb (.own i es) ms H K2 = (match H[i]? with
    | some (.row n s') => (s' = s ∧ n = es.length) ∧ appendable s eb es ms ∧ K2 (.own i (es ++ ms)) (H.set i (.row (n + ms.length) s))
    | _ => False) := rfl
@[simp] theorem stuckC_nil : stuckC [] H = false := id rfl
@[simp] theorem stuckC_b {i o : Nat} {r : List AV} : stuckC (.bptr i o :: r) H = ((match H[i]? with
    | some (.box cells) => (allT cells).isNone
    | _ => false) || stuckC r H) := id rfl
@[simp ↓] theorem aMakeFunc_eq {f : Nat} {caps : List AV} (h : moded H = false) (h2 : stuckC caps H = false) : aMakeFunc f caps H K2 = aFreeze caps H fun cs H' => K2 (.p (.func f cs)) H' := by simp only [aMakeFunc, h, h2, Bool.or_false]
@[simp ↓] theorem aMakeFunc_S {f i o : Nat} {caps : List AV} {cs : List (Nat × Nat)} (h : stuckC (.bptr i o :: caps) H = true) (hb : boxes caps = some cs) : aMakeFunc f (.bptr i o :: caps) H K2 = K2 (.mclo f ((i, o) :: cs)) H := by simp only [aMakeFunc, h, Bool.or_true, boxes, hb]
@[simp ↓] theorem aMakeFunc_nil {f : Nat} : aMakeFunc f [] H K2 = K2 (.p (.func f [])) H := by
  simp only [aMakeFunc, boxes, stuckC, Bool.or_false]
  cases moded H <;> rfl
@[simp ↓] theorem aMakeFunc_M {f i o : Nat} {caps : List AV} {cs : List (Nat × Nat)} (h : moded H = true) (hb : boxes caps = some cs) : aMakeFunc f (.bptr i o :: caps) H K2 = K2 (.mclo f ((i, o) :: cs)) H := by simp only [aMakeFunc, h, boxes, hb, Bool.true_or]
attribute [simp] boxes
@[simp ↓] theorem aFreeze_nil {Q : List T → List Ob → Prop} : aFreeze [] H Q = Q [] H := rfl
@[simp ↓] theorem aFreeze_b {i o : Nat} {r : List AV} {Q : List T → List Ob → Prop} : aFreeze (.bptr i o :: r) H Q = (match H[i]? with
    | some (.box cells) => match allT cells with
      | some ts => aFreeze r (H.set i (.fz ts)) fun cs H' => Q (.imm ts o :: cs) H'
      | none => False
    | some (.fz ts) => aFreeze r H fun cs H' => Q (.imm ts o :: cs) H'
    | _ => False) := rfl
@[simp ↓] theorem aFreeze_i {ts : List T} {o : Nat} {r : List AV} {Q : List T → List Ob → Prop} : aFreeze (.p (.imm ts o) :: r) H Q = aFreeze r H fun cs H' => Q (.imm ts o :: cs) H' := rfl
@[simp ↓] theorem aGuard_eq {x : Bool} {A B : Prop} : aGuard (.p (.bool x)) A B = ((x = true → A) ∧ (x = false → B)) := by cases x <;> simp [aGuard]

@[simp ↓] theorem aLenS_str {x : List UInt8} : aLenS true (.p (.str x)) K = K (.p (.int .i64 x.length)) := rfl
@[simp ↓] theorem aLenS_p {es : List T} : aLenS false (.p (.slice es)) K = K (.p (.int .i64 es.length)) := rfl
@[simp ↓] theorem aLenS_full {es : List T} : aLenS false (.full es) K = K (.p (.int .i64 es.length)) := rfl
@[simp ↓] theorem aLenS_m {i v s o n : Nat} : aLenS false (.msl i v s o n) K = K (.p (.int .i64 n)) := rfl
@[simp ↓] theorem aLenS_own {i : Nat} {es : List T} : aLenS false (.own i es) K = K (.p (.int .i64 es.length)) := rfl

@[simp] theorem aMerge_and {w x : Bool} {p : Prop} {E : (AV → Prop) → Prop} : aMerge w (.p (.bool x)) (fun Q => p ∧ E Q) K = ((x = w → p) ∧ aMerge w (.p (.bool x)) E K) := by
  apply propext
  simp only [aMerge]
  constructor
  · rintro ⟨c, h1, h2⟩
    exact ⟨fun h => (h1 h).1, c, fun h => (h1 h).2, h2⟩
  · rintro ⟨h0, c, h1, h2⟩
    exact ⟨c, fun h => ⟨h0 h, h1 h⟩, h2⟩

@[simp] theorem aMerge_and_r {w x : Bool} {p : Prop} {E : (AV → Prop) → Prop} : aMerge w (.p (.bool x)) (fun Q => E Q ∧ p) K = ((x = w → p) ∧ aMerge w (.p (.bool x)) E K) := by
  rw [← aMerge_and]
  congr 1
  funext Q
  exact propext And.comm

@[simp] theorem aMerge_end {w x e : Bool} : aMerge w (.p (.bool x)) (fun Q => Q (.p (.bool e))) K = K (.p (.bool (cond w (x && e) (x || e)))) := by
  apply propext
  simp only [aMerge]
  constructor
  · rintro ⟨c, h1, h2⟩
    by_cases h : x = w
    · have := h1 h
      simp at this
      subst this
      exact h2
    · cases w <;> cases x <;> simp_all
  · intro h
    exact ⟨e, fun _ => rfl, h⟩

theorem aMerge_intro {w x : Bool} {E : (AV → Prop) → Prop} (c : Bool) (hE : x = w → E fun v => v = .p (.bool c)) (hK : K (.p (.bool (cond w (x && c) (x || c))))) : aMerge w (.p (.bool x)) E K := ⟨c, hE, hK⟩

attribute [simp] elemZ allT AV.cellT toTs AV.toT AV.ren AV.ren1 Ob.ren put

/- What comes behind a call is left as it is: 'simp' does not look into an instance. -/
class Cont where
  k : AV → List Ob → Prop
class ContT where
  k : AV → Prop
def aCallW (P : Program) (fv : AV) (args : List AV) (H : List Ob) [c : Cont] : Prop := aCall P fv args H c.k
def aCallTW (P : Program) (fv : AV) (args : List AV) [c : ContT] : Prop := aCallT P fv args c.k
@[simp ↓] theorem aCall_W {fv : AV} {args : List AV} : aCall P fv args H K2 = @aCallW P fv args H ⟨K2⟩ := rfl
@[simp ↓] theorem aCallT_W {fv : AV} {args : List AV} : aCallT P fv args K = @aCallTW P fv args ⟨K⟩ := rfl

theorem gives_p {t t' : T} (h : t = t') : Gives 0 (.p t) H (.p t') [] := by subst h; exact gives_pure rfl

theorem aCall_of {fv : AV} {args : List AV} {f : Nat} {caps ts : List T} {r : AV} {Hn : List Ob} (hf : fv = .p (.func f caps)) (ha : toTs args = some ts) (h : Fn P f [] ((ts ++ caps).map .p) r Hn)
    (hk : K2 (r.shift H.length) (H ++ Hn.map (Ob.shift H.length))) : aCall P fv args H K2 := ⟨_, _, callDoes_tree hf ha h, hk⟩

theorem aCallW_of {c : Cont} {fv : AV} {args : List AV} {f : Nat} {caps ts : List T} {r : AV} {Hn : List Ob} (hf : fv = .p (.func f caps)) (ha : toTs args = some ts) (h : Fn P f [] ((ts ++ caps).map .p) r Hn)
    (hk : c.k (r.shift H.length) (H ++ Hn.map (Ob.shift H.length))) : aCallW P fv args H := aCall_of hf ha h hk

@[simp] theorem firstsOf_p {t : T} : firstsOf (.p t) = [] := rfl
@[simp] theorem firstsOf_mclo {f : Nat} {cs : List (Nat × Nat)} : firstsOf (.mclo f cs) = [] := rfl
@[simp] theorem firstsOf_bnd {f i o : Nat} : firstsOf (.bnd f i o) = [.bptr i o] := rfl

/-- A row that the call gets as a tree. -/
theorem aCallZ_of {c : Cont} {fv : AV} {args : List AV} {id ver s : Nat} {es : List T} (ho : H[id]? = some (.mrow ver s es)) (h : @aCallW P (fv.unm id ver es) (args.map (AV.unm id ver es)) (H.set id (.frow ver s es)) c) : aCallW P fv args H := by
  obtain ⟨r, H', h1, h2⟩ := h
  exact ⟨r, H', callDoes_freeze ho h1, h2⟩

/-- A call of a function that answers with a tree. -/
theorem aCall_p {c : Cont} {args : List AV} {f : Nat} {caps ts : List T} {t : T} (ha : toTs args = some ts) (h : Fn P f [] ((ts ++ caps).map .p) (.p t) [])
    (hk : c.k (.p t) H) : aCallW P (.p (.func f caps)) args H := aCall_of rfl ha h (by simpa using hk)

theorem aCallT_of {c : ContT} {args : List AV} {f : Nat} {caps ts : List T} {r r' : AV} {Hn : List Ob} (ha : toTs args = some ts) (h : Fn P f [] ((ts ++ caps).map .p) r Hn) (hr : r.pur = some r') (hk : c.k r') :
    aCallTW P (.p (.func f caps)) args := by
  simp only [aCallTW, aCallT, ha]
  exact ⟨r, Hn, r', h, hr, hk⟩

theorem allN_intro {n : Nat} {p : List AV → Prop} (h : ∀ xs : List AV, xs.length = n → p xs) : allN n p := by
  induction n generalizing p with
  | zero => exact h [] rfl
  | succ n ih => exact fun x => ih fun xs hx => h (x :: xs) (by simp [hx])

theorem exists_least (p : Nat → Prop) : ∀ n, p n → ∃ n, p n ∧ ∀ m, p m → n ≤ m := by
  intro n
  induction n using Nat.strongRecOn with
  | ind n ih =>
    intro h
    by_cases hx : ∃ m, m < n ∧ p m
    · obtain ⟨m, hm, hp⟩ := hx
      exact ih m hm hp
    · exact ⟨n, h, fun m hm => Nat.le_of_not_lt fun hl => hx ⟨m, hl, hm⟩⟩

open Classical in
noncomputable def least (p : Nat → Prop) : Nat := if h : ∃ n, p n ∧ ∀ m, p m → n ≤ m then h.choose else 0

theorem least_spec {p : Nat → Prop} {n : Nat} (h : p n) : p (least p) ∧ ∀ m, p m → least p ≤ m := by
  have hx := exists_least p n h
  simp only [least, hx, dif_pos]
  exact hx.choose_spec

theorem le1_refl (x : AV) : x.le1 x := by
  cases x with
  | p t => exact rfl
  | top => exact trivial
  | _ => exact rfl

theorem all2_refl {α : Type} {R : α → α → Prop} (h : ∀ x, R x x) : ∀ xs : List α, all2 R xs xs
  | [] => trivial
  | x :: xs => ⟨h x, all2_refl h xs⟩

theorem le_refl (x : AV) : x.le x := by
  cases x with
  | agg cs => exact all2_refl le1_refl cs
  | _ => unfold AV.le; exact le1_refl _

theorem leO_refl (x : Ob) : x.le x := by
  cases x with
  | box cs => exact all2_refl le1_refl cs
  | mrow v s es => exact ⟨rfl, rfl, List.prefix_rfl⟩
  | _ => exact rfl

theorem ghosts_mono : ∀ (gs : List Gc) (t : List AV) (H : List Ob) (A B : List AV → List Ob → Prop), (∀ t H, A t H → B t H) → ghosts gs t H A → ghosts gs t H B := by
  intro gs
  induction gs with
  | nil => exact fun t H A B h => h t H
  | cons g gs ih =>
    intro t H A B h hx
    simp only [ghosts] at hx ⊢
    cases g with
    | slot i s =>
      simp only [ghost] at hx ⊢
      split at hx
      · exact ih _ _ _ _ h hx
      · exact ⟨hx.1, ih _ _ _ _ h hx.2⟩
      · exact hx.elim
    | cell id off s =>
      simp only [ghost] at hx ⊢
      split at hx
      · split at hx
        · exact ih _ _ _ _ h hx
        · exact hx.elim
      · exact hx.elim
    | mslot i s =>
      simp only [ghost] at hx ⊢
      split at hx
      · exact ih _ _ _ _ h hx
      · exact hx.elim
    | mcell id off s =>
      simp only [ghost] at hx ⊢
      split at hx
      · split at hx
        · exact ih _ _ _ _ h hx
        · exact hx.elim
      · exact hx.elim
    | fslot i =>
      simp only [ghost] at hx ⊢
      split at hx
      · split at hx
        · exact ⟨hx.1, ih _ _ _ _ h hx.2⟩
        · exact hx.elim
      · exact hx.elim

/-- A loop by its states: what the slots and the objects are in each, or less. -/
theorem loop_le {σ : Type} {k n : Nat} {xs0 : List AV} {body : List AV → List Ob → (List AV → List Ob → Prop) → Prop} (St : σ → List AV) (Hs : σ → List Ob) (I : σ → Prop) (m : σ → Nat) (gs : List Gc) (s0 : σ)
    (hn : ∀ s, (Hs s).length = n) (h0 : ghosts gs xs0 H fun xs H' => all2 AV.le xs (St s0) ∧ all2 Ob.le H' (Hs s0)) (i0 : I s0)
    (hb : ∀ s (B : List AV → List Ob → Prop), I s → (∀ s' xs H2, I s' → m s' < m s → all2 AV.le xs (St s') → all2 Ob.le (H2.take n) (Hs s') → n ≤ H2.length → (St s').all (AV.under n) = true → (Hs s').all (Ob.below n) = true → B xs H2) → body (St s) (Hs s) B) :
    aLoopN k xs0 H body := by
  refine ⟨n, fun xs H' => ∃ s, I s ∧ xs = St s ∧ H' = Hs s, fun xs H' => least fun v => ∃ s, I s ∧ xs = St s ∧ H' = Hs s ∧ m s = v, ⟨gs, ghosts_mono _ _ _ _ _ (fun t H' ⟨h1, h2⟩ => ⟨_, _, h1, h2, hn s0, s0, i0, rfl, rfl⟩) h0⟩, allN_intro fun xs hx H1 hl hI => ?_⟩
  obtain ⟨s1, hs1, rfl, rfl⟩ := hI
  obtain ⟨⟨s, hs, e1, e2, e3⟩, _⟩ := least_spec (p := fun v => ∃ s, I s ∧ St s1 = St s ∧ Hs s1 = Hs s ∧ m s = v) ⟨s1, hs1, rfl, rfl, rfl⟩
  rw [e1, e2]
  rw [e1, e2] at e3
  refine hb s _ hs (fun s' xs' H2 h1 h2 h3 h4 h5 h6 h7 => ⟨_, _, ⟨h3, h4, h5⟩, ⟨h6, h7⟩, ⟨s', h1, rfl, rfl⟩, ?_⟩)
  have := (least_spec (p := fun v => ∃ t, I t ∧ St s' = St t ∧ Hs s' = Hs t ∧ m t = v) ⟨s', h1, rfl, rfl, rfl⟩).2 (m s') ⟨s', h1, rfl, rfl, rfl⟩
  exact Nat.lt_of_le_of_lt this (Nat.lt_of_lt_of_eq h2 e3)

attribute [simp] all2 AV.le AV.le1
@[simp] theorem leO_self {x : Ob} : x.le x ↔ True := ⟨fun _ => trivial, fun _ => leO_refl x⟩
@[simp] theorem leO_box {cs ds : List AV} : (Ob.box cs).le (.box ds) = all2 AV.le1 cs ds := rfl
@[simp] theorem leO_mrow {v v' s s' : Nat} {es es' : List T} : (Ob.mrow v s es).le (.mrow v' s' es') = (v = v' ∧ s = s' ∧ es' <+: es) := rfl
@[simp] theorem leO_row {n n' s s' : Nat} : (Ob.row n s).le (.row n' s') = (n = n' ∧ s = s') := by simp [Ob.le]
@[simp] theorem leO_fz {cs ds : List T} : (Ob.fz cs).le (.fz ds) = (cs = ds) := by simp [Ob.le]

/-- A loop by its states: what the slots and the objects are in each. -/
theorem loop_by {σ : Type} {k n : Nat} {xs0 : List AV} {body : List AV → List Ob → (List AV → List Ob → Prop) → Prop} (St : σ → List AV) (Hs : σ → List Ob) (I : σ → Prop) (m : σ → Nat) (gs : List Gc) (s0 : σ)
    (hn : ∀ s, (Hs s).length = n) (h0 : ghosts gs xs0 H fun xs H' => xs = St s0 ∧ H' = Hs s0) (i0 : I s0)
    (hb : ∀ s (B : List AV → List Ob → Prop), I s → (∀ s' H2, I s' → m s' < m s → H2.take n = Hs s' → (H2.take n).all (Ob.below n) = true → n ≤ H2.length → (St s').all (AV.under n) = true → B (St s') H2) → body (St s) (Hs s) B) :
    aLoopN k xs0 H body := by
  refine loop_le St Hs I m gs s0 hn (ghosts_mono _ _ _ _ _ (fun t H' h => by rw [h.1, h.2]; exact ⟨all2_refl le_refl _, all2_refl leO_refl _⟩) h0) i0 (fun s B hs hB => hb s B hs (fun s' H2 h1 h2 h3 h4 h5 h6 => ?_))
  refine hB s' _ H2 h1 h2 (all2_refl le_refl _) (by rw [h3]; exact all2_refl leO_refl _) h5 h6 (by rw [← h3]; exact h4)

end Go.Abs
end

section
/- Code in pieces: the walk over trees stops where the rest is to be taken by itself. -/
namespace Go.Abs

abbrev Ko := AExit → List AV → List Ob → Prop

variable (P : Program) (ann : Nat → List Nat)

/-- As awp, but the second part of a 'seq' is left to 'self' where cut says so (by its first region). -/
def awpX (self : Code → List AV → List Ob → Ko → Prop) (cut : Nat → Bool) : Code → List AV → List Ob → Ko → Prop
  | .skip, t, H, K => K .normal t H
  | .region id ops draw, t, H, K => aRegionX P (ann (id + 3000000)) ops draw t H fun t' H' => K .normal t' H'
  | .seq a b, t, H, K => awpX self cut a t H fun e t' H' => match e with
    | .normal => match cut ((key b).getD 0) with
      | true => self b (trimS ann b t') H' K
      | false => strict (trimS ann b t') fun t' => awpX self cut b t' H' K
    | e => K e t' H'
  | .cond c a b, t, H, K => match mrgT ann c a b with
    | .no => aGuard (rho t c) (strict (lit t c true) fun t => awpX self cut a t H K) (strict (lit t c false) fun t => awpX self cut b t H K)
    | .orr u => aMerge false (t.getD u .top) (fun Q => strict (t.set u (.p (.bool false))) fun t => awpX self cut b t H (kMrg u H Q)) (fun v => strict ((forget t (writes b)).set u v) fun t => K .normal t H)
    | .andd u => aMerge true (t.getD u .top) (fun Q => strict (t.set u (.p (.bool true))) fun t => awpX self cut a t H (kMrg u H Q)) (fun v => strict ((forget t (writes a)).set u v) fun t => K .normal t H)
  | .block id a, t, H, K => awpX self cut a t H fun e t' H' => match e with
    | .exit j => match j == id with
      | true => K .normal t' H'
      | false => K (.exit j) t' H'
    | e => K e t' H'
  | .loop a, t, H, K => aLoop (ann ((key a).getD 0)) (writes a) (awpX self cut a) t H K
  | .exit id, t, H, K => K (.exit id) t H
  | .ret, t, H, K => K .ret t H
  | _, _, _, _ => False

theorem awpX_eq (cut : Nat → Bool) : ∀ (c : Code) (t : List AV) (H : List Ob) (K : Ko), awpX P ann (awp P ann) cut c t H K = awp P ann c t H K := by
  intro c
  induction c with
  | seq a b iha ihb =>
    intro t H K
    simp only [awpX, awp, iha, strict_eq]
    congr 1
    funext e t' H'
    cases e with
    | normal => simp only [ihb]; cases cut ((key b).getD 0) <;> rfl
    | _ => rfl
  | cond c a b iha ihb =>
    intro t H K
    simp only [awpX, awp, iha, ihb, strict_eq]
    try (cases mrgT ann c a b <;> rfl)
  | block id a iha =>
    intro t H K
    simp only [awpX, awp, iha]
    try congr 1
  | loop a iha =>
    intro t H K
    simp only [awpX, awp]
    congr 1
    funext t' H' K'
    exact iha t' H' K'
  | _ => intro t H K; first | rfl | simp [awpX, awp]

variable {P ann}

/- What comes behind, by its parts. -/
def kSeq (self : Code → List AV → List Ob → Ko → Prop) (b : Code) (ks : List Nat) (K : Ko) : Ko := fun e t' H' => match e with
  | .normal => self b (keepS ks 0 t') H' K
  | e => K e t' H'
def kThen (x : AExit) (K : Ko) : Ko := fun e t' H' => match e with
  | .normal => K x t' H'
  | e => K e t' H'
def kBlock (id : Nat) (K : Ko) : Ko := fun e t' H' => match e with
  | .exit j => match j == id with
    | true => K .normal t' H'
    | false => K (.exit j) t' H'
  | e => K e t' H'
def kLoop (keep : List Nat) (B : List AV → List Ob → Prop) (K : Ko) : Ko := fun e t2 H2 => match e with
  | .normal => B (keep.map fun k => t2.getD k .top) H2
  | e => K e t2 H2
def kEnd (P : Program) (rs : List ResultVar) (K : AV → List Ob → Prop) : Ko := fun e t H => match e with
  | .exit _ => False
  | _ => aRes P rs t H fun vs => K (tupOf vs) H

variable {self : Code → List AV → List Ob → Ko → Prop} {b : Code} {K : Ko} {t : List AV} {H : List Ob}

@[simp ↓] theorem kSeq_normal {ks : List Nat} : kSeq self b ks K .normal t H = self b (keepS ks 0 t) H K := rfl
@[simp ↓] theorem kSeq_ret {ks : List Nat} : kSeq self b ks K .ret t H = K .ret t H := rfl
@[simp ↓] theorem kSeq_exit {ks : List Nat} {j : Nat} : kSeq self b ks K (.exit j) t H = K (.exit j) t H := rfl
@[simp ↓] theorem kThen_normal {x : AExit} : kThen x K .normal t H = K x t H := rfl
@[simp ↓] theorem kThen_ret {x : AExit} : kThen x K .ret t H = K .ret t H := rfl
@[simp ↓] theorem kThen_exit {x : AExit} {j : Nat} : kThen x K (.exit j) t H = K (.exit j) t H := rfl
@[simp ↓] theorem kBlock_normal {id : Nat} : kBlock id K .normal t H = K .normal t H := rfl
@[simp ↓] theorem kBlock_ret {id : Nat} : kBlock id K .ret t H = K .ret t H := rfl
@[simp ↓] theorem kBlock_exit {id j : Nat} : kBlock id K (.exit j) t H = if j = id then K .normal t H else K (.exit j) t H := by
  unfold kBlock
  by_cases h : j = id
  · simp [h]
  · simp only [h, if_false, beq_eq_false_iff_ne.2 h]
@[simp ↓] theorem kLoop_normal {keep : List Nat} {B : List AV → List Ob → Prop} : kLoop keep B K .normal t H = B (keep.map fun k => t.getD k .top) H := rfl
@[simp ↓] theorem kLoop_ret {keep : List Nat} {B : List AV → List Ob → Prop} : kLoop keep B K .ret t H = K .ret t H := rfl
@[simp ↓] theorem kLoop_exit {keep : List Nat} {B : List AV → List Ob → Prop} {j : Nat} : kLoop keep B K (.exit j) t H = K (.exit j) t H := rfl
@[simp ↓] theorem kEnd_ret {rs : List ResultVar} {Q : AV → List Ob → Prop} : kEnd P rs Q .ret t H = aRes P rs t H fun vs => Q (tupOf vs) H := rfl
@[simp ↓] theorem kEnd_normal {rs : List ResultVar} {Q : AV → List Ob → Prop} : kEnd P rs Q .normal t H = aRes P rs t H fun vs => Q (tupOf vs) H := rfl

def cl : Code → Code
  | .seq a _ => a
  | .cond _ a _ => a
  | .block _ a => a
  | .loop a => a
  | c => c
def cr : Code → Code
  | .seq _ b => b
  | .cond _ _ b => b
  | c => c

end Go.Abs
end

section
/- A function without branches, of whose slices those of elements of so many cells are rows that may be written. -/
set_option linter.unusedSimpArgs false
set_option linter.unusedVariables false
namespace Go.Abs

variable {P : Program}

/-- A slice's row, which may be written. -/
def aBuildRow (s : Nat) (parts : List AV) (H : List Ob) (K : AV → List Ob → Prop) : Prop := aElems s parts fun es => K (.msl H.length 0 s 0 es.length) (H ++ [.mrow 0 s es])

theorem buildRow_sound {o : Oper} {t e : TypeId} {n : Nat} {parts : Array (Nat × Operand)} {i : TypeInfo} (ho : o.op = .buildSlice t n parts) (ht : P.underlying t = some (.slice e)) (hi : P.info? e = some i)
    (hord : inOrder 0 parts.toList = true) (hn : parts.toList.length = n) (hsz : n * i.size ≤ 2 ^ 24) (hn2 : n ≤ 2 ^ 24) (hz : i.zero.isSome = true) {ρ : Operand → AV} {H : List Ob} {K : AV → List Ob → Prop} (h : aBuildRow i.size (parts.toList.map fun x => ρ x.2) H K) :
    ∃ r H', K r H' ∧ Does P o ρ r H H' := by
  obtain ⟨es, hk, hlen, hes⟩ := aElems_get _ _ _ h
  refine ⟨_, _, hk, does_run fun a w G hi' hx => ?_⟩
  have hlen' : es.length = n := by simpa [hn] using hlen
  obtain ⟨z, hz⟩ := Option.isSome_iff_exists.1 hz
  have hx' : ∀ (k : Nat) (y : Nat × Operand), parts.toList[k]? = some y → RepA G (ρ y.2) (a.eval y.2) := by
    intro k y hy
    refine hx _ ?_
    rw [ho]
    simp only [Op.operands, List.mem_toArray, List.mem_map]
    exact ⟨y, List.mem_of_getElem? hy, rfl⟩
  let vs : List Value := parts.toList.map fun x => a.eval x.2
  have hvs : ∀ (k : Nat) (v : Value), vs[k]? = some v → ∃ e, es[k]? = some e ∧ RepT G.rd e v := by
    intro k v hv
    simp only [vs, List.getElem?_map, Option.map_eq_some_iff] at hv
    obtain ⟨y, hy, rfl⟩ := hv
    have hlt : k < es.length := by
      have := (List.getElem?_eq_some_iff.1 hy).1
      omega
    obtain ⟨_, x, hx1, hx2⟩ := hes k es[k] (List.getElem?_eq_getElem hlt)
    simp only [List.getElem?_map, Option.map_eq_some_iff] at hx1
    obtain ⟨y', hy', rfl⟩ := hx1
    rw [hy] at hy'; simp at hy'; subst hy'
    exact ⟨es[k], List.getElem?_eq_getElem hlt, (hx' k y hy).toT hx2⟩
  have hcells : ∀ (k : Nat) (v : Value) (e : T), vs[k]? = some v → es[k]? = some e → v.cells.size = i.size ∧ ∀ j c, e.cells[j]? = some c → RepT G.rd c (v.cells.getD j undef) ∧ scalar (v.cells.getD j undef) = true := by
    intro k v e hv he
    obtain ⟨e', he', hr⟩ := hvs k v hv
    rw [he] at he'; simp at he'; subst he'
    have hc := (RepA.p e v hr).cells rfl
    have hsz := (hes k e he).1
    have el : (AV.p e).cells = e.cells.map .p := rfl
    rw [el] at hc
    refine ⟨by simpa [hsz] using hc.1, fun j c hj => ?_⟩
    have := hc.2 j (.p c) (by simp [hj])
    exact ⟨repA_p.1 this.1, this.2⟩
  have hall : ∀ v ∈ vs, v.cells.size = i.size := by
    intro v hv
    obtain ⟨k, hk⟩ := List.getElem?_of_mem hv
    obtain ⟨e, he, _⟩ := hvs k v hk
    exact (hcells k v e hk he).1
  have hvl : vs.length = n := by simpa [vs] using hn
  obtain ⟨zc, hzc⟩ : ∃ zc : Array Value, zc = if n * i.size = 0 then #[] else z.cells := ⟨_, rfl⟩
  obtain ⟨cs', f1, f2, _, f4⟩ := fillAll i.size vs (parts.map fun (i, x) => (i, a.eval x)).toList 0 ((Array.range (n * i.size)).map fun k => zc[k % zc.size]!)
    (by simp [vs]) (fun k hk => by
      simp only [vs, Array.toList_map, List.getElem?_map, Option.map_map]
      have hk' : k < parts.toList.length := by simpa [vs] using hk
      rw [List.getElem?_eq_getElem hk']
      have := inOrder_spec _ 0 hord k parts.toList[k] (List.getElem?_eq_getElem hk')
      simp only [Option.map_some, Function.comp]
      rw [← this]) hall (by simp [hvl])
  have hcsz : cs'.size = n * i.size := by rw [f2]; simp
  have hl2 : Holds { w with heap := w.heap.push (.cells cs' e) } ((G.withRd w.heap.size (fun _ => none)).withLoc H.length (.mrow (some ⟨w.heap.size, 0, none⟩) n 0 i.size)) (.mrow (some ⟨w.heap.size, 0, none⟩) n 0 i.size) (.mrow 0 i.size es) := by
    refine ⟨⟨rfl, rfl, by omega, fun e he => ?_⟩, fun _ => ⟨w.heap.size, 0, rfl, ⟨cs', e, by simp, by omega, fun k j e' c he hc => ?_⟩, fun o' => by simp [Gh.withLoc, Gh.withRd]⟩⟩
    · obtain ⟨k, hk⟩ := List.getElem?_of_mem he
      exact (hes k e hk).1
    · have hlt : k < vs.length := by have := (List.getElem?_eq_some_iff.1 he).1; omega
      have hv : vs[k]? = some vs[k] := List.getElem?_eq_getElem hlt
      have hj : j < i.size := by
        have := (List.getElem?_eq_some_iff.1 hc).1
        have := (hes k e' he).1
        omega
      have h4 := f4 k j vs[k] hv hj
      have hsz := (hcells k vs[k] e' hv he).1
      obtain ⟨r1, r2⟩ := (hcells k vs[k] e' hv he).2 j c hc
      have hget : cs'.getD (0 + k * i.size + j) undef = vs[k].cells.getD j undef := by
        simp only [Nat.zero_add] at h4 ⊢
        rw [Array.getD_eq_getD_getElem?, h4, Array.getD_eq_getD_getElem?]
      rw [hget]
      exact ⟨r1.mono (fun b o c e => by
        have := hi'.rd_lt e
        simp only [Gh.withLoc, Gh.withRd]
        rw [if_neg (by omega)]
        exact e), r2⟩
  obtain ⟨i1, s1⟩ := alloc_obj hi' (w' := { w with heap := w.heap.push (.cells cs' e) }) rfl ⟨rfl, rfl, rfl⟩ (fun _ => none) (fun _ _ h => by simp at h) (.mrow (some ⟨w.heap.size, 0, none⟩) n 0 i.size) (.mrow 0 i.size es) (fun b hb => by
    simp only [Loc.blk] at hb
    split at hb
    · simpa using hb.symm
    · simp at hb) hl2
  refine ⟨.slice (some ⟨w.heap.size, 0, none⟩) n n, { w with heap := w.heap.push (.cells cs' e) }, _, ?_, ?_, ⟨i1, s1⟩, dom_new _ _ _⟩
  · unfold execOp
    rw [ho]
    have hbig : ¬ n * i.size > 2 ^ 24 := by omega
    by_cases h0 : n * i.size = 0
    · rw [if_pos h0] at hzc
      rw [hzc] at f1
      simp only [Instr.buildSlice, Sem.run_bind, run_underlying' ht, Result.andThen, info_size hi, if_neg hbig, if_pos h0, Sem.run_pure]
      rw [f1]
      simp [newRow]
    · rw [if_neg h0] at hzc
      rw [hzc] at f1
      have hzv : (zeroValue e).run P w = .ok z w := by simp [zeroValue, typeInfo, hi, hz]
      simp only [Instr.buildSlice, Sem.run_bind, run_underlying' ht, Result.andThen, info_size hi, if_neg hbig, if_neg h0, Sem.run_pure, hzv]
      rw [f1]
      simp [newRow]
  · rw [hlen']
    refine .msl _ 0 i.size 0 n (some ⟨w.heap.size, 0, none⟩) (some ⟨w.heap.size, 0, none⟩) _ n n 0 n (by simp only [Gh.withLoc, if_true]) (Nat.le_refl _) (fun _ => ⟨rfl, rfl⟩) (by omega) ?_ (fun _ => ⟨_, _, rfl⟩) rfl (fun _ => by simp [addr_add])
    unfold maxLen
    omega

/-- Slices of elements of so many cells. -/
def isRows (P : Program) (s : Nat) (op : Op) : Bool :=
  match op with
  | .buildSlice t n parts => match P.underlying t with
    | some (.slice e) => match P.info? e with
      | some i => i.size == s && (inOrder 0 parts.toList && parts.toList.length == n && decide (n * i.size ≤ 2 ^ 24) && decide (n ≤ 2 ^ 24) && i.zero.isSome)
      | none => false
    | _ => false
  | _ => false

def aRow1 (P : Program) (s : Nat) (ρ : Operand → AV) (op : Op) (H : List Ob) (K : AV → List Ob → Prop) : Prop :=
  match isRows P s op with
  | true => match op with
    | .buildSlice _ _ parts => aBuildRow s (parts.toList.map fun x => ρ x.2) H K
    | _ => False
  | false => aOp P false ρ op H K

theorem row1_sound {s : Nat} {ρ : Operand → AV} {o : Oper} {H : List Ob} {K : AV → List Ob → Prop} (h : aRow1 P s ρ o.op H K) {a : Act} {w : World} {G : Gh} (hi : Inv w G H) (hx : ∀ x ∈ o.op.operands, RepA G (ρ x) (a.eval x)) :
    ∃ r H', K r H' ∧ DoesW P o ρ r H H' := by
  unfold aRow1 at h
  split at h
  · rename_i hr
    obtain ⟨op, hop⟩ : ∃ op, o.op = op := ⟨_, rfl⟩
    rw [hop] at h hr
    cases op with
    | buildSlice t n parts =>
      simp only [isRows] at hr
      split at hr
      · rename_i e ht
        split at hr
        · rename_i i hinf
          simp only [Bool.and_eq_true, beq_iff_eq, decide_eq_true_eq] at hr
          obtain ⟨rfl, ⟨⟨⟨h1, h2⟩, h3⟩, h4⟩, h5⟩ := hr
          obtain ⟨r, H', k1, k2⟩ := buildRow_sound hop ht hinf h1 h2 h3 h4 h5 h
          exact ⟨r, H', k1, k2.weak⟩
        · simp at hr
      · simp at hr
    | _ => simp [isRows] at hr
  · exact aOp_sound h hi hx

def aRows (P : Program) (s : Nat) : List Oper → List AV → List Ob → (List AV → List Ob → Prop) → Prop
  | [], t, H, K => K t H
  | o :: r, t, H, K => match o.guard with
    | none => aRow1 P s (rho t) o.op H fun v H' => strict (setD t o.dst v) fun t' => aRows P s r t' H' K
    | some _ => False

theorem rows_sound {s : Nat} {ops : Array Oper} {Q : Exit → Act → World → Prop} : ∀ (k : Nat) (l : List Oper) (t : List AV) (H : List Ob) (K : List AV → List Ob → Prop), (∀ j, j < l.length → l[j]? = ops[k + j]?) → aRows P s l t H K →
    ∀ (a : Act) (w : World) (G : Gh), Inv w G H → RepTm G t a.tmps →
      (∀ (a' : Act) (w' : World) (G' : Gh) (t' : List AV) (H' : List Ob), K t' H' → Inv w' G' H' → RepTm G' t' a'.tmps → a'.defers = a.defers → KeptL l a a' → Step w G w' G' → wpOps P ops Q [] a' w') →
      wpOps P ops Q (List.range' k l.length) a w
  | k, [], t, H, K, _, h, a, w, G, hi, ht, hq => by
    simpa using hq a w G t H h hi ht rfl (.refl _ _) (.refl w G)
  | k, o :: r, t, H, K, hl, h, a, w, G, hi, ht, hq => by
    have hk : ops[k]? = some o := by have := hl 0 (by simp); simpa using this.symm
    have hr : ∀ j, j < r.length → r[j]? = ops[k + 1 + j]? := fun j hj => by have := hl (j + 1) (by simpa using hj); simp at this; rw [this]; congr 1; omega
    simp only [aRows, strict_eq] at h
    split at h
    · rename_i hg
      rw [List.length_cons, List.range'_succ, wpOps_cons]
      unfold wpOp
      simp only [hk]
      have : Region.wanted o (yielded ops a.tmps) = true := by simp [Region.wanted, hg]
      simp only [this, if_true]
      left
      obtain ⟨v, H', h1, h2⟩ := row1_sound h hi (fun x _ => ht.rho x)
      refine h2 a w G hi (fun x _ => ht.rho x) _ _ (fun v' w' G' hr' hi' hs' => ?_)
      refine rows_sound (k + 1) r _ H' K hr h1 _ w' G' hi' ((ht.mono hs'.grow).put o.dst hr') (fun a' w2 G2 t' H2 hk2 hi2 ht2 hd2 hkp hs2 => ?_)
      exact hq a' w2 G2 t' H2 hk2 hi2 ht2 (by rw [hd2, put_defers]) ((KeptL.put a List.mem_cons_self v').trans (hkp.sub fun o ho => List.mem_cons_of_mem _ ho)) (hs'.trans hs2)
    · exact h.elim

def rwp (P : Program) (s : Nat) : Code → List AV → List Ob → (AExit → List AV → List Ob → Prop) → Prop
  | .region _ ops draw, t, H, K => match draw with
    | false => aRows P s ops.toList t H fun t' H' => K .normal t' H'
    | true => False
  | .seq a b, t, H, K => rwp P s a t H fun e t' H' => match e with
    | .normal => strict t' fun t' => rwp P s b t' H' K
    | e => K e t' H'
  | .ret, t, H, K => K .ret t H
  | .skip, t, H, K => K .normal t H
  | _, _, _, _ => False

theorem rwp_sound (s : Nat) : ∀ (c : Code) (t : List AV) (H : List Ob) (K : AExit → List AV → List Ob → Prop), rwp P s c t H K →
    ∀ (a : Act) (w : World) (G : Gh), Inv w G H → RepTm G t a.tmps → c.wp P (Post c K a w G) a w := by
  intro c
  induction c with
  | skip =>
    intro t H K h a w G hi ht
    exact wp_skip ⟨.normal, t, H, G, .normal, h, hi, ht, ⟨rfl, rfl⟩, fun _ _ => rfl, .refl w G⟩
  | region id ops draw =>
    intro t H K h a w G hi ht
    cases draw with
    | true => exact h.elim
    | false =>
      refine wp_region ?_
      have := rows_sound (P := P) (ops := ops) (Q := Post (.region id ops false) K a w G) 0 ops.toList t H _ (fun j _ => by simp) h a w G hi ht (fun a' w' G' t' H' hk hi' ht' hd hkp hs => ⟨.normal, t', H', G', .normal, hk, hi', ht', ⟨hd, hkp.2⟩, fun u hu => hkp.1 u (fun o ho hd' => hu ?_), hs⟩)
      · rw [List.range_eq_range']
        simpa using this
      · simp only [writes, List.mem_filterMap]
        exact ⟨o, by simpa using ho, hd'⟩
  | seq x y ihx ihy =>
    intro t H K h a w G hi ht
    simp only [rwp, strict_eq] at h
    refine wp_seq (wp_mono (ihx t H _ h a w G hi ht) ?_)
    rintro e a1 w1 ⟨e', t1, H1, G1, her, hk, hi1, ht1, hd1, hu1, hs1⟩
    cases her with
    | normal =>
      refine wp_mono (ihy _ H1 K hk a1 w1 G1 hi1 ht1) ?_
      rintro e a2 w2 ⟨e2, t2, H2, G2, her2, hk2, hi2, ht2, hd2, hu2, hs2⟩
      exact ⟨e2, t2, H2, G2, her2, hk2, hi2, ht2, ⟨hd2.1.trans hd1.1, hd2.2.trans hd1.2⟩, fun u hu => by simp [writes] at hu; rw [hu2 u hu.2, hu1 u hu.1], hs1.trans hs2⟩
    | exit id => exact ⟨.exit id, t1, H1, G1, .exit id, hk, hi1, ht1, hd1, fun u hu => hu1 u (by simp [writes] at hu; exact hu.1), hs1⟩
    | ret => exact ⟨.ret, t1, H1, G1, .ret, hk, hi1, ht1, hd1, fun u hu => hu1 u (by simp [writes] at hu; exact hu.1), hs1⟩
  | ret =>
    intro t H K h a w G hi ht
    exact wp_ret ⟨.ret, t, H, G, .ret, h, hi, ht, ⟨rfl, rfl⟩, fun _ _ => rfl, .refl w G⟩
  | _ => intro t H K h; exact h.elim

def aBodyR (P : Program) (s : Nat) (fn : Func) (Hin : List Ob) (args : List AV) (r : AV) (Hout : List Ob) : Prop :=
  match fn.body with
  | some c => rwp P s c (args ++ List.replicate (fn.ntmps - args.length) .top) Hin (aEnd P fn.results.toList Hin.length r Hout)
  | none => False

theorem fn_introR (s : Nat) {f : FuncId} {fn : Func} (hf : P.funcs[f]? = some fn) (hc : callable P f = true) {Hin Hout : List Ob} {args : List AV} {r : AV} (h : aBodyR P s fn Hin args r Hout) : Fn P f Hin args r Hout := by
  refine ⟨hc, fun w G vs hi hv => ?_⟩
  unfold aBodyR at h
  cases hb : fn.body with
  | none => simp [hb] at h
  | some c =>
    simp only [hb] at h
    refine calls_of_wp hf hb ?_
    have ht := args_tm hv fn.ntmps
    refine wp_mono (rwp_sound s c _ Hin _ h { tmps := vs ++ Array.replicate (fn.ntmps - vs.size) undef, defers := [] } w G hi ht) ?_
    rintro e a w' ⟨e', t, H, G', her, hk, hi', ht', hd, _, hs⟩
    have fin : aRes P fn.results.toList t H (fun vs => Gives Hin.length (tupOf vs) H r Hout) → a.defers = [] ∧ ∃ v, (results fn a.tmps).run P w' = .ok v w' ∧ ∃ v' G'', Ending.returned v = .returned v' ∧ RepA G'' r v' ∧ Inv w' G'' Hout ∧ Move Hin.length w G w' G'' := by
      intro hres
      obtain ⟨xs, us, h1, h2, h3, h4⟩ := res_sound _ _ _ _ hres w' G' a.tmps hi' ht'
      obtain ⟨G2, i2, r2, m2⟩ := h1 w' G' _ hi' (tupOf_rep h3 h4)
      exact ⟨hd.1, _, results_run h2, _, G2, rfl, r2, i2, (hs _).trans m2⟩
    cases her with
    | normal => exact fin hk
    | ret => exact fin hk
    | exit id => exact hk.elim

/-- A row that is no longer written, as an argument. -/
theorem callDoes_frow {fv : AV} {args : List AV} {r : AV} {H H' : List Ob} {id ver s : Nat} {es : List T} (ho : H[id]? = some (.frow ver s es)) (h : CallDoes P (fv.unm id ver es) (args.map (AV.unm id ver es)) r H H') : CallDoes P fv args r H H' := by
  intro w G u vs hi rf rl
  have c1 : ∀ x v, RepA G x v → RepA G (x.unm id ver es) v := fun x v r => unm_of (Grow.refl G) (fun s off len u r hle => frow_part hi ho r hle) r
  exact h w G u vs hi (c1 _ _ rf) ⟨by simpa using rl.1, fun j x hj => by
    simp only [List.getElem?_map, Option.map_eq_some_iff] at hj
    obtain ⟨y, hy, rfl⟩ := hj
    exact c1 _ _ (rl.2 j y hy)⟩

theorem aCallY_of {c : Cont} {H : List Ob} {fv : AV} {args : List AV} {id ver s : Nat} {es : List T} (ho : H[id]? = some (.frow ver s es)) (h : @aCallW P (fv.unm id ver es) (args.map (AV.unm id ver es)) H c) : aCallW P fv args H := by
  obtain ⟨r, H', h1, h2⟩ := h
  exact ⟨r, H', callDoes_frow ho h1, h2⟩

theorem gives_refl {v : AV} {H : List Ob} : Gives 0 v H v H := fun w G u hi hr => ⟨G, hi, hr, .refl _ _ _⟩

end Go.Abs
end
