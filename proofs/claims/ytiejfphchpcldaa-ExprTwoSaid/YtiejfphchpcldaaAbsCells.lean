/- Rows of cells: written in part, loaded, stored. -/
import Derived.Test.YtiejfphchpcldaaAbsHeap
import Derived.Laws.Tables
import Derived.Laws.Cells
namespace Go.Abs

variable {P : Program}

/-- Cells represent abstract cells. -/
def RepCs (G : Gh) (xs : List AV) (cs : Array Value) : Prop := cs.size = xs.length ∧ ∀ (k : Nat) (c : AV), xs[k]? = some c → RepA G c (cs.getD k undef) ∧ scalar (cs.getD k undef) = true

theorem RepA.repCs {G : Gh} {x : AV} {v : Value} (h : RepA G x v) (hs : x.storable = true) : RepCs G x.cells v.cells := h.cells hs

theorem RepCs.mono {G G' : Gh} (g : Grow G G') {xs : List AV} {cs : Array Value} (h : RepCs G xs cs) : RepCs G' xs cs := ⟨h.1, fun k c e => ⟨(h.2 k c e).1.mono g, (h.2 k c e).2⟩⟩

/-- Values laid into a row from a place on. -/
def setR (cs : Array Value) (off : Nat) : List Value → Array Value
  | [] => cs
  | v :: r => setR (cs.setIfInBounds off v) (off + 1) r

theorem setR_size (vs : List Value) : ∀ (cs : Array Value) (off : Nat), (setR cs off vs).size = cs.size := by
  induction vs with
  | nil => intro cs off; rfl
  | cons v r ih => intro cs off; simp [setR, ih]

theorem setR_get (vs : List Value) : ∀ (cs : Array Value) (off k : Nat), off + vs.length ≤ cs.size → (setR cs off vs)[k]? = if off ≤ k ∧ k < off + vs.length then vs[k - off]? else cs[k]? := by
  induction vs with
  | nil => intro cs off k h; simp [setR]; intro h1 h2; omega
  | cons v r ih =>
    intro cs off k h
    simp only [List.length_cons] at h
    rw [setR, ih _ _ _ (by simp; omega)]
    by_cases h1 : off + 1 ≤ k ∧ k < off + 1 + r.length
    · rw [if_pos h1, if_pos (by simp; omega)]
      rw [show k - off = (k - (off + 1)) + 1 by omega, List.getElem?_cons_succ]
    · rw [if_neg h1]
      by_cases h2 : k = off
      · subst h2
        rw [if_pos (by simp)]
        simp [show k < cs.size by omega]
      · rw [if_neg (by simp; omega)]
        rw [Array.getElem?_setIfInBounds, if_neg (by omega)]

theorem foldl_setR (vs : List Value) : ∀ (cs : Array Value) (off j : Nat), (vs.zipIdx j).foldl (fun cs (x : Value × Nat) => cs.setIfInBounds (off + x.2) x.1) cs = setR cs (off + j) vs := by
  induction vs with
  | nil => intro cs off j; rfl
  | cons v r ih =>
    intro cs off j
    simp only [List.zipIdx_cons, List.foldl_cons, setR]
    rw [ih]
    rfl

theorem put_length {α : Type} (xs : List α) (off : Nat) (ys : List α) (h : off + ys.length ≤ xs.length) : (put xs off ys).length = xs.length := by
  simp [put]; omega

theorem put_get {α : Type} (xs : List α) (off : Nat) (ys : List α) (k : Nat) (h : off + ys.length ≤ xs.length) :
    (put xs off ys)[k]? = if off ≤ k ∧ k < off + ys.length then ys[k - off]? else xs[k]? := by
  unfold put
  have hl : (xs.take off).length = off := by simp; omega
  by_cases h1 : k < off
  · rw [if_neg (by omega), List.append_assoc, List.getElem?_append_left (by omega), List.getElem?_take, if_pos h1]
  · by_cases h2 : k < off + ys.length
    · rw [if_pos ⟨by omega, h2⟩, List.append_assoc, List.getElem?_append_right (by omega), hl, List.getElem?_append_left (by omega)]
    · rw [if_neg (by omega), List.getElem?_append_right (by simp; omega), List.getElem?_drop]
      congr 1
      simp
      omega

theorem RepCs.put {G : Gh} {xs ys : List AV} {cs vs : Array Value} (h : RepCs G xs cs) (h' : RepCs G ys vs) (off : Nat) (hl : off + ys.length ≤ xs.length) :
    RepCs G (put xs off ys) (setR cs off vs.toList) := by
  have e1 := h.1
  have e2 := h'.1
  have hv : off + vs.toList.length ≤ cs.size := by simp; omega
  refine ⟨by rw [setR_size, put_length _ _ _ hl]; exact e1, fun k c hk => ?_⟩
  rw [put_get _ _ _ _ hl] at hk
  have hg : (setR cs off vs.toList).getD k undef = if off ≤ k ∧ k < off + ys.length then vs.getD (k - off) undef else cs.getD k undef := by
    simp only [Array.getD_eq_getD_getElem?, setR_get _ _ _ _ hv]
    have : vs.toList.length = ys.length := by simp; omega
    rw [this]
    split <;> simp
  rw [hg]
  split
  · rename_i hin
    rw [if_pos hin] at hk
    exact h'.2 _ c hk
  · rename_i hout
    rw [if_neg hout] at hk
    exact h.2 k c hk

/-- Struct literals. -/
theorem fill_sound (place : Nat → Option (Nat × Nat)) (G : Gh) : ∀ (parts : List (Nat × Value)) (l : List (Nat × Nat × AV)) (xs : List AV) (cs : Array Value),
    RepCs G xs cs → l.length = parts.length → (∀ (j : Nat) (i : Nat) (v : Value) (x : Nat × Nat × AV), parts[j]? = some (i, v) → l[j]? = some x → place i = some (x.1, x.2.1) ∧ RepA G x.2.2 v) →
    ∀ (ys : List AV), aFill xs l (fun zs => zs = ys) → ∃ cs', Instr.fill place cs parts = some cs' ∧ RepCs G ys cs'
  | [], [], xs, cs, hr, _, _, ys, h => ⟨cs, rfl, by simp only [aFill] at h; exact h ▸ hr⟩
  | (i, v) :: parts, (off, s, x) :: l, xs, cs, hr, hl, hp, ys, h => by
    obtain ⟨h1, h2⟩ := hp 0 i v (off, s, x) rfl rfl
    replace h1 : place i = some (off, s) := h1
    replace h2 : RepA G x v := h2
    simp only [aFill] at h
    obtain ⟨⟨h3, h4, h5⟩, h6⟩ := h
    have hc := h2.repCs h3
    have e1 := hr.1
    have e2 := hc.1
    have := fill_sound place G parts l (Abs.put xs off x.cells) (setR cs off v.cells.toList) (hr.put hc off (by omega)) (by simpa using hl)
      (fun j i' v' x' ha hb => hp (j + 1) i' v' x' (by simpa using ha) (by simpa using hb)) ys h6
    obtain ⟨cs', hf, hrep⟩ := this
    refine ⟨cs', ?_, hrep⟩
    simp only [Instr.fill, h1]
    rw [if_neg (by simp; omega)]
    rw [← hf]
    congr 1
    rw [← Array.foldl_toList, Array.toList_zipIdx]
    have := foldl_setR v.cells.toList cs off 0
    simpa using this
  | [], _ :: _, _, _, _, hl, _, _, _ => by simp at hl
  | _ :: _, [], _, _, _, hl, _, _, _ => by simp at hl

theorem aFill_get : ∀ (l : List (Nat × Nat × AV)) (xs : List AV) (K : List AV → Prop), aFill xs l K → ∃ ys, aFill xs l (fun zs => zs = ys) ∧ K ys
  | [], xs, K, h => ⟨xs, rfl, h⟩
  | (off, s, v) :: l, xs, K, h => by
    obtain ⟨h1, h2⟩ := h
    obtain ⟨ys, h3, h4⟩ := aFill_get l _ K h2
    exact ⟨ys, ⟨h1, h3⟩, h4⟩

end Go.Abs
