/- An expression that may be comes to a value of its type, or to an error. No program in sight. -/
import Derived.Test.YtgfnodmghaghpaaGreatDoorZPuExpr
set_option linter.unusedSimpArgs false
set_option linter.unusedVariables false
namespace Go.Proofs.YtgfnodmghaghpaaGreatDoor
open Go Go.Abs

@[simp] theorem ite_ok_er {α : Type} {c : Prop} [Decidable c] {a u : α} {e : Int} : ((if c then R.ok a else R.er e) = R.ok u) ↔ (c ∧ a = u) := by split <;> simp_all
@[simp] theorem ite_er_x {α : Type} {c : Prop} [Decidable c] {u : α} {r : R α} {e : Int} : ((if c then R.er e else r) = R.ok u) ↔ (¬ c ∧ r = R.ok u) := by split <;> simp_all

@[simp] theorem ite_x_er {α : Type} {c : Prop} [Decidable c] {u : α} {r : R α} {e : Int} : ((if c then r else R.er e) = R.ok u) ↔ (c ∧ r = R.ok u) := by split <;> simp_all

theorem rowE_mono {n d d' : Int} (h : rowE n d = 0) (hd : d' ≤ d) : rowE n d' = 0 := by
  unfold rowE at *
  grind

mutual
theorem checkV_mono : ∀ (v : Va) (d d' : Int), checkV v d = 0 → d' ≤ d → checkV v d' = 0
  | .mk k i b s t, d, d', h, hd => by
    simp only [checkV] at h ⊢
    have h1 := fun h => rowE_mono (n := t.length) (d := d) (d' := d') h hd
    have h2 := fun h => checkVs_mono t (d + 1) (d' + 1) h (by omega)
    grind
theorem checkVs_mono : ∀ (l : List Va) (d d' : Int), checkVs l d = 0 → d' ≤ d → checkVs l d' = 0
  | [], _, _, _, _ => by simp [checkVs]
  | v :: r, d, d', h, hd => by
    simp only [checkVs] at h ⊢
    have h1 := fun h => checkV_mono v d d' h hd
    have h2 := fun h => checkVs_mono r d d' h hd
    grind
end

theorem firstE_zero {α : Type} {g : α → Int} {l : List α} : firstE g l = 0 ↔ ∀ x ∈ l, g x = 0 := by
  induction l with
  | nil => simp [firstE]
  | cons x r ih =>
    simp only [firstE, List.mem_cons, forall_eq_or_imp]
    by_cases h : g x = 0
    · simp [h, ih]
    · simp [h]

theorem checkVs_zero {l : List Va} {d : Int} : checkVs l d = 0 ↔ ∀ v ∈ l, checkV v d = 0 := by rw [checkVs_eq, firstE_zero]
theorem checkTs_zero {l : List Ty} {d : Int} : checkTs l d = 0 ↔ ∀ v ∈ l, checkT v d = 0 := by rw [checkTs_eq, firstE_zero]

/-- A value that may be, by its kind. -/
theorem good_cases {k i : Int} {b : Bool} {s : List UInt8} {t : List Va} {d : Int} (h : checkV (.mk k i b s t) d = 0) :
    (k = 1 ∧ b = false ∧ s = [] ∧ t = []) ∨ (k = 2 ∧ i = 0 ∧ s = [] ∧ t = []) ∨ (k = 3 ∧ i = 0 ∧ b = false ∧ t = [] ∧ s.length ≤ 255) ∨ (k = 4 ∧ i = 0 ∧ b = false ∧ s = [] ∧ rowE t.length d = 0 ∧ checkVs t (d + 1) = 0) := by
  simp only [checkV] at h
  split at h
  · simp at h
  rename_i hk
  split at h
  · simp at h
  rename_i hsp
  split at h
  · simp at h
  rename_i hl
  have hk : k = 1 ∨ k = 2 ∨ k = 3 ∨ k = 4 := by omega
  simp only [spareV] at hsp
  rcases hk with rfl | rfl | rfl | rfl
  · simp at hsp
    left
    exact ⟨rfl, hsp.1.1, hsp.1.2, hsp.2⟩
  · simp at hsp
    right; left
    exact ⟨rfl, hsp.1.1, hsp.1.2, hsp.2⟩
  · simp at hsp
    right; right; left
    exact ⟨rfl, hsp.1.1, hsp.1.2, hsp.2, by omega⟩
  · simp at hsp
    right; right; right
    simp only [ne_eq, not_true, if_false] at h
    split at h
    · rename_i hr; exact absurd h hr
    · rename_i hr
      exact ⟨rfl, hsp.1.1, hsp.1.2, hsp.2, by simpa using hr, h⟩

mutual
/-- A value that may be, whose type may be as deep. -/
theorem checkV_deep : ∀ (v : Va) (d : Int), checkV v 0 = 0 → checkT (kindV v) d = 0 → checkV v d = 0
  | .mk k i b s t, d, h, ht => by
    rcases good_cases h with ⟨rfl, rfl, rfl, rfl⟩ | ⟨rfl, rfl, rfl, rfl⟩ | ⟨rfl, rfl, rfl, rfl, hl⟩ | ⟨rfl, rfl, rfl, rfl, hr, hc⟩
    · simp [checkV, spareV]
    · simp [checkV, spareV]
    · simp [checkV, spareV]; omega
    · simp only [kindV_mk, checkT] at ht
      simp only [checkV, spareV]
      simp at ht
      have h2 := checkVs_deep t (d + 1) (checkVs_mono t _ _ hc (by omega))
      simp
      grind
theorem checkVs_deep : ∀ (l : List Va) (d : Int), checkVs l 0 = 0 → checkTs (l.map kindV) d = 0 → checkVs l d = 0
  | [], _, _, _ => by simp [checkVs]
  | v :: r, d, h, ht => by
    simp only [checkVs, List.map_cons, checkTs] at h ht ⊢
    have h1 := fun a b => checkV_deep v d a b
    have h2 := fun a b => checkVs_deep r d a b
    grind
end

mutual
theorem kindV_check : ∀ (v : Va) (d : Int), checkV v d = 0 → checkT (kindV v) d = 0
  | .mk k i b s t, d, h => by
    rcases good_cases h with ⟨rfl, rfl, rfl, rfl⟩ | ⟨rfl, rfl, rfl, rfl⟩ | ⟨rfl, rfl, rfl, rfl, hl⟩ | ⟨rfl, rfl, rfl, rfl, hr, hc⟩
    · simp [checkT]
    · simp [checkT]
    · simp [checkT]
    · have := kindVs_check t (d + 1) hc
      simp [checkT, hr, this]
theorem kindVs_check : ∀ (l : List Va) (d : Int), checkVs l d = 0 → checkTs (l.map kindV) d = 0
  | [], _, _ => by simp [checkTs]
  | v :: r, d, h => by
    simp only [checkVs, List.map_cons, checkTs] at h ⊢
    have h1 := fun a => kindV_check v d a
    have h2 := fun a => kindVs_check r d a
    grind
end

/-- A value that may be, and of a type. -/
def Of (v : Va) (t : Ty) : Prop := checkV v 0 = 0 ∧ kindV v = t

theorem of_int (n : Int) : Of (intV n) (plainT 1) := by simp [Of, intV, checkV, spareV, plainT]
theorem of_bool (b : Bool) : Of (boolV b) (plainT 2) := by simp [Of, boolV, checkV, spareV, plainT]
theorem of_str {s : List UInt8} (h : s.length ≤ 255) : Of (strV s) (plainT 3) := by simp [Of, strV, checkV, spareV, plainT]; omega

theorem of_kind {v : Va} {t : Ty} {k : Int} (h : Of v t) (hk : t.kind = k) : (k = 1 → ∃ n, v = intV n) ∧ (k = 2 → ∃ b, v = boolV b) ∧ (k = 3 → ∃ s, v = strV s ∧ s.length ≤ 255) ∧ (k = 4 → ∃ l, v = tupV l ∧ checkVs l 1 = 0 ∧ rowE l.length 0 = 0) := by
  obtain ⟨k', i, b, s, l⟩ := v
  obtain ⟨h1, rfl⟩ := h
  simp [Ty.kind] at hk
  subst hk
  rcases good_cases h1 with ⟨rfl, rfl, rfl, rfl⟩ | ⟨rfl, rfl, rfl, rfl⟩ | ⟨rfl, rfl, rfl, rfl, hl⟩ | ⟨rfl, rfl, rfl, rfl, hr, hc⟩
  · exact ⟨fun _ => ⟨i, rfl⟩, by simp, by simp, by simp⟩
  · exact ⟨by simp, fun _ => ⟨b, rfl⟩, by simp, by simp⟩
  · exact ⟨by simp, by simp, fun _ => ⟨s, rfl, hl⟩, by simp⟩
  · exact ⟨by simp, by simp, by simp, fun _ => ⟨l, rfl, hc, hr⟩⟩

/-- An answer of a type, or an error that is none of 0. -/
def OfR (r : R Va) (t : Ty) : Prop := match r with
  | .ok v => Of v t
  | .er e => e ≠ 0

def OfL (r : R (List Va)) (ts : List Ty) : Prop := match r with
  | .ok vs => vs.map kindV = ts ∧ ∀ v ∈ vs, checkV v 0 = 0
  | .er e => e ≠ 0

theorem ofR_int (n : Int) : OfR (.ok (intV n)) (plainT 1) := of_int n
theorem ofR_bool (b : Bool) : OfR (.ok (boolV b)) (plainT 2) := of_bool b

theorem mkE_sound (op : List UInt8) (n : Int) (vs : List Va) (ts : List Ty) (u : Ty) (ho : opT op n ts = .ok u) (hl : vs.map kindV = ts) (hc : ∀ v ∈ vs, checkV v 0 = 0) (hop : op ≠ oAnd ∧ op ≠ oOr ∧ op ≠ oIf ∧ op ≠ oLit ∧ op ≠ oX)
    (har : arE op ≠ -2) (hlen : if arE op = -1 then 1 ≤ vs.length ∧ vs.length ≤ 8 else (vs.length : Int) = arE op) : ∃ r, mkE op n vs = some r ∧ OfR r u := by
  have hof : ∀ v ∈ vs, Of v (kindV v) := fun v hv => ⟨hc v hv, rfl⟩
  obtain ⟨hop1, hop2, hop3, hop4, hop5⟩ := hop
  by_cases hat : op = oAt
  · subst hat
    simp [arE] at hlen
    match vs, hlen with
    | [.mk k i b s t], _ =>
      subst hl
      simp [opT, Ty.kind, Ty.of] at ho
      obtain ⟨hk, ⟨h0, hn⟩, ho⟩ := ho
      subst hk
      have hlt : n.toNat < t.length := by omega
      simp [mkE, h0, List.getElem?_eq_getElem hlt]
      simp [List.getElem?_eq_getElem hlt] at ho
      have hg := hc _ (List.mem_singleton_self _)
      rcases good_cases hg with h | h | h | ⟨_, rfl, rfl, rfl, hr, hcs⟩
      · simp at h
      · simp at h
      · simp at h
      · exact ⟨checkV_mono _ 1 0 (checkVs_zero.1 hcs _ (by simp)) (by omega), ho⟩
  by_cases htup : op = oTup
  · subst htup
    simp [arE] at hlen
    simp [opT] at ho
    obtain ⟨hck, ho⟩ := ho
    subst ho hl
    refine ⟨.ok (tupV vs), by simp [mkE], ?_⟩
    simp only [checkT] at hck
    simp at hck
    have hr : rowE vs.length 0 = 0 := by
      by_cases h : rowE vs.length 0 = 0
      · exact h
      · simp [h] at hck
    simp [hr] at hck
    have := checkVs_deep vs 1 (checkVs_zero.2 hc) hck
    simp [OfR, Of, tupV, checkV, spareV, hr, this]
  -- of one or two
  have h12 : arE op = 1 ∨ arE op = 2 := by
    unfold arE at har ⊢
    grind
  rcases h12 with h1 | h2
  · simp [h1] at hlen
    match vs, hlen with
    | [v], _ =>
      have hv := hof v (by simp)
      subst hl
      have hops : op = oNeg ∨ op = oNot ∨ op = oLen := by
        unfold arE at h1
        grind
      rcases hops with rfl | rfl | rfl
      all_goals
        simp [opT] at ho
        obtain ⟨hk, rfl⟩ := ho
        have hcs := of_kind hv hk
      · obtain ⟨m, rfl⟩ := hcs.1 rfl
        exact ⟨.ok (intV (w64 (0 - m))), by simp [mkE, intV], ofR_int _⟩
      · obtain ⟨m, rfl⟩ := hcs.2.1 rfl
        exact ⟨.ok (boolV (!m)), by simp [mkE, boolV], ofR_bool _⟩
      · obtain ⟨m, rfl, _⟩ := hcs.2.2.1 rfl
        exact ⟨.ok (intV m.length), by simp [mkE, strV], ofR_int _⟩
  · simp [h2] at hlen
    have hlen : vs.length = 2 := by omega
    match vs, hlen with
    | [v, v'], _ =>
      have hv := hof v (by simp)
      have hv' := hof v' (by simp)
      subst hl
      have hops : op = oAdd ∨ op = oSub ∨ op = oMul ∨ op = oDiv ∨ op = oRem ∨ op = oEq ∨ op = oLt ∨ op = oCat := by
        unfold arE at h2
        grind
      obtain ⟨k, i, b, s, t⟩ := v
      obtain ⟨k', i', b', s', t'⟩ := v'
      rcases hops with rfl | rfl | rfl | rfl | rfl | rfl | rfl | rfl
      all_goals simp [opT, Ty.kind] at ho
      · obtain ⟨_, rfl⟩ := ho; exact ⟨.ok (intV (w64 (i + i'))), by simp [mkE], ofR_int _⟩
      · obtain ⟨_, rfl⟩ := ho; exact ⟨.ok (intV (w64 (i - i'))), by simp [mkE], ofR_int _⟩
      · obtain ⟨_, rfl⟩ := ho; exact ⟨.ok (intV (w64 (i * i'))), by simp [mkE], ofR_int _⟩
      · obtain ⟨_, rfl⟩ := ho
        refine ⟨if i' = 0 then .er 8 else .ok (intV (w64 (i.tdiv i'))), by simp [mkE], ?_⟩
        split
        · simp [OfR]
        · exact ofR_int _
      · obtain ⟨_, rfl⟩ := ho
        refine ⟨if i' = 0 then .er 8 else .ok (intV (i.tmod i')), by simp [mkE], ?_⟩
        split
        · simp [OfR]
        · exact ofR_int _
      · obtain ⟨_, rfl⟩ := ho; exact ⟨.ok (boolV (decide (cmpV (.mk k i b s t) (.mk k' i' b' s' t') = 0))), by simp [mkE], ofR_bool _⟩
      · obtain ⟨_, rfl⟩ := ho; exact ⟨.ok (boolV (decide (cmpV (.mk k i b s t) (.mk k' i' b' s' t') < 0))), by simp [mkE], ofR_bool _⟩
      · obtain ⟨_, rfl⟩ := ho
        refine ⟨if 255 < s.length + s'.length then .er 4 else .ok (strV (s ++ s')), by simp [mkE], ?_⟩
        split
        · simp [OfR]
        · exact of_str (by simp; omega)

theorem fields_len {op : List UInt8} {v : Va} {n : Int} {m : Nat} (h : ¬ fieldsE op v n m = false) : if arE op = -1 then 1 ≤ m ∧ m ≤ 8 else (m : Int) = arE op := by
  simp only [fieldsE, Bool.not_eq_false, Bool.and_eq_true] at h
  have := h.1.1
  by_cases ha : arE op = -1
  · simpa [ha] using this
  · simpa [ha] using this

theorem ckL_length : ∀ (a : List Ex) (t : Ty) (d : Int) (l : List Ty), ckL a t d = .ok l → l.length = a.length
  | [], t, d, l, h => by simp [ckL] at h; subst h; rfl
  | e :: r, t, d, l, h => by
    simp only [ckL] at h
    split at h
    · simp at h
    · split at h
      · simp at h
      · rename_i l' hl'
        simp at h
        subst h
        simp [ckL_length r t d l' hl']

theorem evL_length : ∀ (a : List Ex) (x : Va) (l : List Va), evL a x = some (.ok l) → l.length = a.length
  | [], x, l, h => by simp [evL] at h; subst h; rfl
  | e :: r, x, l, h => by
    simp only [evL] at h
    split at h
    · simp at h
    · simp at h
    · split at h
      · simp at h
      · simp at h
      · rename_i l' hl'
        simp at h
        subst h
        simp [evL_length r x l' hl']

theorem opT_bool {op : List UInt8} {n : Int} {a b : Ty} {u : Ty} (hop : op = oAnd ∨ op = oOr) (h : opT op n [a, b] = .ok u) : a.kind = 2 ∧ b.kind = 2 ∧ u = plainT 2 := by
  rcases hop with rfl | rfl
  · simp [opT] at h; exact ⟨h.1.1, h.1.2, h.2.symm⟩
  · simp [opT] at h; exact ⟨h.1.1, h.1.2, h.2.symm⟩

theorem of_plain {v : Va} {t : Ty} {k : Int} (h : Of v t) (hk : t.kind = k) (h4 : k ≠ 4) : t = plainT k := by
  obtain ⟨k', i, b, s, l⟩ := v
  obtain ⟨h1, rfl⟩ := h
  simp [Ty.kind] at hk
  subst hk
  rcases good_cases h1 with ⟨rfl, rfl, rfl, rfl⟩ | ⟨rfl, rfl, rfl, rfl⟩ | ⟨rfl, rfl, rfl, rfl, hl⟩ | ⟨rfl, rfl, rfl, rfl, hr, hc⟩
  · simp [plainT]
  · simp [plainT]
  · simp [plainT]
  · exact absurd rfl h4

mutual
theorem evE_sound : ∀ (e : Ex) (t : Ty) (d : Int) (x : Va) (u : Ty), ckE e t d = .ok u → Of x t → ∃ r, evE e x = some r ∧ OfR r u
  | .mk op v n a, t, d, x, u, h, hx => by
    simp only [ckE] at h
    split at h
    · simp at h
    rename_i har
    split at h
    · simp at h
    split at h
    · simp at h
    rename_i hf
    have hlen := fields_len hf
    split at h
    · rename_i hop
      split at h
      · simp at h
      · rename_i hck
        simp at h hck
        exact ⟨.ok v, by simp [evE, hop], ⟨hck, h⟩⟩
    rename_i hlit
    split at h
    · rename_i hop
      simp at h
      subst h
      exact ⟨.ok x, by simp [evE, hop], hx⟩
    rename_i hX
    split at h
    · simp at h
    · rename_i l hl
      by_cases hand : op = oAnd ∨ op = oOr
      · have h2 : a.length = 2 := by rcases hand with rfl | rfl <;> simp [arE] at hlen <;> omega
        match a, h2, hl with
        | [a0, a1], _, hl =>
          obtain ⟨u0, u1, rfl, e0, e1⟩ : ∃ u0 u1, l = [u0, u1] ∧ ckE a0 t (d + 1) = .ok u0 ∧ ckE a1 t (d + 1) = .ok u1 := by
            simp only [ckL] at hl
            cases h0 : ckE a0 t (d + 1) with
            | er x => simp [h0] at hl
            | ok u0 =>
              cases h1 : ckE a1 t (d + 1) with
              | er x => simp [h0, h1] at hl
              | ok u1 => simp [h0, h1] at hl; exact ⟨u0, u1, hl.symm, rfl, rfl⟩
          obtain ⟨k0, k1, rfl⟩ := opT_bool hand h
          obtain ⟨r0, g1, g2⟩ := evE_sound a0 t (d + 1) x u0 e0 hx
          obtain ⟨r1, g3, g4⟩ := evE_sound a1 t (d + 1) x u1 e1 hx
          have hev : ∀ w, ∃ r, ev2 w [a0, a1] x = some r ∧ OfR r (plainT 2) := by
            intro w
            simp only [ev2, g1]
            cases r0 with
            | er f => exact ⟨_, rfl, g2⟩
            | ok v0 =>
              simp only
              split
              · refine ⟨r1, g3, ?_⟩
                cases r1 with
                | er f => exact g4
                | ok v1 => rw [← of_plain g4 k1 (by omega)]; exact g4
              · refine ⟨_, rfl, ?_⟩
                rw [← of_plain g2 k0 (by omega)]; exact g2
          rcases hand with rfl | rfl
          · simpa [evE] using hev true
          · simpa [evE] using hev false
      by_cases hif : op = oIf
      · subst hif
        have h3 : a.length = 3 := by simp [arE] at hlen; omega
        match a, h3, hl with
        | [a0, a1, a2], _, hl =>
          obtain ⟨u0, u1, u2, rfl, e0, e1, e2⟩ : ∃ u0 u1 u2, l = [u0, u1, u2] ∧ ckE a0 t (d + 1) = .ok u0 ∧ ckE a1 t (d + 1) = .ok u1 ∧ ckE a2 t (d + 1) = .ok u2 := by
            simp only [ckL] at hl
            cases h0 : ckE a0 t (d + 1) with
            | er x => simp [h0] at hl
            | ok u0 =>
              cases h1 : ckE a1 t (d + 1) with
              | er x => simp [h0, h1] at hl
              | ok u1 =>
                cases h2 : ckE a2 t (d + 1) with
                | er x => simp [h0, h1, h2] at hl
                | ok u2 => simp [h0, h1, h2] at hl; exact ⟨u0, u1, u2, hl.symm, rfl, rfl, rfl⟩
          simp [opT] at h
          obtain ⟨⟨k0, hs⟩, rfl⟩ := h
          have hs := (sameT_iff _ _).1 hs
          subst hs
          obtain ⟨r0, g1, g2⟩ := evE_sound a0 t (d + 1) x u0 e0 hx
          obtain ⟨r1, g3, g4⟩ := evE_sound a1 t (d + 1) x _ e1 hx
          obtain ⟨r2, g5, g6⟩ := evE_sound a2 t (d + 1) x _ e2 hx
          simp only [evE, ev3, g1]
          cases r0 with
          | er f => exact ⟨.er f, by simp, g2⟩
          | ok v0 =>
            by_cases hb : v0.truth = true
            · exact ⟨r1, by simp [hb, g3], g4⟩
            · exact ⟨r2, by simp [hb, g5], g6⟩
      obtain ⟨r, g1, g2⟩ := evL_sound a t (d + 1) x l hl hx
      have hne : op ≠ oAnd ∧ op ≠ oOr := ⟨fun h => hand (.inl h), fun h => hand (.inr h)⟩
      simp only [evE, hlit, hX, hne.1, hne.2, hif, if_false, g1]
      cases r with
      | er f => exact ⟨.er f, rfl, g2⟩
      | ok vs =>
        have hl1 := evL_length a x vs g1
        exact mkE_sound op n vs l u h g2.1 g2.2 ⟨hne.1, hne.2, hif, hlit, hX⟩ har (by rw [hl1]; exact hlen)
theorem evL_sound : ∀ (a : List Ex) (t : Ty) (d : Int) (x : Va) (us : List Ty), ckL a t d = .ok us → Of x t → ∃ r, evL a x = some r ∧ OfL r us
  | [], t, d, x, us, h, hx => by
    simp [ckL] at h
    subst h
    exact ⟨.ok [], by simp [evL], by simp [OfL]⟩
  | e :: r, t, d, x, us, h, hx => by
    simp only [ckL] at h
    split at h
    · simp at h
    · rename_i u0 hu0
      split at h
      · simp at h
      · rename_i l hl
        simp at h
        subst h
        obtain ⟨r0, g1, g2⟩ := evE_sound e t d x u0 hu0 hx
        obtain ⟨r1, g3, g4⟩ := evL_sound r t d x l hl hx
        simp only [evL, g1, g3]
        cases r0 with
        | er f => exact ⟨.er f, rfl, g2⟩
        | ok v0 =>
          cases r1 with
          | er f => exact ⟨.er f, rfl, g4⟩
          | ok vs => exact ⟨.ok (v0 :: vs), rfl, by simp [OfL, g2.2, g4.1], by simpa [OfL] using ⟨g2.1, g4.2⟩⟩
end

end Go.Proofs.YtgfnodmghaghpaaGreatDoor
