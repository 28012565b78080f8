/- What eval.Eval and the document's Eval answer, over trees. -/
import Derived.Test.YtcdkdmjedkhpiaaDoorZSpEval
set_option linter.unusedSimpArgs false
set_option linter.unusedVariables false
namespace Go.Proofs.YtcdkdmjedkhpiaaDoor
open Go Go.Abs

def chooseI (op : List UInt8) (b : Bool) : Int := if op = oIf ∧ b = true then 1 else if op = oIf then 2 else if decide (op = oAnd) = b then 1 else 0

/-- What all answers. -/
def allR (r : R (List Va)) : AV :=
  match r with
  | .ok l => .tup [.p (.slice (l.map encV)), .p (.int .i64 0)]
  | .er f => .tup [.p (.slice []), .p (.int .i64 f)]

theorem evL_snoc (x : Va) : ∀ (a : List Ex) (i : Nat) (l : List Va), (hi : i < a.length) → evL (a.take i) x = some (.ok l) → evL (a.take (i + 1)) x = match evE a[i] x with
    | none => none
    | some (.er f) => some (.er f)
    | some (.ok v) => some (.ok (l ++ [v]))
  | [], i, l, hi, h => by simp at hi
  | e :: r, 0, l, hi, h => by
    simp [evL] at h
    subst h
    simp only [List.take_succ_cons, List.take_zero, evL, List.getElem_cons_zero]
    cases evE e x with
    | none => rfl
    | some u => cases u <;> rfl
  | e :: r, i + 1, l, hi, h => by
    have hi' : i < r.length := by simpa using hi
    simp only [List.take_succ_cons, evL] at h ⊢
    cases he : evE e x with
    | none => simp [he] at h
    | some u =>
      cases u with
      | er f => simp [he] at h
      | ok v =>
        simp only [he] at h ⊢
        cases hr : evL (r.take i) x with
        | none => simp [hr] at h
        | some w =>
          cases w with
          | er f => simp [hr] at h
          | ok l' =>
            simp [hr] at h
            subst h
            have := evL_snoc x r i l' (by simpa using hi) hr
            rw [this]
            simp only [List.getElem_cons_succ]
            cases evE r[i] x with
            | none => rfl
            | some u =>
              cases u with
              | er f => rfl
              | ok v => rfl

theorem evL_er_take (x : Va) : ∀ (a : List Ex) (i : Nat) (f : Int), evL (a.take i) x = some (.er f) → evL a x = some (.er f)
  | [], i, f, h => by simp [evL] at h
  | e :: r, 0, f, h => by simp [evL] at h
  | e :: r, i + 1, f, h => by
    simp only [List.take_succ_cons, evL] at h ⊢
    cases he : evE e x with
    | none => simp [he] at h
    | some u =>
      cases u with
      | er g => simpa [he] using h
      | ok v =>
        simp only [he] at h ⊢
        cases hr : evL (r.take i) x with
        | none => simp [hr] at h
        | some w =>
          cases w with
          | er g =>
            simp [hr] at h
            subst h
            simp [evL_er_take x r i g hr]
          | ok l' => simp [hr] at h

theorem evL_take_some (x : Va) : ∀ (a : List Ex) (i : Nat) (r : R (List Va)), evL a x = some r → ∃ r', evL (a.take i) x = some r' ∧ (∀ l, r' = .ok l → l.length = min i a.length)
  | [], i, r, h => ⟨.ok [], by simp [evL], by simp⟩
  | e :: a, 0, r, h => ⟨.ok [], by simp [evL], by simp⟩
  | e :: a, i + 1, r, h => by
    simp only [List.take_succ_cons, evL] at h ⊢
    cases he : evE e x with
    | none => simp [he] at h
    | some u =>
      cases u with
      | er g => exact ⟨.er g, by simp, by simp⟩
      | ok v =>
        simp only [he] at h
        cases hr : evL a x with
        | none => simp [hr] at h
        | some w =>
          obtain ⟨r', h1, h2⟩ := evL_take_some x a i w hr
          simp only [h1]
          cases r' with
          | er g => exact ⟨.er g, rfl, by simp⟩
          | ok l => exact ⟨.ok (v :: l), rfl, by intro l' hl'; simp at hl'; subst hl'; simp [h2 l rfl]⟩

theorem mkE_n {op : List UInt8} (h : op ≠ oAt) {n : Int} {l : List Va} : mkE op n l = mkE op 0 l := by
  unfold mkE
  simp only [h, if_false]

theorem mkE_one_ok {op : List UInt8} {m : Int} {a : Va} {r : R Va} (h : mkE op m [a] = some r) (h1 : op ≠ oAt) (h2 : op ≠ oTup) : ∃ u, r = .ok u := by
  obtain ⟨k, i, b, s, t⟩ := a
  simp only [mkE, h1, h2, if_false] at h
  split at h
  · exact ⟨_, (Option.some.inj h).symm⟩
  split at h
  · exact ⟨_, (Option.some.inj h).symm⟩
  split at h
  · exact ⟨_, (Option.some.inj h).symm⟩
  · exact absurd h (by simp)

theorem twoR_pur (r : R Va) : (twoR r).pur = some (twoR r) := by simp [twoR, AV.pur]

theorem chooseI_nonneg (op : List UInt8) (b : Bool) : 0 ≤ chooseI op b := by
  unfold chooseI
  split
  · omega
  · split
    · omega
    · split <;> omega

theorem evE_choose {op : List UInt8} {w : Va} {n : Int} {a : List Ex} {x : Va} {r : R Va} (hop : op = oAnd ∨ op = oOr ∨ op = oIf) (h : evE (.mk op w n a) x = some r) :
    ∃ a0 rest r0, a = a0 :: rest ∧ evE a0 x = some r0 ∧ (match r0 with
      | .er f => r = .er f
      | .ok v => (chooseI op v.truth = 0 → r = .ok v) ∧ (chooseI op v.truth ≠ 0 → ∃ e, a[(chooseI op v.truth).toNat]? = some e ∧ e ∈ a ∧ evE e x = some r)) := by
  have two : ∀ (w : Bool), ev2 w a x = some r → ∃ a0 a1 r0, a = [a0, a1] ∧ evE a0 x = some r0 ∧ (match r0 with
      | .er f => r = .er f
      | .ok v => (v.truth ≠ w → r = .ok v) ∧ (v.truth = w → evE a1 x = some r)) := by
    intro w h
    match a, h with
    | [a0, a1], h =>
      simp only [ev2] at h
      cases h0 : evE a0 x with
      | none => simp [h0] at h
      | some r0 =>
        refine ⟨a0, a1, r0, rfl, h0, ?_⟩
        cases r0 with
        | er f => simp [h0] at h; exact h.symm
        | ok v =>
          simp only [h0] at h
          refine ⟨fun hw => ?_, fun hw => ?_⟩
          · rw [if_neg hw] at h; simp at h; exact h.symm
          · rw [if_pos hw] at h; exact h
  rcases hop with rfl | rfl | rfl
  · simp [evE] at h
    obtain ⟨a0, a1, r0, rfl, h0, hf⟩ := two true h
    refine ⟨a0, [a1], r0, rfl, h0, ?_⟩
    cases r0 with
    | er f => exact hf
    | ok v =>
      simp only at hf ⊢
      cases hb : v.truth with
      | true => simp [chooseI, hf.2 hb]
      | false => simp [chooseI, hf.1 (by simp [hb])]
  · simp [evE] at h
    obtain ⟨a0, a1, r0, rfl, h0, hf⟩ := two false h
    refine ⟨a0, [a1], r0, rfl, h0, ?_⟩
    cases r0 with
    | er f => exact hf
    | ok v =>
      simp only at hf ⊢
      cases hb : v.truth with
      | true => simp [chooseI, hf.1 (by simp [hb])]
      | false => simp [chooseI, hf.2 hb]
  · simp [evE] at h
    match a, h with
    | [a0, a1, a2], h =>
      simp only [ev3] at h
      cases h0 : evE a0 x with
      | none => simp [h0] at h
      | some r0 =>
        refine ⟨a0, [a1, a2], r0, rfl, h0, ?_⟩
        cases r0 with
        | er f => simp [h0] at h; exact h.symm
        | ok v =>
          simp only [h0] at h
          simp only
          cases hb : v.truth with
          | true => simp [hb] at h; simp [chooseI, h]
          | false => simp [hb] at h; simp [chooseI, h]

end Go.Proofs.YtcdkdmjedkhpiaaDoor
