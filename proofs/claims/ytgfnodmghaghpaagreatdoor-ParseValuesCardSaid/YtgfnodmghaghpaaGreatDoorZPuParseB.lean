/- Which expressions are read back. No program in sight. -/
import Derived.Test.YtgfnodmghaghpaaGreatDoorZPuParse
import Derived.Test.YtgfnodmghaghpaaGreatDoorZSpRowEQ
import Derived.Test.YtgfnodmghaghpaaGreatDoorZSpOkG
import Derived.Test.YtgfnodmghaghpaaGreatDoorZSpExprCQ
set_option linter.unusedSimpArgs false
set_option linter.unusedVariables false
namespace Go.Proofs.YtgfnodmghaghpaaGreatDoor
open Go Go.Abs

theorem budEs_mem : ∀ (r : List Ex) (d l : Int), 0 < budEs r d l → ∀ e ∈ r, ∃ l', 0 < budE e d l'
  | [], d, l, h, e, he => by simp at he
  | x :: r, d, l, h, e, he => by
    simp only [budEs] at h
    split at h
    · omega
    · rcases List.mem_cons.1 he with rfl | he
      · exact ⟨l, budEs_pos r d _ h⟩
      · exact budEs_mem r d _ h e he

theorem okP_of : ∀ (e : Ex) (t : Ty) (d : Int) (u : Ty) (b l : Int), ckE e t d = .ok u → checkT t 0 = 0 → RgE e → 0 < budE e b l → OkP d e
  | .mk op v n a, t, d, u, b, l, h, ht, hr, hb => by
    obtain ⟨_, _, _, _, hop, hv, hn64, ha, hro⟩ := hr
    rw [ckE_unfold] at h
    simp only [budE] at hb
    split at hb
    · omega
    rename_i hbc
    have hfew : fewV v = true := by
      cases hf : fewV v with
      | true => rfl
      | false => exact absurd (.inr (.inr (.inr (.inr hf)))) hbc
    by_cases h0 : arE op = -2
    · simp [h0] at h
    rw [if_neg h0] at h
    by_cases hd : 12 < d
    · simp [hd] at h
    rw [if_neg hd] at h
    by_cases hf : fieldsE op v n a.length = false
    · simp [hf] at h
    rw [if_neg hf] at h
    have hf' : fieldsE op v n a.length = true := by simpa using hf
    rw [fieldsE_eq] at hf'
    simp only [Bool.and_eq_true, Bool.or_eq_true, decide_eq_true_eq] at hf'
    obtain ⟨⟨f1, f2⟩, f3⟩ := hf'
    by_cases hl : op = oLit
    · subst hl
      rw [if_pos rfl] at h
      have hck : checkV v 0 = 0 := by
        by_cases hc : checkV v 0 = 0
        · exact hc
        · simp [hc] at h
      have hn : n = 0 := by
        rcases f2 with h | h
        · exact absurd h (by decide)
        · exact h
      have hal : a = [] := by
        rw [show arE oLit = 0 from by decide] at f1
        simp at f1
        exact f1
      subst hn hal
      exact .lit d v (by omega) hck hv (fewV_text hfew hv) ((fewV_small hfew).mono (by omega))
    · rw [if_neg hl] at h
      have hz : v = zeroV := by
        rcases f3 with h | h
        · exact absurd h hl
        · exact nilV_iff.1 h
      subst hz
      by_cases hx : op = oX
      · subst hx
        have hn : n = 0 := by
          rcases f2 with h | h
          · exact absurd h (by decide)
          · exact h
        have hal : a = [] := by
          rw [show arE oX = 0 from by decide] at f1
          simp at f1
          exact f1
        subst hn hal
        exact .x d (by omega)
      · rw [if_neg hx] at h
        cases hL : ckL a t (d + 1) with
        | er e => rw [hL] at h; simp at h
        | ok us =>
          rw [hL] at h
          simp only at h
          refine .op d op n a (by omega) h0 hl hx (fun hat => ?_) (fun hat => ?_) ?_ (fun e he => ?_)
          · subst hat
            simp only [opT, if_pos] at h
            cases us with
            | nil => simp at h
            | cons t0 us =>
              simp only at h
              split at h
              · simp at h
              split at h
              · simp at h
              rename_i hk hnn
              have : t0.of.length ≤ 8 := by
                cases a with
                | nil => simp [ckL] at hL
                | cons e0 a =>
                  simp only [ckL] at hL
                  cases he0 : ckE e0 t (d + 1) with
                  | er _ => rw [he0] at hL; simp at hL
                  | ok u0 =>
                    rw [he0] at hL
                    simp only at hL
                    cases hr0 : ckL a t (d + 1) with
                    | er _ => rw [hr0] at hL; simp at hL
                    | ok l0 =>
                      rw [hr0] at hL
                      simp at hL
                      obtain ⟨rfl, _⟩ := hL
                      exact checkT_of (ckE_valid e0 t (d + 1) u0 he0 ht)
              omega
          · rcases f2 with h | h
            · exact absurd h hat
            · exact h
          · split at f1
            · simp at f1; omega
            · simp at f1
              rcases arE_cases op with h | h | h | h | h | h <;> omega
          · obtain ⟨u', hu⟩ := ckL_all t (d + 1) a us hL e he
            obtain ⟨l', hl'⟩ := budEs_mem a (b - 1) (l - 1) hb e he
            exact okP_of e t (d + 1) u' (b - 1) l' hu ht (hro e he) hl'
termination_by e => SizeOf.sizeOf e
decreasing_by
  have := List.sizeOf_lt_of_mem he
  simp
  omega

theorem okP_check {e : Ex} {t u : Ty} (h : checkE e t = .ok u) (hf : fewE e = true) (hr : RgE e) : OkP 0 e := by
  unfold checkE at h
  split at h
  · simp at h
  split at h
  · simp at h
  rename_i ht _
  exact okP_of e t 0 u 20 400 h (by simpa using ht) hr (by simpa [fewE] using hf)

/-- A value that the second law asks for: its text is short. -/
theorem textV_short : ∀ (v : Va) (d : Int), checkV v d = 0 → RgV v → v.k ≠ 4 → (textV v).length ≤ 1000
  | .mk k i b s t, d, h, hr, h4 => by
    obtain ⟨_, _, _, _, _, hk, hi, hs, ht, ho⟩ := hr
    have h4' : ¬ k = 4 := h4
    have hi := itoa_len hi
    have hq := quote_len s
    have hs255 : s.length ≤ 255 := by
      simp only [checkV] at h
      split at h
      · omega
      split at h
      · omega
      split at h
      · omega
      · omega
    simp only [textV]
    split
    · omega
    split
    · split <;> simp
    split
    · omega
    · rename_i h1 h2 h3
      simp only [checkV] at h
      split at h
      · omega
      · omega

theorem lens_short : ∀ (l : List Va), (∀ v ∈ l, (textV v).length ≤ 1000) → TJ.lens (l.map textV) ≤ 1000 * l.length
  | [], _ => by simp [TJ.lens]
  | v :: r, h => by
    have h1 := h v (by simp)
    have h2 := lens_short r (fun x hx => h x (by simp [hx]))
    simp only [List.map_cons, TJ.lens, List.length_cons]
    omega

theorem textV_fits {v : Va} (h : checkV v 0 = 0) (hr : RgV v) (hg : ∀ x ∈ v.t, x.t = []) : (textV v).length ≤ 10000 ∧ Wv 1000000 v := by
  obtain ⟨k, i, b, s, t⟩ := v
  have hg : ∀ x ∈ t, x.t = [] := hg
  rcases good_cases h with ⟨rfl, rfl, rfl, rfl⟩ | ⟨rfl, rfl, rfl, rfl⟩ | ⟨rfl, rfl, rfl, rfl, hsl⟩ | ⟨rfl, rfl, rfl, rfl, hrow, hck⟩
  · have := textV_short _ 0 h hr (by simp [Va.k])
    exact ⟨by omega, .mk _ _ _ _ _ (by simp) (by simp) (by simp)⟩
  · have := textV_short _ 0 h hr (by simp [Va.k])
    exact ⟨by omega, .mk _ _ _ _ _ (by simp) (by simp) (by simp)⟩
  · have := textV_short _ 0 h hr (by simp [Va.k])
    exact ⟨by omega, .mk _ _ _ _ _ (by omega) (by simp) (by simp)⟩
  · have hlen : t.length ≤ 8 := by
      unfold rowE at hrow
      repeat' split at hrow
      all_goals omega
    obtain ⟨_, _, _, _, _, hk, hi, hs, ht, ho⟩ := hr
    have hx : ∀ x ∈ t, x.k ≠ 4 ∧ checkV x 1 = 0 ∧ x.s.length ≤ 255 := fun x hx => by
      have hc := checkVs_zero.1 hck x hx
      have hxt := hg x hx
      obtain ⟨k', i', b', s', t'⟩ := x
      have hxt : t' = [] := hxt
      subst hxt
      rcases good_cases hc with ⟨rfl, rfl, rfl, _⟩ | ⟨rfl, rfl, rfl, _⟩ | ⟨rfl, rfl, rfl, _, hsl⟩ | ⟨rfl, rfl, rfl, rfl, hrow', _⟩
      · exact ⟨by simp [Va.k], hc, by simp [Va.s]⟩
      · exact ⟨by simp [Va.k], hc, by simp [Va.s]⟩
      · exact ⟨by simp [Va.k], hc, hsl⟩
      · simp [rowE] at hrow'
    have hsh := lens_short t (fun x h1 => textV_short x 1 (hx x h1).2.1 (ho x h1) (hx x h1).1)
    refine ⟨?_, .mk _ _ _ _ _ (by simp) (by omega) (fun x h1 => ?_)⟩
    · simp only [textV, textVs_eq]
      rw [if_neg (by decide), if_neg (by decide), if_neg (by decide)]
      simp only [List.length_cons, List.length_append, List.length_nil]
      cases hm : t.map textV with
      | nil => simp [TJ.join]
      | cons x r =>
        rw [TJ.join_length]
        have e1 : (t.map textV).length = t.length := by simp
        rw [hm] at e1 hsh
        simp only [List.length_cons, List.length_nil] at e1 ⊢
        omega
    · have h2 := (hx x h1).2.2
      have h3 := hg x h1
      obtain ⟨k', i', b', s', t'⟩ := x
      have h3 : t' = [] := h3
      have h2 : s'.length ≤ 255 := h2
      subst h3
      exact .mk _ _ _ _ _ (by omega) (by simp) (by simp)

end Go.Proofs.YtgfnodmghaghpaaGreatDoor
