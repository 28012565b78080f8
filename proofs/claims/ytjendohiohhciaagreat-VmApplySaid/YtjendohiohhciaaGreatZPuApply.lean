/- What is made of an operator does what that operator does. No program in sight. -/
import Derived.Test.YtjendohiohhciaaGreatZPuComp
import Derived.Test.YtjendohiohhciaaGreatZSpTo
import Derived.Test.YtjendohiohhciaaGreatZSpGenAny
set_option linter.unusedSimpArgs false
set_option linter.unusedVariables false
namespace Go.Proofs.YtjendohiohhciaaGreat
open Go Go.Abs

theorem checkE_ck {e : Ex} {t u : Ty} (h : checkE e t = .ok u) : ckE e t 0 = .ok u ∧ sizeE e ≤ 256 := by
  unfold checkE at h
  split at h
  · simp at h
  · split at h
    · simp at h
    · exact ⟨h, by omega⟩

theorem ckL_each {t : Ty} : ∀ {a : List Ex}, (∀ e ∈ a, ∃ u, checkE e t = .ok u) → ∃ us, ckL a t 0 = .ok us
  | [], _ => ⟨[], rfl⟩
  | e :: r, h => by
    obtain ⟨u, hu⟩ := h e (by simp)
    obtain ⟨us, hus⟩ := ckL_each (t := t) (a := r) (fun e he => h e (List.mem_cons_of_mem _ he))
    exact ⟨u :: us, by simp only [ckL, (checkE_ck hu).1, hus]⟩

theorem apply_run {o : Opr} {x : Va} (hes : ∀ e ∈ o.es, ∃ u, checkE e (kindV x) = .ok u) (hx : checkV x 0 = 0) (hwe : ∀ e ∈ o.es, We 1000000000 e) (hwx : Wv 1000000000 x) (hl : o.es.length ≤ 8) (hk : o.k = 2 ∨ o.k = 3 ∨ o.k = 4) (h3 : o.k = 3 → o.es.length = 1) :
    ∃ r, applyO o x = some r ∧ RunI (genOf o.k o.es) x 0 [] [] r := by
  obtain ⟨us, hus⟩ := ckL_each hes
  obtain ⟨r, hr, hof⟩ := evL_sound o.es (kindV x) 0 x us hus ⟨hx, rfl⟩
  have hsz : sizeEs o.es ≤ 100000 := by
    have : sizeEs o.es ≤ o.es.length * 256 := sizeEs_le (fun e he => by obtain ⟨u, hu⟩ := hes e he; exact (checkE_ck hu).2)
    have := Nat.mul_le_mul_right 256 hl
    omega
  by_cases h : o.k = 3
  · match hes' : o.es, h3 h with
    | [e], _ =>
      rw [hes'] at hus hr hwe hsz
      have hlen := ckL_length _ _ _ _ hus
      match us, hlen with
      | [u], _ =>
        refine ⟨keepR x r, ?_, ?_⟩
        · simp only [applyO, h, hes', hr]
          cases r <;> rfl
        · rw [h]
          exact genOf_run_filter hus ⟨hx, rfl⟩ (hwe e (by simp)) hwx (by simp only [sizeEs] at hsz; omega) hr
  · refine ⟨r, ?_, genOf_run_map (by omega) hus ⟨hx, rfl⟩ hwe hwx hsz hr⟩
    simp only [applyO]
    rw [if_pos (by omega), hr]

theorem key_run {e : Ex} {x : Va} {u : Ty} (hc : checkE e (kindV x) = .ok u) (hx : checkV x 0 = 0) (hwe : We 1000000000 e) (hwx : Wv 1000000000 x) : ∃ r, evE e x = some r ∧ RunI (genKey e) x 0 [] [] (oneR r) := by
  obtain ⟨h1, h2⟩ := checkE_ck hc
  obtain ⟨r, hr, _⟩ := evE_sound e (kindV x) 0 x u h1 ⟨hx, rfl⟩
  exact ⟨r, hr, genKey_run h1 ⟨hx, rfl⟩ hwe hwx (by omega) hr⟩

theorem apply_wv {o : Opr} {x : Va} {l : List Va} (h : applyO o x = some (.ok l)) (hwe : ∀ e ∈ o.es, We 1000000000 e) (hwx : Wv 1000000000 x) : ∀ v ∈ l, Wv 1000000000 v := by
  unfold applyO at h
  split at h
  · exact evL_wv (by omega) o.es x l hwe hwx h
  · have hone : ∀ v ∈ [x], Wv 1000000000 v := by simpa using hwx
    split at h
    · split at h
      · simp at h
      · simp at h
      · simp only [Option.some.injEq, R.ok.injEq] at h
        subst h
        split
        · exact hone
        · simp
    · simp only [Option.some.injEq, R.ok.injEq] at h
      subst h
      exact hone

end Go.Proofs.YtjendohiohhciaaGreat
