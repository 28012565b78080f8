/- Are rows of values the document's? -/
import Derived.Test.YtondmcnmdooonaaZSpValB
import Derived.Test.YtondmcnmdooonaaZSpDec
import Derived.Test.YtondmcnmdooonaaZSpVal
import Derived.Test.YtondmcnmdooonaaS1
set_option linter.unusedSimpArgs false
set_option linter.unusedVariables false
namespace Go.Proofs.Ytondmcnmdooonaa
open Go Go.Abs

attribute [local irreducible] Abs.Fn

def sameVs : List Va → List Va → Bool
  | [], [] => true
  | x :: xs, y :: ys => decide (cmpV x y = 0) && sameVs xs ys
  | _, _ => false

theorem sameVs_drop (a b : List Va) (i : Nat) (ha : i < a.length) (hb : i < b.length) : sameVs (a.drop i) (b.drop i) = (decide (cmpV a[i] b[i] = 0) && sameVs (a.drop (i + 1)) (b.drop (i + 1))) := by
  rw [List.drop_eq_getElem_cons ha, List.drop_eq_getElem_cons hb]
  rfl
theorem sameVs_len {a b : List Va} (h : a.length ≠ b.length) : sameVs a b = false := by
  induction a generalizing b with
  | nil => cases b <;> simp_all [sameVs]
  | cons x xs ih => cases b with
    | nil => rfl
    | cons y ys => simp only [sameVs, Bool.and_eq_false_iff]; exact .inr (ih (by simpa using h))
theorem sameVs_self (a : List Va) : sameVs a a = true := by
  induction a with
  | nil => rfl
  | cons x xs ih => simp [sameVs, cmpV_self, ih]

theorem SameAll_spec (a b : List Va) (hw : ∀ v ∈ a, Wv 1000000000 v) : Abs.Fn Try.prog runnellaw2_SameAll_i [] [.p (.slice (a.map encV)), .p (.slice (b.map encV))] (.p (.bool (sameVs a b))) [] := by
  apply runnellaw2_SameAll_fn
  simp [runnellaw2_SameAll]
  intro _ _
  refine ⟨fun h => gives_p (by rw [sameVs_len (by omega)]), fun hl => ?_⟩
  refine loop_by (σ := Nat) (n := 0) (fun i => [.p (.int .i64 i)]) (fun _ => []) (fun i => i ≤ a.length ∧ sameVs (a.drop i) (b.drop i) = sameVs a b) (fun i => a.length - i) [] 0 (fun _ => rfl) ⟨rfl, rfl⟩ (by simp) (fun i B hi hB => ?_)
  obtain ⟨h1, h2⟩ := hi
  simp [runnellaw2_SameAll_L1]
  intro _
  refine ⟨fun hlt => ?_, fun hge => ?_⟩
  · have hd := sameVs_drop a b i hlt (by omega)
    rw [h2] at hd
    have ho := of2_spec (hw a[i] (by simp))
    have hsm := SameR_spec a[i] b[i]
    simp only [encV_eta] at ho hsm
    have hib : i < b.length := by omega
    simp [hlt, hib]
    refine aCallT_of rfl ho rfl ?_
    simp [hlt, hib]
    refine aCallT_of rfl hsm rfl ?_
    simp
    refine ⟨fun hz => gives_p (by rw [hd]; simp [hz]), fun hz => ?_⟩
    rw [IntWalk.i64_in _ (by simp [maxLen] at *; omega)]
    exact hB (i + 1) _ ⟨by omega, by rw [hd]; simp [hz]⟩ (by omega) (by simp) (by simp) (by simp) (by simp [AV.under, AV.under1])
  · have : i = a.length := by omega
    subst this
    have hb : b.length = a.length := by omega
    rw [List.drop_length, ← hb, List.drop_length] at h2
    exact gives_p (by rw [← h2]; rfl)

end Go.Proofs.Ytondmcnmdooonaa
