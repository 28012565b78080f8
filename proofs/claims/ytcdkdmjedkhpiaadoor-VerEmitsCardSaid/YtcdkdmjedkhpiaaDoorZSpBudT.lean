/- How great a type is, as the laws measure it. -/
import Derived.Test.YtcdkdmjedkhpiaaDoorZSpExprC
set_option linter.unusedSimpArgs false
set_option linter.unusedVariables false
namespace Go.Proofs.YtcdkdmjedkhpiaaDoor
open Go Go.Abs

attribute [local irreducible] Abs.Fn

mutual
def budT : Ty → Int → Int → Int
  | .mk _ of, d, l => if l ≤ 0 ∨ d ≤ 0 ∨ 20 < of.length then 0 else budTs of (d - 1) (l - 1)
def budTs : List Ty → Int → Int → Int
  | [], _, l => l
  | t :: r, d, l => if l ≤ 0 then l else budTs r d (budT t d l)
end

mutual
theorem budT_le : ∀ (t : Ty) (d l : Int), 0 ≤ l → 0 ≤ budT t d l ∧ budT t d l ≤ l
  | .mk k of, d, l, h => by
    simp only [budT]
    split
    · omega
    · have := budTs_le of (d - 1) (l - 1) (by omega)
      omega
theorem budTs_le : ∀ (r : List Ty) (d l : Int), 0 ≤ l → 0 ≤ budTs r d l ∧ budTs r d l ≤ l
  | [], d, l, h => by simp [budTs]; omega
  | e :: r, d, l, h => by
    simp only [budTs]
    split
    · omega
    · have h1 := budT_le e d l h
      have h2 := budTs_le r d (budT e d l) h1.1
      omega
end

theorem budTs_pos : ∀ (r : List Ty) (d l : Int), 0 < budTs r d l → 0 < l
  | [], d, l, h => by simpa [budTs] using h
  | e :: r, d, l, h => by
    simp only [budTs] at h
    split at h
    · omega
    · omega

theorem budTs_zero : ∀ (r : List Ty) (d l : Int), l ≤ 0 → budTs r d l = l
  | [], d, l, h => by simp [budTs]
  | v :: r, d, l, h => by simp [budTs, h]

mutual
theorem budT_small : ∀ (t : Ty) (d l : Int), 0 < budT t d l → Wd 300 t
  | .mk k of, d, l, h => by
    simp only [budT] at h
    split at h
    · omega
    · exact .mk k of (by omega) (budTs_small of (d - 1) (l - 1) h)
theorem budTs_small : ∀ (r : List Ty) (d l : Int), 0 < budTs r d l → ∀ t ∈ r, Wd 300 t
  | [], d, l, h => by simp
  | e :: r, d, l, h => by
    simp only [budTs] at h
    split at h
    · omega
    · intro x hx
      simp only [List.mem_cons] at hx
      rcases hx with rfl | hx
      · exact budT_small x d l (budTs_pos r d _ h)
      · exact budTs_small r d _ h x hx
end

theorem budT_spec : ∀ (t : Ty) (d l : Int) (_ : 0 ≤ d) (_ : d ≤ 100) (_ : 0 ≤ l) (_ : l ≤ 1000), Abs.Fn Tryd.prog runnellaw1_budget_i [] [.p (encT t), .p (.int .i64 d), .p (.int .i64 l)] (.p (.int .i64 (budT t d l))) []
  | .mk k of, d, l, hd0, hd1, hl0, hl1 => by
    apply runnellaw1_budget_fn
    simp [runnellaw1_budget]
    refine ⟨fun h => gives_p (by simp only [budT]; grind), fun h1 h2 h3 => ?_⟩
    rw [IntWalk.i64_in _ (by omega)]
    have he : budT (.mk k of) d l = budTs of (d - 1) (l - 1) := by
      simp only [budT]
      rw [if_neg (by omega)]
    rw [he]
    refine loop_by (σ := Nat × Int) (n := 1) (fun q => [.p (.int .i64 q.2), .p (.int .i64 q.1)]) (fun q => [.box [.p (.int .i64 k), .p (.slice (of.map encT))]])
      (fun q => q.1 ≤ of.length ∧ 0 ≤ q.2 ∧ q.2 ≤ 1000 ∧ budTs (of.drop q.1) (d - 1) q.2 = budTs of (d - 1) (l - 1)) (fun q => of.length - q.1) [] (0, l - 1) (fun _ => rfl) ⟨rfl, rfl⟩ ⟨by simp, by simp; omega, by simp; omega, by simp⟩ (fun q B hq hB => ?_)
    obtain ⟨j, m⟩ := q
    obtain ⟨g1, g2, g3, g4⟩ := hq
    simp only at g1 g2 g3 g4
    simp [runnellaw1_budget_L1]
    intro _
    refine ⟨fun hlt hm0 => ?_, fun hx => gives_p ?_⟩
    · have hm : of[j] ∈ of := by simp
      have hle := budT_le of[j] (d - 1) m g2
      rw [List.drop_eq_getElem_cons hlt, budTs, if_neg (by omega)] at g4
      simp [hlt]
      rw [IntWalk.i64_in _ (by omega)]
      (first | refine aCall_fold rfl ?_ | refine aCallT_fold rfl ?_)
      (first | refine aCallU_p (budT_spec of[j] (d - 1) m (by omega) (by omega) g2 g3) ?_ | refine aCallTU_p (budT_spec of[j] (d - 1) m (by omega) (by omega) g2 g3) ?_ | refine aCallU_of (budT_spec of[j] (d - 1) m (by omega) (by omega) g2 g3) ?_ | refine aCallTU_of (budT_spec of[j] (d - 1) m (by omega) (by omega) g2 g3) rfl ?_ | refine aCallTU_of (budT_spec of[j] (d - 1) m (by omega) (by omega) g2 g3) (by simp [AV.pur]; rfl) ?_)
      try simp
      rw [IntWalk.i64_in _ (by omega)]
      exact hB (j + 1, budT of[j] (d - 1) m) _ ⟨by simp; omega, by simp; omega, by simp; omega, g4⟩ (by simp; omega) (by simp) (by simp [Ob.below, AV.under1]) (by simp) (by simp [AV.under, AV.under1])
    · rcases Nat.lt_or_ge j of.length with hlt | hge
      · have := hx hlt
        rw [← g4, budTs_zero _ _ _ (by omega)]
      · rw [← g4, List.drop_of_length_le hge]
        simp [budTs]
termination_by t => SizeOf.sizeOf t
decreasing_by
  have := List.sizeOf_lt_of_mem hm
  simp
  omega

def fewT (t : Ty) : Bool := decide (0 < budT t 12 300)
theorem fewT_small {t : Ty} (h : fewT t = true) : Wd 1000000000 t := (budT_small t 12 300 (by simpa [fewT] using h)).mono (by omega)

theorem few1_spec (t : Ty) : Abs.Fn Tryd.prog runnellaw1_Few_i [] [.p (encT t)] (.p (.bool (fewT t))) [] := by
  apply runnellaw1_Few_fn
  simp [runnellaw1_Few]
  (first | refine aCall_fold rfl ?_ | refine aCallT_fold rfl ?_)
  (first | refine aCallU_p (budT_spec _ 12 300 (by omega) (by omega) (by omega) (by omega)) ?_ | refine aCallTU_p (budT_spec _ 12 300 (by omega) (by omega) (by omega) (by omega)) ?_ | refine aCallU_of (budT_spec _ 12 300 (by omega) (by omega) (by omega) (by omega)) ?_ | refine aCallTU_of (budT_spec _ 12 300 (by omega) (by omega) (by omega) (by omega)) rfl ?_ | refine aCallTU_of (budT_spec _ 12 300 (by omega) (by omega) (by omega) (by omega)) (by simp [AV.pur]; rfl) ?_)
  try simp
  exact gives_p (by simp [fewT])

end Go.Proofs.YtcdkdmjedkhpiaaDoor
