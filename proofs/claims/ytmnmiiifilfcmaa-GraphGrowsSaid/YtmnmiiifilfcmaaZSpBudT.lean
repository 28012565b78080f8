/- How great a type is, as the laws measure it. -/
import Derived.Test.YtmnmiiifilfcmaaZSpExprC
set_option linter.unusedSimpArgs false
set_option linter.unusedVariables false
namespace Go.Proofs.Ytmnmiiifilfcmaa
open Go Go.Abs

attribute [local irreducible] Abs.Fn

theorem CheckE_spec (e : Ex) (t : Ty) (he : We 1000000000 e) (hs : sizeE e ≤ 1000000000) : Abs.Fn Try.prog expr_Check_i [] [.p (encE e), .p (encT t)] (tyR (checkE e t)) [] := by
  apply expr_Check_fn
  simp [expr_Check]
  (first | refine aCall_fold rfl ?_ | refine aCallT_fold rfl ?_)
  (first | refine aCallU_p (Check_spec t) ?_ | refine aCallTU_p (Check_spec t) ?_ | refine aCallU_of (Check_spec t) ?_ | refine aCallTU_of (Check_spec t) rfl ?_ | refine aCallTU_of (Check_spec t) (by simp [AV.pur]; rfl) ?_)
  try simp
  refine ⟨fun h => tyR_gives (by simp [checkE, h, R.get, R.num]), fun h => ?_⟩
  (first | refine aCall_fold rfl ?_ | refine aCallT_fold rfl ?_)
  (first | refine aCallU_p (size_spec e hs) ?_ | refine aCallTU_p (size_spec e hs) ?_ | refine aCallU_of (size_spec e hs) ?_ | refine aCallTU_of (size_spec e hs) rfl ?_ | refine aCallTU_of (size_spec e hs) (by simp [AV.pur]; rfl) ?_)
  try simp
  refine ⟨fun h2 => tyR_gives ?_, fun h2 => ?_⟩
  · simp only [checkE]; rw [if_neg (by simpa using h), if_pos (by omega)]; simp [R.get, R.num]
  · have hc := check4_spec e t 0 (by omega) (by omega) he h
    have : checkE e t = ckE e t 0 := by simp only [checkE]; rw [if_neg (by simpa using h), if_neg (by omega)]
    rw [this]
    (first | refine aCall_fold rfl ?_ | refine aCallT_fold rfl ?_)
    (first | refine aCallU_p (hc) ?_ | refine aCallTU_p (hc) ?_ | refine aCallU_of (hc) ?_ | refine aCallTU_of (hc) rfl ?_ | refine aCallTU_of (hc) (by simp [AV.pur]; rfl) ?_)
    try simp [tyR]
    exact gives_pure (by simp [AV.pur])

mutual
def budT : Ty → Int → Int → Int
  | .mk _ of, d, l => if l ≤ 0 ∨ d ≤ 0 ∨ 20 < of.length then 0 else budTs of (d - 1) (l - 1)
def budTs : List Ty → Int → Int → Int
  | [], _, l => l
  | t :: r, d, l => if l ≤ 0 then l else budTs r d (budT t d l)
end

mutual
theorem budT_le : ∀ (t : Ty) (d l : Int), 0 ≤ l → 0 ≤ budT t d l ∧ budT t d l ≤ l
  | .mk k of, d, l, h => by
    simp only [budT]
    split
    · omega
    · have := budTs_le of (d - 1) (l - 1) (by omega)
      omega
theorem budTs_le : ∀ (r : List Ty) (d l : Int), 0 ≤ l → 0 ≤ budTs r d l ∧ budTs r d l ≤ l
  | [], d, l, h => by simp [budTs]; omega
  | e :: r, d, l, h => by
    simp only [budTs]
    split
    · omega
    · have h1 := budT_le e d l h
      have h2 := budTs_le r d (budT e d l) h1.1
      omega
end

theorem budTs_pos : ∀ (r : List Ty) (d l : Int), 0 < budTs r d l → 0 < l
  | [], d, l, h => by simpa [budTs] using h
  | e :: r, d, l, h => by
    simp only [budTs] at h
    split at h
    · omega
    · omega

theorem budTs_zero : ∀ (r : List Ty) (d l : Int), l ≤ 0 → budTs r d l = l
  | [], d, l, h => by simp [budTs]
  | v :: r, d, l, h => by simp [budTs, h]

mutual
theorem budT_small : ∀ (t : Ty) (d l : Int), 0 < budT t d l → Wd 300 t
  | .mk k of, d, l, h => by
    simp only [budT] at h
    split at h
    · omega
    · exact .mk k of (by omega) (budTs_small of (d - 1) (l - 1) h)
theorem budTs_small : ∀ (r : List Ty) (d l : Int), 0 < budTs r d l → ∀ t ∈ r, Wd 300 t
  | [], d, l, h => by simp
  | e :: r, d, l, h => by
    simp only [budTs] at h
    split at h
    · omega
    · intro x hx
      simp only [List.mem_cons] at hx
      rcases hx with rfl | hx
      · exact budT_small x d l (budTs_pos r d _ h)
      · exact budTs_small r d _ h x hx
end

def fewT (t : Ty) : Bool := decide (0 < budT t 12 300)
theorem fewT_small {t : Ty} (h : fewT t = true) : Wd 1000000000 t := (budT_small t 12 300 (by simpa [fewT] using h)).mono (by omega)

end Go.Proofs.Ytmnmiiifilfcmaa
