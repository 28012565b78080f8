/- The document's machine runs a program. -/
import Derived.Test.YtcdkdmjedkhpiaaDoorZPuVm
import Derived.Test.YtcdkdmjedkhpiaaDoorZSpEvalC
import Derived.Test.YtcdkdmjedkhpiaaDoorZSpGen
import Derived.Test.YtcdkdmjedkhpiaaDoorA3
import Derived.Test.YtcdkdmjedkhpiaaDoorS3
set_option linter.unusedSimpArgs false
set_option linter.unusedVariables false
namespace Go.Proofs.YtcdkdmjedkhpiaaDoor
open Go Go.Abs

attribute [local irreducible] Abs.Fn

/-- How many values any op takes. -/
def tkV (op : List UInt8) (n : Int) : Int := if op = oPush ∨ op = oX ∨ op = oJmp ∨ op = oRet' then 0 else if op = oTup ∨ op = oEmit' then n else if op = oAt ∨ op = oNeg ∨ op = oNot ∨ op = oLen ∨ op = oJf then 1 else 2

theorem takes_spec (i : In) : Abs.Fn Tryd.prog runnelref14_takes_i [] [.p (encI i)] (.p (.int .i64 (tkV i.op i.n))) [] := by
  apply runnelref14_takes_fn
  simp [runnelref14_takes, encI_eta]
  refine ⟨fun h => ?_, fun h1 h2 h3 h4 => ⟨fun h => ?_, fun h5 h6 => ⟨fun h => ?_, fun h7 h8 h9 h10 h11 => ?_⟩⟩⟩
  all_goals refine gives_p (congrArg (T.int .i64) ?_)
  · exact (if_pos h).symm
  · exact ((if_neg (fun h => by rcases h with h | h | h | h <;> contradiction)).trans (if_pos h)).symm
  · exact ((if_neg (fun h => by rcases h with h | h | h | h <;> contradiction)).trans ((if_neg (fun h => by rcases h with h | h <;> contradiction)).trans (if_pos h))).symm
  · exact ((if_neg (fun h => by rcases h with h | h | h | h <;> contradiction)).trans ((if_neg (fun h => by rcases h with h | h <;> contradiction)).trans (if_neg (fun h => by rcases h with h | h | h | h | h <;> contradiction)))).symm

theorem wrapLen {n : Nat} (h : n ≤ maxLen) : IntKind.i64.wrap (n : Int) = n := IntWalk.i64_in _ (by simp only [maxLen] at h; omega)

theorem encV5' (l : List Va) : ∀ e ∈ l.map encV, e.cells.length = 5 := fun e he => by
  obtain ⟨y, _, rfl⟩ := List.mem_map.1 he
  simp

theorem takeAll (s : List Va) : List.take s.length (List.map encV s) = List.map encV s := List.take_of_length_le (by simp)
theorem dropAll (s : List Va) : List.drop s.length (List.map encV s) = [] := List.drop_of_length_le (by simp)
theorem takeFst (s t : List Va) : List.take s.length (List.map encV s ++ t.map encV) = List.map encV s := by rw [List.take_append_of_le_length (by simp)]; exact takeAll s
theorem dropSnd (s : List Va) (ts : List T) : List.drop s.length (List.map encV s ++ ts) = ts := by rw [List.drop_append_of_le_length (by simp), List.drop_of_length_le (by simp)]; rfl

theorem toNatAdd (a b : Nat) : ((a : Int) + b).toNat = a + b := by omega
theorem dropTake (s t : List Va) : List.drop s.length (List.take (s.length + t.length) (List.map encV s ++ List.map encV t)) = List.map encV t := by
  rw [List.take_of_length_le (by simp)]
  exact dropSnd s _
theorem get5 (s t : List Va) (h : (s.length : Int) < s.length + t.length) : ((List.map encV s ++ List.map encV t)[s.length]?.getD default).cells.length = 5 := by
  have hl : s.length < (List.map encV s ++ List.map encV t).length := by simp; omega
  rw [List.getElem?_eq_getElem hl]
  rcases List.mem_append.1 (List.getElem_mem hl) with h | h
  · exact encV5' _ _ h
  · exact encV5' _ _ h

theorem tk_ar {op : List UInt8} {n : Int} {k : Nat} (q1 : op ≠ oPush) (q2 : op ≠ oX) (q3 : op ≠ oEmit') (hp : op ≠ oRet' ∧ op ≠ oJmp ∧ op ≠ oJf) (h0 : op = oTup → 0 ≤ n) (hl : k = arV op n) : tkV op n = k := by
  subst hl
  unfold tkV arV
  rw [if_neg (fun h => by rcases h with h | h | h | h <;> first | exact q1 h | exact q2 h | exact hp.2.1 h | exact hp.1 h)]
  by_cases ht : op = oTup
  · rw [if_pos (.inl ht), if_pos ht]
    have := h0 ht
    omega
  · rw [if_neg (fun h => h.elim ht q3), if_neg ht]
    by_cases h1 : op = oAt ∨ op = oNeg ∨ op = oNot ∨ op = oLen
    · rw [if_pos h1, if_pos (by rcases h1 with h | h | h | h <;> simp [h])]; rfl
    · rw [if_neg h1, if_neg (fun h => by rcases h with h | h | h | h | h <;> first | exact hp.2.2 h | exact h1 (by simp [h]))]; rfl

end Go.Proofs.YtcdkdmjedkhpiaaDoor
