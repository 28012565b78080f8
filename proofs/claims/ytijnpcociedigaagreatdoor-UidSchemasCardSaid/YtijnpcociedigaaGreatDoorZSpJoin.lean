/- strings.Join over trees; typ.Text over trees. -/
import Derived.Test.YtijnpcociedigaaGreatDoorZJoin
import Derived.Test.YtijnpcociedigaaGreatDoorA3
import Derived.Test.YtijnpcociedigaaGreatDoorZSpMapQ
namespace Go.Proofs.YtijnpcociedigaaGreatDoor
open Go Go.RowKit Go.Abs

theorem join_spec (xs : List (List UInt8)) (sep : List UInt8) (hl : (TJ.join sep xs).length ≤ 140737488355328) (hn : xs.length ≤ 140737488355328) :
    Abs.Fn Tryz.prog 34 [] [.p (.slice (xs.map .str)), .p (.str sep)] (.p (.str (TJ.join sep xs))) [] := by
  refine fn_below (by kernel_rfl) (fun w G vs hi hv => ?_)
  obtain ⟨hsz, hv⟩ := hv
  have h0 := repA_p.1 (hv 0 _ rfl)
  have h1 := repA_p.1 (hv 1 _ rfl)
  obtain ⟨v0, v1, rfl⟩ : ∃ v0 v1, vs = #[v0, v1] := by
    obtain ⟨l⟩ := vs
    match l, hsz with
    | [a, b], _ => exact ⟨a, b, rfl⟩
  replace h0 : RepT G.rd _ v0 := h0
  replace h1 : RepT G.rd _ v1 := h1
  obtain ⟨rfl, hsep⟩ := repT_str.1 h1
  have hout : RepA G (.p (.str (TJ.join sep xs))) (.string ⟨(TJ.join sep xs).toArray⟩) := repA_p.2 (repT_str.2 ⟨rfl, by unfold maxLen; omega⟩)
  generalize hes : xs.map T.str = es at h0
  cases h0 with
  | nil a cap =>
    have : xs = [] := by simpa using hes
    subst this
    refine (Any.strings_Join_none a cap _ w).mono ?_
    rintro e w' ⟨rfl, rfl⟩
    exact ⟨_, rfl, hout, Below.refl _ _⟩
  | slice _ b o cap s val hs hr hval hk hl2 hcap =>
    by_cases hx : xs = []
    · subst hx
      simp at hes; subst hes
      refine (Any.strings_Join_none _ cap _ w).mono ?_
      rintro e w' ⟨rfl, rfl⟩
      exact ⟨_, rfl, hout, Below.refl _ _⟩
    have hs1 : s = 1 := by
      obtain ⟨x, r, rfl⟩ := List.exists_cons_of_ne_nil hx
      have := hs (.str x) (by rw [← hes]; simp)
      simpa using this.symm
    subst hs1
    subst hes
    have hcell : ∀ (j : Nat) x, xs[j]? = some x → G.rd b (o + j) = some (.string ⟨x.toArray⟩) := by
      intro j x hj
      have e1 : (xs.map T.str)[j]? = some (.str x) := by simp [hj]
      have e2 := hr j 0 (.str x) (.str x) e1 rfl
      have e3 := (repT_str.1 (hval j 0 (.str x) (.str x) e1 rfl)).1
      rw [e3] at e2
      simpa using e2
    have hlt : b < w.heap.size := by
      obtain ⟨x, r, rfl⟩ := List.exists_cons_of_ne_nil hx
      exact hi.rd_lt (hcell 0 x rfl)
    have e0 : (xs.map fun x => (⟨x.toArray⟩ : ByteArray)).map (·.data.toList) = xs := by
      rw [List.map_map]
      conv => rhs; rw [← List.map_id xs]
      rfl
    have := Any.strings_Join b o cap (xs.map fun x => ⟨x.toArray⟩) ⟨sep.toArray⟩ w (by
        intro j x hj
        simp only [List.getElem?_map, Option.map_eq_some_iff] at hj
        obtain ⟨y, hy, rfl⟩ := hj
        exact hi.rd _ _ _ (hcell j y hy)) hlt (by simpa using hn) (by simpa using hcap) (by rw [e0]; exact hl)
    rw [e0] at this
    simp only [List.length_map] at this ⊢
    refine this.mono ?_
    rintro e w' ⟨rfl, hb⟩
    exact ⟨_, rfl, hout, hb⟩

end Go.Proofs.YtijnpcociedigaaGreatDoor

