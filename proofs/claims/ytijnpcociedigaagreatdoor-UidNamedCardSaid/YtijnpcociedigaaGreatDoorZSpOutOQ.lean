/- An operator as the document's, as short. -/
import Derived.Test.YtijnpcociedigaaGreatDoorZSpOut
import Derived.Test.YtijnpcociedigaaGreatDoorZPuOp
import Derived.Test.YtijnpcociedigaaGreatDoorS1

section
/- An operator as the document's, as short. -/
set_option linter.unusedSimpArgs false
set_option linter.unusedVariables false
namespace Go.Proofs.YtijnpcociedigaaGreatDoor
open Go Go.Abs

attribute [local irreducible] Abs.Fn

/- An operator there and back. -/
theorem of7_spec {o : Opr} (ht : Wd 1000000000 o.t) (hk : We 1000000000 o.key) (hes : ∀ e ∈ o.es, We 1000000000 e) (hl : o.es.length ≤ 1000000) : Abs.Fn Tryz.prog runnellaw7_Of_i [] [.p (encO o)] (.p (encO o)) [] := by
  have h1 := of1_spec ht
  have h4 := of4_spec hk
  simp only [encT_eta, encE_eta] at h1 h4
  apply runnellaw7_Of_fn
  simp [runnellaw7_Of]
  refine aCallT_of rfl h1 rfl ?_
  simp
  refine aCallT_of rfl h4 rfl ?_
  simp
  refine loop_by (σ := Nat) (n := 4) (fun i => [.p (.int .i64 i)]) (fun i => [.box (boxO o), .box [.p (.int .i64 0), .p (.str []), .p (.int .i64 0), .full [], .full [], .p (.str []), .p (.int .i64 0), .p (.int .i64 0), .p (.bool false), .p (.str []), .full [], .p (.int .i64 0), .full [], .p (.int .i64 0), .p (.int .i64 0)],
      .box ((boxO o).set 4 (.own 3 ((o.es.map encE).take i))), .row i 8])
    (fun i => i ≤ o.es.length) (fun i => o.es.length - i) [.cell 2 4 8] 0 (fun _ => rfl) (by simp [ghosts, ghost]) (by simp) (fun i B hi hB => ?_)
  simp [runnellaw7_Of_L1]
  intro _
  refine ⟨fun hlt => ?_, fun hge => ?_⟩
  · have hfo := of4_spec (hes o.es[i] (by simp))
    simp only [encE_eta] at hfo
    simp [hlt]
    refine aCallT_of rfl hfo rfl ?_
    simp
    refine ⟨by omega, ⟨encE_sizeT _ _, by simp, by simp; omega⟩, ?_⟩
    rw [IntWalk.i64_in _ (by omega)]
    have := take_snoc (l := o.es.map encE) (i := i) (by simpa using hlt)
    simp only [List.getElem_map, encE_eta] at this
    rw [this]
    exact hB (i + 1) _ (by omega) (by omega) (by simp) (by simp [Ob.below, AV.under1]) (by simp) (by simp [AV.under, AV.under1])
  · rw [List.take_of_length_le (by simpa using hge)]
    exact gives_pure (by simp [AV.pur, Function.comp_def])

/-- Is it short? -/
def fewO (o : Opr) : Bool := decide (o.name.length ≤ 50) && fewT o.t && decide (o.es.length ≤ 8) && fewE o.key && o.es.all fewE

theorem few7_spec (o : Opr) : Abs.Fn Tryz.prog runnellaw7_Few_i [] [.p (encO o)] (.p (.bool (fewO o))) [] := by
  have h1 := few1_spec o.t
  have h4 := few4_spec o.key
  simp only [encT_eta, encE_eta] at h1 h4
  apply runnellaw7_Few_fn
  simp [runnellaw7_Few]
  intro _
  refine aMerge_intro (!fewT o.t) (fun _ => ?_) ?_
  · refine aCallW_of rfl rfl h1 ?_
    simp
  simp
  refine aMerge_intro (!fewE o.key) (fun _ => ?_) ?_
  · refine aCallW_of rfl rfl h4 ?_
    simp
  simp
  refine ⟨fun h => gives_p ?_, fun q1 q2 q3 q4 => ?_⟩
  · have : fewO o = false := by
      simp only [fewO]
      grind
    rw [this]
  · have hf : fewO o = o.es.all fewE := by simp only [fewO]; simp; grind
    rw [hf]
    refine loop_by (σ := Nat) (n := 1) (fun i => [.p (.int .i64 i)]) (fun i => [.box (boxO o)]) (fun i => i ≤ o.es.length ∧ (o.es.drop i).all fewE = o.es.all fewE) (fun i => o.es.length - i) [] 0 (fun _ => rfl) ⟨rfl, by simp⟩ (by simp) (fun i B hi hB => ?_)
    obtain ⟨g1, g2⟩ := hi
    generalize hA : o.es.all fewE = A at *
    simp [runnellaw7_Few_L1]
    intro _
    refine ⟨fun hlt => ?_, fun hge => ?_⟩
    · have hd := all_drop fewE o.es i hlt
      have hfe := few4_spec o.es[i]
      simp only [encE_eta] at hfe
      rw [g2] at hd
      simp [hlt]
      refine aCallW_of rfl rfl hfe ?_
      simp
      refine ⟨fun hz => gives_p (by rw [hd, hz]; rfl), fun hz => ?_⟩
      rw [IntWalk.i64_in _ (by omega)]
      exact hB (i + 1) _ ⟨by omega, by rw [hd, hz]; rfl⟩ (by omega) (by simp) (by simp [Ob.below, AV.under1]) (by simp) (by simp [AV.under, AV.under1])
    · rw [List.drop_of_length_le hge] at g2
      exact gives_p (by rw [← g2]; rfl)

end Go.Proofs.YtijnpcociedigaaGreatDoor
end

section
/- What an operator that may be has. -/
set_option linter.unusedSimpArgs false
set_option linter.unusedVariables false
namespace Go.Proofs.YtijnpcociedigaaGreatDoor
open Go Go.Abs

attribute [local irreducible] Abs.Fn

theorem ckO_all (t : Ty) : ∀ (a : List Ex) (l : List Ty), ckO t a = .ok l → ∀ e ∈ a, ∃ u, checkE e t = .ok u
  | [], l, h, e, he => by simp at he
  | x :: r, l, h, e, he => by
    simp only [ckO] at h
    cases hx : checkE x t with
    | er f => rw [hx] at h; simp at h
    | ok u =>
      rw [hx] at h
      simp only at h
      cases hr : ckO t r with
      | er f => rw [hr] at h; simp at h
      | ok m =>
        rcases List.mem_cons.1 he with rfl | he
        · exact ⟨u, hx⟩
        · exact ckO_all t r m hr e he

theorem fieldsO_len {o : Opr} (h : fieldsO o = true) : (o.k = 2 ∨ o.k = 3 ∨ o.k = 5 → o.es.length = 1) ∧ (o.k = 4 → 1 ≤ o.es.length ∧ o.es.length ≤ 4) ∧ (¬ (o.k = 2 ∨ o.k = 3 ∨ o.k = 5) → o.k ≠ 4 → o.es = []) := by
  simp only [fieldsO, Bool.and_eq_true] at h
  have := h.1.1.1.2
  refine ⟨fun hk => ?_, fun hk => ?_, fun h1 h2 => ?_⟩
  · rw [if_pos hk] at this; simpa using this
  · rw [if_neg (by omega), if_pos hk] at this; simpa using this
  · rw [if_neg h1, if_neg h2] at this; simpa using this

/-- What an operator that may be has. -/
theorem outO_ok {o : Opr} {ins : List Ty} {r : Ty} (h : outO o ins = .ok r) : fieldsO o = true ∧ insO o.k ins.length = true ∧ (1 ≤ o.k ∧ o.k ≤ 9) ∧ (∀ e ∈ o.es, ∃ u, checkE e (ins.getD 0 (.mk 0 [])) = .ok u) ∧ (keyedO o.k = true → ∃ u, checkE o.key (ins.getD 0 (.mk 0 [])) = .ok u) := by
  unfold outO at h
  by_cases h1 : o.k < 1 ∨ 9 < o.k
  · rw [if_pos h1] at h; simp at h
  rw [if_neg h1] at h
  by_cases h2 : (o.k = 1 ∨ o.k = 9) ∧ nameS o.name = false
  · rw [if_pos h2] at h; simp at h
  rw [if_neg h2] at h
  by_cases h3 : fieldsO o = false ∨ insO o.k ins.length = false
  · rw [if_pos h3] at h; simp at h
  rw [if_neg h3] at h
  have hf : fieldsO o = true := by cases hh : fieldsO o <;> simp_all
  have hi : insO o.k ins.length = true := by cases hh : insO o.k ins.length <;> simp_all
  refine ⟨hf, hi, by omega, ?_⟩
  by_cases h4 : ins.any (fun t => decide (checkT t 0 ≠ 0)) = true
  · rw [if_pos h4] at h; simp at h
  rw [if_neg h4] at h
  by_cases h5 : o.k = 1
  · refine ⟨fun e he => ?_, fun hk => ?_⟩
    · rw [(fieldsO_len hf).2.2 (by omega) (by omega)] at he; simp at he
    · simp [keyedO, h5] at hk
  · rw [if_neg h5] at h
    by_cases h6 : keyedO o.k = true
    · rw [if_pos h6] at h
      cases hk : checkE o.key (ins.getD 0 (.mk 0 [])) with
      | er f => rw [hk] at h; simp at h
      | ok u =>
        rw [hk] at h
        simp only at h
        cases hc : ckO (ins.getD 0 (.mk 0 [])) o.es with
        | er f => rw [hc] at h; simp at h
        | ok l => exact ⟨ckO_all _ _ l hc, fun _ => ⟨u, rfl⟩⟩
    · rw [if_neg h6] at h
      simp only at h
      cases hc : ckO (ins.getD 0 (.mk 0 [])) o.es with
      | er f => rw [hc] at h; simp at h
      | ok l => exact ⟨ckO_all _ _ l hc, fun hh => absurd hh h6⟩

theorem fewO_small {o : Opr} (h : fewO o = true) : Wd 1000000000 o.t ∧ (We 1000000000 o.key ∧ sizeE o.key ≤ 400) ∧ (∀ e ∈ o.es, We 1000000000 e ∧ sizeE e ≤ 400) ∧ o.es.length ≤ 8 := by
  simp only [fewO, Bool.and_eq_true, decide_eq_true_eq, List.all_eq_true] at h
  obtain ⟨⟨⟨⟨_, h2⟩, h3⟩, h4⟩, h5⟩ := h
  have hk := fewE_small h4
  exact ⟨fewT_small h2, ⟨hk.1.mono (by omega), hk.2⟩, fun e he => by have := fewE_small (h5 e he); exact ⟨this.1.mono (by omega), this.2⟩, h3⟩

theorem ckO_er {t : Ty} : ∀ {a : List Ex} {f : Int}, ckO t a = .er f → f ≠ 0
  | [], f, h => by simp [ckO] at h
  | x :: r, f, h => by
    simp only [ckO] at h
    cases hx : checkE x t with
    | er g => rw [hx] at h; simp only at h; cases h; exact checkE_er hx
    | ok u =>
      rw [hx] at h
      simp only at h
      cases hr : ckO t r with
      | er g => rw [hr] at h; simp only at h; cases h; exact ckO_er hr
      | ok m => rw [hr] at h; simp at h

theorem madeO_er {o : Opr} {ins : List Ty} {key : Ty} {ts : List Ty} {f : Int} (h : madeO o ins key ts = .er f) : f ≠ 0 := by
  unfold madeO at h
  repeat' split at h
  all_goals first
    | (simp at h; done)
    | (cases h; decide)
    | (cases h; assumption)

theorem outO_er {o : Opr} {ins : List Ty} {f : Int} (h : outO o ins = .er f) : f ≠ 0 := by
  unfold outO at h
  split at h
  · cases h; decide
  split at h
  · cases h; decide
  split at h
  · cases h; decide
  split at h
  · cases h; decide
  split at h
  · split at h
    · cases h; decide
    · simp at h
  split at h
  · rename_i hx
    cases h
    split at hx
    · exact checkE_er hx
    · simp at hx
  · split at h
    · rename_i hx
      cases h
      exact ckO_er hx
    · exact madeO_er h

end Go.Proofs.YtijnpcociedigaaGreatDoor
end
