/- What an operator lets out of a row: the document's. -/
import Derived.Test.YtklnalofcjagnaaGreatZPuApO
import Derived.Test.YtklnalofcjagnaaGreatZSpEvalC
import Derived.Test.YtklnalofcjagnaaGreatZSpOut
set_option linter.unusedSimpArgs false
set_option linter.unusedVariables false
namespace Go.Proofs.YtklnalofcjagnaaGreat
open Go Go.Abs

attribute [local irreducible] Abs.Fn

theorem ApplyR_spec (o : Opr) (x : Va) (r : R (List Va)) (h : applyO o x = some r) (hne : ∀ e ∈ o.es, Ne e ∧ We 1000000000 e) (hx : Wv 1000000000 x) (hl : o.es.length ≤ 8) (h3 : o.k = 3 → o.es.length = 1) : Abs.Fn Tryz.prog runnelref10_Apply_i [] [.p (encO o), .p (encV x)] (allR r) [] := by
  apply runnelref10_Apply_fn
  simp [runnelref10_Apply]
  refine ⟨fun n2 n3 n4 => ?_, fun hk => ?_⟩
  · have : applyO o x = some (.ok [x]) := by simp only [applyO]; rw [if_neg (by omega), if_neg n3]
    rw [this] at h
    simp only [Option.some.injEq] at h
    subst h
    exact gives_pure (by simp [AV.pur, allR, toTs])
  have hk : o.k = 2 ∨ o.k = 3 ∨ o.k = 4 := by omega
  obtain ⟨r0, hr0, hrr⟩ : ∃ r0, evL o.es x = some r0 ∧ r = (match r0 with
      | .er f => .er f
      | .ok l => if o.k = 3 then .ok (if (l.getD 0 zeroV).truth then [x] else []) else .ok l) := by
    by_cases hk3 : o.k = 3
    · simp only [applyO] at h
      rw [if_neg (by omega), if_pos hk3] at h
      split at h
      · simp at h
      · rename_i f hf
        simp at h; subst h
        exact ⟨_, hf, rfl⟩
      · rename_i l hl
        simp only [Option.some.injEq] at h; subst h
        exact ⟨_, hl, by simp [hk3]⟩
    · simp only [applyO] at h
      rw [if_pos (by omega)] at h
      refine ⟨r, h, ?_⟩
      cases r <;> simp [hk3]
  have hml : o.es.length ≤ maxLen := Nat.le_trans hl (by simp [maxLen])
  refine loop_by (σ := Nat × List Va) (n := 3) (fun q => [.own 2 (q.2.map encV), .p (.int .i64 q.1)]) (fun q => [.box (boxO o), .box [.p (.int .i64 x.k), .p (.int .i64 x.i), .p (.bool x.b), .p (.str x.s), .p (.slice (x.t.map encV))], .row q.2.length 5]) (fun q => q.1 ≤ o.es.length ∧ evL (o.es.take q.1) x = some (.ok q.2) ∧ q.2.length = q.1) (fun q => o.es.length - q.1) [.slot 0 5] (0, []) (fun _ => rfl) ⟨rfl, rfl⟩ ⟨by simp, by simp [evL], rfl⟩ (fun q B hq hB => ?_)
  obtain ⟨i, l⟩ := q
  obtain ⟨h1, h2, h4⟩ := hq
  simp only at h1 h2 h4
  simp [runnelref10_Apply_L1, hml]
  refine ⟨fun hlt => ?_, fun hge => ?_⟩
  · have hsn := evL_snoc x o.es i l hlt h2
    obtain ⟨r', g1, g2⟩ := evL_take_some x o.es (i + 1) r0 hr0
    rw [hsn] at g1
    obtain ⟨n1, n2⟩ := hne o.es[i] (by simp)
    cases hev : evE o.es[i] x with
    | none => simp [hev] at g1
    | some u =>
      have hfn := EvalR_spec o.es[i] x n1 n2 hx u hev
      simp only [encE_eta, encV_eta] at hfn
      simp [hlt, List.getElem?_eq_getElem hlt]
      refine aCallT_of rfl hfn (by simp [twoR, AV.pur, toTs]; rfl) ?_
      simp [twoR]
      cases u with
      | er f =>
        have hne0 := evE_er _ _ _ hev
        simp [R.num, hne0]
        simp only [hev] at hsn
        have := evL_er_take x o.es (i + 1) f hsn
        rw [hr0] at this
        simp at this
        subst this
        subst hrr
        exact gives_pure (by simp [AV.pur, allR, toTs])
      | ok v =>
        simp [R.num, R.get]
        refine ⟨⟨encV_size l, by simp, by simp; omega⟩, ?_⟩
        rw [IntWalk.i64_in _ (by omega)]
        simp only [hev] at hsn
        have := hB (i + 1, l ++ [v]) [.box (boxO o), .box [.p (.int .i64 x.k), .p (.int .i64 x.i), .p (.bool x.b), .p (.str x.s), .p (.slice (x.t.map encV))], .row (l ++ [v]).length 5, .box [.p (.int .i64 v.k), .p (.int .i64 v.i), .p (.bool v.b), .p (.str v.s), .p (.slice (v.t.map encV))]] ⟨by simp only; omega, hsn, by simp [h4]⟩ (by simp only; omega) (by simp) (by simp [Ob.below, AV.under1]) (by simp) (by simp [AV.under, AV.under1])
        simpa using this
  · have : i = o.es.length := by omega
    subst this
    rw [List.take_of_length_le (Nat.le_refl _), hr0] at h2
    simp at h2
    subst h2
    simp only at hrr
    refine ⟨fun hk3 => ?_, fun hk3 => ?_⟩
    · have hl1 := h3 hk3
      rw [if_pos hk3] at hrr
      match l, (by omega : l.length = 1) with
      | [v], _ =>
        subst hrr
        simp
        refine ⟨fun ht => ?_, fun ht => ?_⟩
        · have ht : v.truth = false := ht
          exact gives_pure (by simp [AV.pur, allR, toTs, ht])
        · have ht : v.truth = true := ht
          exact gives_pure (by simp [AV.pur, allR, toTs, ht])
    · rw [if_neg hk3] at hrr
      subst hrr
      exact gives_pure (by simp [AV.pur, allR, toTs])

end Go.Proofs.YtklnalofcjagnaaGreat
