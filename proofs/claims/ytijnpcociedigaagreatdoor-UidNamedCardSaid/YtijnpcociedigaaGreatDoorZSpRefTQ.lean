/- What typ.Same answers, over trees. -/
import Derived.Test.YtijnpcociedigaaGreatDoorZSpTyp

section
/- What typ.Same answers, over trees. -/
namespace Go.Proofs.YtijnpcociedigaaGreatDoor
open Go Go.Abs

theorem equalFunc_spec {α β : Type} (l : List α) (q : List β) (ea : α → T) (eb : β → T) (f : Nat) (g : α → β → Bool) (ha : ∀ e ∈ l, ∃ a b, ea e = .agg [a, b]) (hb : ∀ e ∈ q, ∃ a b, eb e = .agg [a, b])
    (hf : ∀ a ∈ l, ∀ b ∈ q, Abs.Fn Tryz.prog f [] [.p (ea a), .p (eb b)] (.p (.bool (g a b))) []) :
    Abs.Fn Tryz.prog slices_EqualFunc_typ_Type_typ_Type_typ_Type_typ_Type_i [] [.p (.slice (l.map ea)), .p (.slice (q.map eb)), .p (.func f [])] (.p (.bool (allP g l q))) [] := by
  apply slices_EqualFunc_typ_Type_typ_Type_typ_Type_typ_Type_fn
  simp [slices_EqualFunc_typ_Type_typ_Type_typ_Type_typ_Type]
  intro hl hq
  refine ⟨fun h => gives_p (by rw [allP_length g l q (by omega)]), fun h _ => ?_⟩
  have hlen : l.length = q.length := by omega
  refine loop_by (σ := Nat) (n := 0) (fun i => [.p (.int .i64 i)]) (fun _ => []) (fun i => i ≤ l.length ∧ allP g (l.drop i) (q.drop i) = allP g l q) (fun i => l.length - i) [] 0 (fun _ => rfl) ⟨rfl, rfl⟩ (by simp) (fun i B hi hB => ?_)
  obtain ⟨h1, h2⟩ := hi
  simp [slices_EqualFunc_typ_Type_typ_Type_typ_Type_typ_Type_L1]
  constructor
  · intro hlt
    have hlt' : i < q.length := by omega
    obtain ⟨a, b, hab⟩ := ha l[i] (by simp)
    obtain ⟨c, d, hcd⟩ := hb q[i] (by simp)
    have hfm := hf l[i] (by simp) q[i] (by simp)
    have hd := allP_drop g l q i hlt hlt'
    rw [h2] at hd
    rw [hab, hcd] at hfm
    simp [hlt, hab, hlt', hcd]
    refine aCall_p rfl hfm ?_
    simp
    refine ⟨fun hz => gives_p (by simp [hd, hz]), fun hz => ?_⟩
    rw [IntWalk.i64_in _ (by simp [maxLen] at hl; omega)]
    exact hB (i + 1) _ ⟨by omega, by simp [hd, hz]⟩ (by omega) (by simp) (by simp) (by simp) (by simp [AV.under, AV.under1])
  · intro hge
    have : i = l.length := by omega
    subst this
    exact gives_p (by rw [← h2, List.drop_of_length_le (Nat.le_refl _), List.drop_of_length_le (by omega)]; rfl)

mutual
def sameT : Ty → Ty → Bool
  | .mk k of, .mk k' of' => decide (k = k') && sameTs of of'
def sameTs : List Ty → List Ty → Bool
  | [], [] => true
  | a :: r, b :: q => sameT a b && sameTs r q
  | _, _ => false
end

theorem sameTs_eq : ∀ l q : List Ty, sameTs l q = allP sameT l q
  | [], [] => by simp [sameTs, allP]
  | [], _ :: _ => by simp [sameTs, allP]
  | _ :: _, [] => by simp [sameTs, allP]
  | a :: r, b :: q => by simp [sameTs, allP, sameTs_eq r q]

theorem same_spec (a b : Ty) : Abs.Fn Tryz.prog typ_Same_i [] [.p (encT a), .p (encT b)] (.p (.bool (sameT a b))) [] := by
  apply typ_Same_fn
  obtain ⟨k, of⟩ := a
  obtain ⟨k', of'⟩ := b
  simp [typ_Same]
  refine aMerge_intro (sameTs of of') (fun hk => ?_) (gives_p (by simp [sameT]))
  refine aCall_p rfl (equalFunc_spec of of' encT encT typ_Same_i sameT (fun e _ => encT_agg e) (fun e _ => encT_agg e) ?_) ⟨by simp, by rw [sameTs_eq]⟩
  intro a ha b hb
  exact same_spec a b
termination_by SizeOf.sizeOf a
decreasing_by
  have := List.sizeOf_lt_of_mem ha
  simp
  omega

mutual
theorem sameT_iff : ∀ a b : Ty, sameT a b = true ↔ a = b
  | .mk k of, .mk k' of' => by simp [sameT, sameTs_iff of of']
theorem sameTs_iff : ∀ a b : List Ty, sameTs a b = true ↔ a = b
  | [], [] => by simp [sameTs]
  | [], _ :: _ => by simp [sameTs]
  | _ :: _, [] => by simp [sameTs]
  | a :: r, b :: q => by simp [sameTs, sameT_iff a b, sameTs_iff r q]
end

end Go.Proofs.YtijnpcociedigaaGreatDoor
end

section
/- The document's types: what Of, checkType, CheckType, SameType answer, over trees. -/
namespace Go.Proofs.YtijnpcociedigaaGreatDoor
open Go Go.Abs

/-- No tuple has more parts than so many. -/
inductive Wd (n : Nat) : Ty → Prop where
  | mk (k : Int) (of : List Ty) (h : of.length ≤ n) (ho : ∀ t ∈ of, Wd n t) : Wd n (.mk k of)

theorem Wd.mono {n m : Nat} (hnm : n ≤ m) {t : Ty} (h : Wd n t) : Wd m t := by
  induction h with
  | mk k of h _ ih => exact .mk k of (by omega) ih

theorem of1_spec {t : Ty} (h : Wd 1000000000 t) : Abs.Fn Tryz.prog runnellaw1_Of_i [] [.p (encT t)] (.p (encT t)) [] := by
  induction h with
  | mk k of hl ho ih =>
    apply runnellaw1_Of_fn
    simp [runnellaw1_Of]
    refine loop_by (σ := Nat) (n := 4) (fun i => [.p (.int .i64 i)]) (fun i => [.box [.p (.int .i64 k), .p (.slice (of.map encT))], .box [.p (.int .i64 0), .full []], .box [.p (.int .i64 k), .own 3 ((of.map encT).take i)], .row i 2])
      (fun i => i ≤ of.length) (fun i => of.length - i) [.cell 2 1 2] 0 (fun _ => rfl) ⟨rfl, rfl⟩ (by simp) (fun i B hi hB => ?_)
    simp [runnellaw1_Of_L1]
    intro _
    refine ⟨fun hlt => ?_, fun hge => ?_⟩
    · obtain ⟨a, b, hab⟩ := encT_agg of[i]
      have hi := ih of[i] (by simp)
      rw [hab] at hi
      simp [hlt, hab]
      refine aCallT_of rfl hi rfl ?_
      simp
      refine ⟨by omega, ⟨fun e he => by have := List.mem_of_mem_take he; simp at this; obtain ⟨x, _, rfl⟩ := this; simp, by simp, by simp; omega⟩, ?_⟩
      simp (disch := omega) only [IntWalk.i64_in]
      have := take_snoc (l := of.map encT) (i := i) (by simpa using hlt)
      simp only [List.getElem_map, hab] at this
      rw [this]
      exact hB (i + 1) _ (by omega) (by omega) (by simp) (by simp [Ob.below, AV.under1]) (by simp) (by simp [AV.under, AV.under1])
    · rw [List.take_of_length_le (by simpa using hge)]
      exact gives_pure (by simp [AV.pur])

theorem checkType_spec : ∀ (t : Ty) (d : Int) (_ : 0 ≤ d) (_ : d ≤ 100), Abs.Fn Tryz.prog runnelref6_checkType_i [] [.p (encT t), .p (.int .i64 d)] (.p (.int .i64 (checkT t d))) []
  | .mk k of, d, h0, h1 => by
    apply runnelref6_checkType_fn
    simp [runnelref6_checkType]
    refine ⟨fun h => gives_p ?_, fun hk hk2 hk3 => ⟨fun h4 => gives_p ?_, fun h4 _ => ⟨fun hz => gives_p ?_, fun hz _ => ⟨fun h8 => gives_p ?_, fun h8 => ⟨fun hd => gives_p ?_, fun hd => ?_⟩⟩⟩⟩⟩
    · simp only [checkT, T.int.injEq, true_and]
      grind
    · simp only [checkT, T.int.injEq, true_and]; grind
    · simp only [checkT, T.int.injEq, true_and, rowE]; grind
    · have : (of.length : Int) ≠ 0 := by simpa using hz
      simp only [checkT, T.int.injEq, true_and, rowE]; grind
    · have : (of.length : Int) ≠ 0 := by simpa using hz
      simp only [checkT, T.int.injEq, true_and, rowE]; grind
    · subst h4
      have hnz : (of.length : Int) ≠ 0 := by simpa using hz
      have he : checkT (.mk 4 of) d = firstE (fun t => checkT t (d + 1)) of := by
        simp only [checkT, checkTs_eq, rowE]
        grind
      refine loop_by (σ := Nat) (n := 1) (fun i => [.p (.int .i64 i)]) (fun i => [.box [.p (.int .i64 4), .p (.slice (of.map encT))]]) (fun i => i ≤ of.length ∧ firstE (fun t => checkT t (d + 1)) (of.drop i) = firstE (fun t => checkT t (d + 1)) of) (fun i => of.length - i) [] 0 (fun _ => rfl) ⟨rfl, rfl⟩ (by simp) (fun i B hi hB => ?_)
      obtain ⟨hi1, hi2⟩ := hi
      simp [runnelref6_checkType_L1]
      intro _
      refine ⟨fun hlt => ?_, fun hge => ?_⟩
      · obtain ⟨a, b, hab⟩ := encT_agg of[i]
        have hm : of[i] ∈ of := by simp
        have ih := checkType_spec of[i] (d + 1) (by omega) (by omega)
        have hd := firstE_drop (fun t => checkT t (d + 1)) of i hlt
        rw [hi2] at hd
        rw [hab] at ih
        simp [hlt, hab]
        rw [IntWalk.i64_in _ (by omega)]
        refine aCall_p rfl ih ?_
        simp
        refine ⟨fun hz => gives_p (by simp [he, hd, hz]), fun hz => ?_⟩
        rw [IntWalk.i64_in _ (by omega)]
        exact hB (i + 1) _ ⟨by omega, by simp [hd, hz]⟩ (by omega) (by simp) (by simp [Ob.below, AV.under1]) (by simp) (by simp [AV.under, AV.under1])
      · have : i = of.length := by omega
        subst this
        exact gives_p (by rw [he, ← hi2]; simp [firstE])
termination_by t => SizeOf.sizeOf t
decreasing_by
  have := List.sizeOf_lt_of_mem hm
  simp
  omega

theorem CheckType_spec (t : Ty) : Abs.Fn Tryz.prog runnelref6_CheckType_i [] [.p (encT t)] (.p (.int .i64 (checkT t 0))) [] := by
  apply runnelref6_CheckType_fn
  have := checkType_spec t 0 (by omega) (by omega)
  obtain ⟨k, of⟩ := t
  simp [runnelref6_CheckType]
  exact aCall_p rfl (by simpa using this) (gives_p rfl)

theorem sameType_spec : ∀ a b : Ty, Abs.Fn Tryz.prog runnelref6_SameType_i [] [.p (encT a), .p (encT b)] (.p (.bool (sameT a b))) []
  | .mk k of, .mk k' of' => by
    apply runnelref6_SameType_fn
    simp [runnelref6_SameType]
    refine ⟨fun h => gives_p ?_, fun hk hl => ?_⟩
    · simp only [sameT, T.bool.injEq, sameTs_eq]
      rcases h with h | h
      · simp [h]
      · rw [allP_length _ _ _ (by omega)]; simp
    · subst hk
      have hl : of.length = of'.length := by omega
      refine loop_by (σ := Nat) (n := 2) (fun i => [.p (.int .i64 i)]) (fun i => [.box [.p (.int .i64 k), .p (.slice (of.map encT))], .box [.p (.int .i64 k), .p (.slice (of'.map encT))]]) (fun i => i ≤ of.length ∧ allP sameT (of.drop i) (of'.drop i) = allP sameT of of') (fun i => of.length - i) [] 0 (fun _ => rfl) ⟨rfl, rfl⟩ (by simp) (fun i B hi hB => ?_)
      obtain ⟨hi1, hi2⟩ := hi
      simp [runnelref6_SameType_L1]
      intro hmx
      refine ⟨fun hlt => ?_, fun hge => ?_⟩
      · have hlt' : i < of'.length := by omega
        obtain ⟨a, b, hab⟩ := encT_agg of[i]
        obtain ⟨c, d, hcd⟩ := encT_agg of'[i]
        have hm : of[i] ∈ of := by simp
        have ih := sameType_spec of[i] of'[i]
        have hd := allP_drop sameT of of' i hlt hlt'
        rw [hi2] at hd
        rw [hab, hcd] at ih
        simp [hlt, hab, hlt', hcd]
        refine aCallT_of rfl ih rfl ?_
        simp
        refine ⟨fun hz => gives_p (by simp [sameT, sameTs_eq, hd, hz]), fun hz => ?_⟩
        rw [IntWalk.i64_in _ (by simp [maxLen] at hmx; omega)]
        exact hB (i + 1) _ ⟨by omega, by simp [hd, hz]⟩ (by omega) (by simp) (by simp [Ob.below, AV.under1]) (by simp) (by simp [AV.under, AV.under1])
      · have : i = of.length := by omega
        subst this
        exact gives_p (by simp only [sameT, sameTs_eq]; rw [← hi2, List.drop_of_length_le (Nat.le_refl _), List.drop_of_length_le (by omega)]; simp [allP])
termination_by a => SizeOf.sizeOf a
decreasing_by
  have := List.sizeOf_lt_of_mem hm
  simp
  omega

end Go.Proofs.YtijnpcociedigaaGreatDoor
end
