/- What typ.Same, strings.CutPrefix and what they call answer, over trees. -/
import Derived.Test.YtmlooceejmfjkaaSpTyp
namespace Go.Proofs.Ytmlooceejmfjkaa
open Go Go.Abs

def hasPre (s p : List UInt8) : Bool := decide (s.take p.length = p)
def cutPre (s p : List UInt8) : List UInt8 := if hasPre s p then s.drop p.length else s

theorem hasPrefix_spec (s p : List UInt8) : Abs.Fn Try.prog internal_stringslite_HasPrefix_i [] [.p (.str s), .p (.str p)] (.p (.bool (hasPre s p))) [] := by
  apply internal_stringslite_HasPrefix_fn
  simp [internal_stringslite_HasPrefix]
  intro _ _
  refine gives_p ?_
  simp only [hasPre, T.bool.injEq]
  rw [Bool.eq_iff_iff]
  simp only [Bool.and_eq_true, decide_eq_true_eq, and_iff_right_iff_imp]
  intro e
  have := congrArg List.length e
  simp at this
  omega

theorem slCutPrefix_spec (s p : List UInt8) : Abs.Fn Try.prog internal_stringslite_CutPrefix_i [] [.p (.str s), .p (.str p)] (.tup [.p (.str (cutPre s p)), .p (.bool (hasPre s p))]) [] := by
  apply internal_stringslite_CutPrefix_fn
  simp [internal_stringslite_CutPrefix]
  refine aCall_p rfl (hasPrefix_spec s p) ?_
  simp
  refine ⟨fun h => gives_pure (by simp [AV.pur, cutPre, h]), fun h _ => ⟨?_, gives_pure (by simp [AV.pur, cutPre, h])⟩⟩
  have : s.take p.length = p := by simpa [hasPre] using h
  have := congrArg List.length this
  simp at this
  omega

theorem cutPrefix_spec (s p : List UInt8) : Abs.Fn Try.prog strings_CutPrefix_i [] [.p (.str s), .p (.str p)] (.tup [.p (.str (cutPre s p)), .p (.bool (hasPre s p))]) [] := by
  apply strings_CutPrefix_fn
  simp [strings_CutPrefix]
  refine aCallW_of rfl rfl (slCutPrefix_spec s p) ?_
  simp
  exact gives_pure (by simp [AV.pur])

def allP {α β : Type} (g : α → β → Bool) : List α → List β → Bool
  | [], [] => true
  | a :: r, b :: q => g a b && allP g r q
  | _, _ => false

theorem allP_length {α β : Type} (g : α → β → Bool) : ∀ (l : List α) (q : List β), l.length ≠ q.length → allP g l q = false
  | [], [], h => absurd rfl h
  | [], _ :: _, _ => rfl
  | _ :: _, [], _ => rfl
  | a :: r, b :: q, h => by simp [allP, allP_length g r q (by simpa using h)]

theorem allP_drop {α β : Type} (g : α → β → Bool) (l : List α) (q : List β) (i : Nat) (h : i < l.length) (h' : i < q.length) : allP g (l.drop i) (q.drop i) = (g l[i] q[i] && allP g (l.drop (i + 1)) (q.drop (i + 1))) := by
  rw [List.drop_eq_getElem_cons h, List.drop_eq_getElem_cons h']
  simp [allP]

theorem equalFunc_spec {α β : Type} (l : List α) (q : List β) (ea : α → T) (eb : β → T) (f : Nat) (g : α → β → Bool) (ha : ∀ e ∈ l, ∃ a b, ea e = .agg [a, b]) (hb : ∀ e ∈ q, ∃ a b, eb e = .agg [a, b])
    (hf : ∀ a ∈ l, ∀ b ∈ q, Abs.Fn Try.prog f [] [.p (ea a), .p (eb b)] (.p (.bool (g a b))) []) :
    Abs.Fn Try.prog slices_EqualFunc_typ_Type_typ_Type_typ_Type_typ_Type_i [] [.p (.slice (l.map ea)), .p (.slice (q.map eb)), .p (.func f [])] (.p (.bool (allP g l q))) [] := by
  apply slices_EqualFunc_typ_Type_typ_Type_typ_Type_typ_Type_fn
  simp [slices_EqualFunc_typ_Type_typ_Type_typ_Type_typ_Type]
  intro hl hq
  refine ⟨fun h => gives_p (by rw [allP_length g l q (by omega)]), fun h _ => ?_⟩
  have hlen : l.length = q.length := by omega
  refine loop_by (σ := Nat) (n := 0) (fun i => [.p (.int .i64 i)]) (fun _ => []) (fun i => i ≤ l.length ∧ allP g (l.drop i) (q.drop i) = allP g l q) (fun i => l.length - i) [] 0 (fun _ => rfl) ⟨rfl, rfl⟩ (by simp) (fun i B hi hB => ?_)
  obtain ⟨h1, h2⟩ := hi
  simp [slices_EqualFunc_typ_Type_typ_Type_typ_Type_typ_Type_L1]
  constructor
  · intro hlt
    have hlt' : i < q.length := by omega
    obtain ⟨a, b, hab⟩ := ha l[i] (by simp)
    obtain ⟨c, d, hcd⟩ := hb q[i] (by simp)
    have hfm := hf l[i] (by simp) q[i] (by simp)
    have hd := allP_drop g l q i hlt hlt'
    rw [h2] at hd
    rw [hab, hcd] at hfm
    simp [hlt, hab, hlt', hcd]
    refine aCall_p rfl hfm ?_
    simp
    refine ⟨fun hz => gives_p (by simp [hd, hz]), fun hz => ?_⟩
    rw [IntWalk.i64_in _ (by simp [maxLen] at hl; omega)]
    exact hB (i + 1) _ ⟨by omega, by simp [hd, hz]⟩ (by omega) (by simp) (by simp) (by simp) (by simp [AV.under, AV.under1])
  · intro hge
    have : i = l.length := by omega
    subst this
    exact gives_p (by rw [← h2, List.drop_of_length_le (Nat.le_refl _), List.drop_of_length_le (by omega)]; rfl)

mutual
def sameT : Ty → Ty → Bool
  | .mk k of, .mk k' of' => decide (k = k') && sameTs of of'
def sameTs : List Ty → List Ty → Bool
  | [], [] => true
  | a :: r, b :: q => sameT a b && sameTs r q
  | _, _ => false
end

theorem sameTs_eq : ∀ l q : List Ty, sameTs l q = allP sameT l q
  | [], [] => by simp [sameTs, allP]
  | [], _ :: _ => by simp [sameTs, allP]
  | _ :: _, [] => by simp [sameTs, allP]
  | a :: r, b :: q => by simp [sameTs, allP, sameTs_eq r q]

theorem same_spec (a b : Ty) : Abs.Fn Try.prog typ_Same_i [] [.p (encT a), .p (encT b)] (.p (.bool (sameT a b))) [] := by
  apply typ_Same_fn
  obtain ⟨k, of⟩ := a
  obtain ⟨k', of'⟩ := b
  simp [typ_Same]
  refine aMerge_intro (sameTs of of') (fun hk => ?_) (gives_p (by simp [sameT]))
  refine aCall_p rfl (equalFunc_spec of of' encT encT typ_Same_i sameT (fun e _ => encT_agg e) (fun e _ => encT_agg e) ?_) ⟨by simp, by rw [sameTs_eq]⟩
  intro a ha b hb
  exact same_spec a b
termination_by SizeOf.sizeOf a
decreasing_by
  have := List.sizeOf_lt_of_mem ha
  simp
  omega

mutual
theorem sameT_iff : ∀ a b : Ty, sameT a b = true ↔ a = b
  | .mk k of, .mk k' of' => by simp [sameT, sameTs_iff of of']
theorem sameTs_iff : ∀ a b : List Ty, sameTs a b = true ↔ a = b
  | [], [] => by simp [sameTs]
  | [], _ :: _ => by simp [sameTs]
  | _ :: _, [] => by simp [sameTs]
  | a :: r, b :: q => by simp [sameTs, sameT_iff a b, sameTs_iff r q]
end

end Go.Proofs.Ytmlooceejmfjkaa
