/- The laws of the package runnellaw12: known, GenSizes. -/
import Derived.Test.YtjendohiohhciaaZSpSame
import Derived.Test.YtjendohiohhciaaZPuOp
import Derived.Test.YtjendohiohhciaaS2
set_option linter.unusedSimpArgs false
set_option linter.unusedVariables false
namespace Go.Proofs.Ytjendohiohhciaa
open Go Go.Abs

attribute [local irreducible] Abs.Fn

theorem OkG_iff {op : List UInt8} {v : Va} {n : Int} {a : List Ex} : OkG (.mk op v n a) ↔ (op ≠ oJmp ∧ op ≠ oJf) ∧ (op = oAt → a.length = 1) ∧ (op = oAnd ∨ op = oOr → 2 ≤ a.length) ∧ (op = oIf → 3 ≤ a.length) ∧ ∀ e ∈ a, OkG e :=
  ⟨fun h => by cases h with | mk _ _ _ _ h0 h1 h2 h3 h4 => exact ⟨h0, h1, h2, h3, h4⟩, fun ⟨h0, h1, h2, h3, h4⟩ => .mk _ _ _ _ h0 h1 h2 h3 h4⟩

theorem joinI_v {p : Va → Prop} : ∀ (l : List (List In)), (∀ q ∈ l, ∀ x ∈ q, p x.v) → ∀ x ∈ joinI l, p x.v := by
  suffices h : ∀ (l : List (List In)) (acc : List In), (∀ x ∈ acc, p x.v) → (∀ q ∈ l, ∀ x ∈ q, p x.v) → ∀ x ∈ l.foldl (fun out p => out ++ p.map (mvI out.length)) acc, p x.v from
    fun l hl => h l [] (by simp) hl
  intro l
  induction l with
  | nil => intro acc h _; exact h
  | cons q l ih =>
    intro acc h hl
    refine ih _ (fun x hx => ?_) (fun r hr => hl r (by simp [hr]))
    rcases List.mem_append.1 hx with hx | hx
    · exact h x hx
    · obtain ⟨y, hy, rfl⟩ := List.mem_map.1 hx
      have := hl q (by simp) y hy
      unfold mvI
      split
      · exact this
      · exact this
theorem mv_v {p : Va → Prop} {b : Int} {l : List In} (h : ∀ x ∈ l, p x.v) : ∀ x ∈ l.map (mvI b), p x.v := by
  intro x hx
  obtain ⟨y, hy, rfl⟩ := List.mem_map.1 hx
  have := h y hy
  unfold mvI
  split
  · exact this
  · exact this
theorem choiceI_v {p : Va → Prop} (h0 : p zeroV) {a b c : List In} (ha : ∀ x ∈ a, p x.v) (hb : ∀ x ∈ b, p x.v) (hc : ∀ x ∈ c, p x.v) : ∀ x ∈ choiceI a b c, p x.v := by
  intro x hx
  simp only [choiceI, List.mem_append, List.mem_cons] at hx
  rcases hx with hx | rfl | hx | rfl | hx
  · exact ha x hx
  · exact h0
  · exact mv_v hb x hx
  · exact h0
  · exact mv_v hc x hx
theorem one_v {p : Va → Prop} (h0 : p zeroV) {op : List UInt8} {n : Int} : ∀ x ∈ [oneI op n], p x.v := by
  intro x hx
  simp at hx; subst hx
  exact h0
theorem push_v {p : Va → Prop} {v : Va} (h : p v) : ∀ x ∈ [pushI v], p x.v := by
  intro x hx
  simp at hx; subst hx
  exact h
theorem getD_v {p : Va → Prop} {l : List (List In)} (h : ∀ q ∈ l, ∀ x ∈ q, p x.v) (i : Nat) : ∀ x ∈ l.getD i [], p x.v := by
  rw [List.getD_eq_getElem?_getD]
  cases hi : l[i]? with
  | none => intro x hx; simp at hx
  | some q => exact h q (List.mem_of_getElem? hi)

mutual
theorem genE_wv : ∀ (e : Ex), We 1000000000 e → ∀ x ∈ genE e, Wv 1000000000 x.v
  | .mk op v n a, hw => by
    obtain ⟨w1, w2, w3⟩ := We_mk.1 hw
    have h := genEs_wv a w3
    have h0 : Wv 1000000000 zeroV := by simp
    simp only [genE]
    repeat' split
    · exact push_v w1
    · exact one_v h0
    · exact joinI_v _ (fun p hp => by
        simp only [List.mem_cons, List.not_mem_nil, or_false] at hp
        rcases hp with rfl | rfl
        · exact getD_v h 0
        · exact one_v h0)
    · exact joinI_v _ (fun p hp => by
        simp only [List.mem_cons, List.not_mem_nil, or_false] at hp
        rcases hp with rfl | rfl
        · exact joinI_v _ h
        · exact one_v h0)
    · exact choiceI_v h0 (getD_v h 0) (getD_v h 1) (push_v (by simp))
    · exact choiceI_v h0 (getD_v h 0) (push_v (by simp)) (getD_v h 1)
    · exact choiceI_v h0 (getD_v h 0) (getD_v h 1) (getD_v h 2)
    · exact joinI_v _ (fun p hp => by
        simp only [List.mem_cons, List.not_mem_nil, or_false] at hp
        rcases hp with rfl | rfl
        · exact joinI_v _ h
        · exact one_v h0)
theorem genEs_wv : ∀ (a : List Ex), (∀ e ∈ a, We 1000000000 e) → ∀ p ∈ genEs a, ∀ x ∈ p, Wv 1000000000 x.v
  | [], _, p, hp => by simp [genEs] at hp
  | e :: r, hw, p, hp => by
    simp only [genEs, List.mem_cons] at hp
    rcases hp with rfl | hp
    · exact genE_wv e (hw e (by simp))
    · exact genEs_wv r (fun x hx => hw x (by simp [hx])) p hp
end

theorem KeyO_spec (o : Opr) (h : OkG o.key) (hs : sizeE o.key ≤ 100000) : Abs.Fn Try.prog gen_Key_i [] [.p (encO o)] (.p (encPr (genKey o.key))) [] := by
  have := Key_spec h hs o.k o.name o.t.kind (o.t.of.map encT) (o.es.map encE) o.f o.n
  simpa using this
theorem OfO_spec (o : Opr) (hes : ∀ e ∈ o.es, OkG e) (hs : sizeEs o.es ≤ 100000) : Abs.Fn Try.prog gen_Of_i [] [.p (encO o)] (.p (encPr (genOf o.k o.es))) [] := by
  have := Of_spec o.k o.name o.t.kind (o.t.of.map encT) o.es o.key o.f o.n hes hs
  simpa using this

theorem xE_ok : OkG (.mk oX zeroV 0 []) := by simp [OkG_iff, oJmp, oJf]
theorem litE_ok (v : Va) : OkG (.mk oLit v 0 []) := by simp [OkG_iff, oJmp, oJf]

set_option maxRecDepth 100000 in
set_option maxHeartbeats 1000000 in
theorem known12_spec : Abs.Fn Try.prog runnellaw12_known_i [] [] (.p (.bool true)) [] := by
  apply runnellaw12_known_fn
  simp [runnellaw12_known]
  repeat ((first | refine aCall_fold rfl ?_ | refine aCallT_fold rfl ?_); (first | refine aCallU_p (X_spec) ?_ | refine aCallTU_p (X_spec) ?_ | refine aCallU_of (X_spec) ?_ | refine aCallTU_of (X_spec) rfl ?_ | refine aCallTU_of (X_spec) (by simp [AV.pur]; rfl) ?_ | refine aCallU_p (Lit_spec _) ?_ | refine aCallTU_p (Lit_spec _) ?_ | refine aCallU_of (Lit_spec _) ?_ | refine aCallTU_of (Lit_spec _) rfl ?_ | refine aCallTU_of (Lit_spec _) (by simp [AV.pur]; rfl) ?_ | refine aCallU_p (Op4_spec _ _) ?_ | refine aCallTU_p (Op4_spec _ _) ?_ | refine aCallU_of (Op4_spec _ _) ?_ | refine aCallTU_of (Op4_spec _ _) rfl ?_ | refine aCallTU_of (Op4_spec _ _) (by simp [AV.pur]; rfl) ?_ | refine aCallU_p (Int_spec _) ?_ | refine aCallTU_p (Int_spec _) ?_ | refine aCallU_of (Int_spec _) ?_ | refine aCallTU_of (Int_spec _) rfl ?_ | refine aCallTU_of (Int_spec _) (by simp [AV.pur]; rfl) ?_ | refine aCallU_p (Bool_spec _) ?_ | refine aCallTU_p (Bool_spec _) ?_ | refine aCallU_of (Bool_spec _) ?_ | refine aCallTU_of (Bool_spec _) rfl ?_ | refine aCallTU_of (Bool_spec _) (by simp [AV.pur]; rfl) ?_ | refine aCallU_p (Str_spec _) ?_ | refine aCallTU_p (Str_spec _) ?_ | refine aCallU_of (Str_spec _) ?_ | refine aCallTU_of (Str_spec _) rfl ?_ | refine aCallTU_of (Str_spec _) (by simp [AV.pur]; rfl) ?_ | refine aCallU_p (V_spec _) ?_ | refine aCallTU_p (V_spec _) ?_ | refine aCallU_of (V_spec _) ?_ | refine aCallTU_of (V_spec _) rfl ?_ | refine aCallTU_of (V_spec _) (by simp [AV.pur]; rfl) ?_ | refine aCallU_p (Yes_spec _) ?_ | refine aCallTU_p (Yes_spec _) ?_ | refine aCallU_of (Yes_spec _) ?_ | refine aCallTU_of (Yes_spec _) rfl ?_ | refine aCallTU_of (Yes_spec _) (by simp [AV.pur]; rfl) ?_ | refine aCallU_p (Checkv_spec _) ?_ | refine aCallTU_p (Checkv_spec _) ?_ | refine aCallU_of (Checkv_spec _) ?_ | refine aCallTU_of (Checkv_spec _) rfl ?_ | refine aCallTU_of (Checkv_spec _) (by simp [AV.pur]; rfl) ?_ | refine aCallU_p (CheckValue_spec _) ?_ | refine aCallTU_p (CheckValue_spec _) ?_ | refine aCallU_of (CheckValue_spec _) ?_ | refine aCallTU_of (CheckValue_spec _) rfl ?_ | refine aCallTU_of (CheckValue_spec _) (by simp [AV.pur]; rfl) ?_ | refine aCallU_p (Same_spec _ _) ?_ | refine aCallTU_p (Same_spec _ _) ?_ | refine aCallU_of (Same_spec _ _) ?_ | refine aCallTU_of (Same_spec _ _) rfl ?_ | refine aCallTU_of (Same_spec _ _) (by simp [AV.pur]; rfl) ?_ | refine aCallU_p (SameR_spec _ _) ?_ | refine aCallTU_p (SameR_spec _ _) ?_ | refine aCallU_of (SameR_spec _ _) ?_ | refine aCallTU_of (SameR_spec _ _) rfl ?_ | refine aCallTU_of (SameR_spec _ _) (by simp [AV.pur]; rfl) ?_ | refine aCallU_p (Compare_spec _ _) ?_ | refine aCallTU_p (Compare_spec _ _) ?_ | refine aCallU_of (Compare_spec _ _) ?_ | refine aCallTU_of (Compare_spec _ _) rfl ?_ | refine aCallTU_of (Compare_spec _ _) (by simp [AV.pur]; rfl) ?_ | refine aCallU_p (CompareR_spec _ _) ?_ | refine aCallTU_p (CompareR_spec _ _) ?_ | refine aCallU_of (CompareR_spec _ _) ?_ | refine aCallTU_of (CompareR_spec _ _) rfl ?_ | refine aCallTU_of (CompareR_spec _ _) (by simp [AV.pur]; rfl) ?_ | refine aCallU_p (Tup_spec _ (by simp)) ?_ | refine aCallTU_p (Tup_spec _ (by simp)) ?_ | refine aCallU_of (Tup_spec _ (by simp)) ?_ | refine aCallTU_of (Tup_spec _ (by simp)) rfl ?_ | refine aCallTU_of (Tup_spec _ (by simp)) (by simp [AV.pur]; rfl) ?_ | refine aCallU_p (few2_spec _) ?_ | refine aCallTU_p (few2_spec _) ?_ | refine aCallU_of (few2_spec _) ?_ | refine aCallTU_of (few2_spec _) rfl ?_ | refine aCallTU_of (few2_spec _) (by simp [AV.pur]; rfl) ?_ | refine aCallU_p (good2_spec _) ?_ | refine aCallTU_p (good2_spec _) ?_ | refine aCallU_of (good2_spec _) ?_ | refine aCallTU_of (good2_spec _) rfl ?_ | refine aCallTU_of (good2_spec _) (by simp [AV.pur]; rfl) ?_ | refine aCallU_p (of2_spec (by simp [*])) ?_ | refine aCallTU_p (of2_spec (by simp [*])) ?_ | refine aCallU_of (of2_spec (by simp [*])) ?_ | refine aCallTU_of (of2_spec (by simp [*])) rfl ?_ | refine aCallTU_of (of2_spec (by simp [*])) (by simp [AV.pur]; rfl) ?_ | refine aCallU_p (typeOfR_spec (by simp [*])) ?_ | refine aCallTU_p (typeOfR_spec (by simp [*])) ?_ | refine aCallU_of (typeOfR_spec (by simp [*])) ?_ | refine aCallTU_of (typeOfR_spec (by simp [*])) rfl ?_ | refine aCallTU_of (typeOfR_spec (by simp [*])) (by simp [AV.pur]; rfl) ?_); (try simp))
  (first | refine aCall_fold rfl ?_ | refine aCallT_fold rfl ?_)
  (first | refine aCallU_p (OfO_spec _ (by simp [OkG_iff, oJmp, oJf]) (by decide)) ?_ | refine aCallTU_p (OfO_spec _ (by simp [OkG_iff, oJmp, oJf]) (by decide)) ?_ | refine aCallU_of (OfO_spec _ (by simp [OkG_iff, oJmp, oJf]) (by decide)) ?_ | refine aCallTU_of (OfO_spec _ (by simp [OkG_iff, oJmp, oJf]) (by decide)) rfl ?_ | refine aCallTU_of (OfO_spec _ (by simp [OkG_iff, oJmp, oJf]) (by decide)) (by simp [AV.pur]; rfl) ?_)
  try simp
  repeat ((first | refine aCall_fold rfl ?_ | refine aCallT_fold rfl ?_); (first | refine aCallU_p (X_spec) ?_ | refine aCallTU_p (X_spec) ?_ | refine aCallU_of (X_spec) ?_ | refine aCallTU_of (X_spec) rfl ?_ | refine aCallTU_of (X_spec) (by simp [AV.pur]; rfl) ?_ | refine aCallU_p (Lit_spec _) ?_ | refine aCallTU_p (Lit_spec _) ?_ | refine aCallU_of (Lit_spec _) ?_ | refine aCallTU_of (Lit_spec _) rfl ?_ | refine aCallTU_of (Lit_spec _) (by simp [AV.pur]; rfl) ?_ | refine aCallU_p (Op4_spec _ _) ?_ | refine aCallTU_p (Op4_spec _ _) ?_ | refine aCallU_of (Op4_spec _ _) ?_ | refine aCallTU_of (Op4_spec _ _) rfl ?_ | refine aCallTU_of (Op4_spec _ _) (by simp [AV.pur]; rfl) ?_ | refine aCallU_p (Int_spec _) ?_ | refine aCallTU_p (Int_spec _) ?_ | refine aCallU_of (Int_spec _) ?_ | refine aCallTU_of (Int_spec _) rfl ?_ | refine aCallTU_of (Int_spec _) (by simp [AV.pur]; rfl) ?_ | refine aCallU_p (Bool_spec _) ?_ | refine aCallTU_p (Bool_spec _) ?_ | refine aCallU_of (Bool_spec _) ?_ | refine aCallTU_of (Bool_spec _) rfl ?_ | refine aCallTU_of (Bool_spec _) (by simp [AV.pur]; rfl) ?_ | refine aCallU_p (Str_spec _) ?_ | refine aCallTU_p (Str_spec _) ?_ | refine aCallU_of (Str_spec _) ?_ | refine aCallTU_of (Str_spec _) rfl ?_ | refine aCallTU_of (Str_spec _) (by simp [AV.pur]; rfl) ?_ | refine aCallU_p (V_spec _) ?_ | refine aCallTU_p (V_spec _) ?_ | refine aCallU_of (V_spec _) ?_ | refine aCallTU_of (V_spec _) rfl ?_ | refine aCallTU_of (V_spec _) (by simp [AV.pur]; rfl) ?_ | refine aCallU_p (Yes_spec _) ?_ | refine aCallTU_p (Yes_spec _) ?_ | refine aCallU_of (Yes_spec _) ?_ | refine aCallTU_of (Yes_spec _) rfl ?_ | refine aCallTU_of (Yes_spec _) (by simp [AV.pur]; rfl) ?_ | refine aCallU_p (Checkv_spec _) ?_ | refine aCallTU_p (Checkv_spec _) ?_ | refine aCallU_of (Checkv_spec _) ?_ | refine aCallTU_of (Checkv_spec _) rfl ?_ | refine aCallTU_of (Checkv_spec _) (by simp [AV.pur]; rfl) ?_ | refine aCallU_p (CheckValue_spec _) ?_ | refine aCallTU_p (CheckValue_spec _) ?_ | refine aCallU_of (CheckValue_spec _) ?_ | refine aCallTU_of (CheckValue_spec _) rfl ?_ | refine aCallTU_of (CheckValue_spec _) (by simp [AV.pur]; rfl) ?_ | refine aCallU_p (Same_spec _ _) ?_ | refine aCallTU_p (Same_spec _ _) ?_ | refine aCallU_of (Same_spec _ _) ?_ | refine aCallTU_of (Same_spec _ _) rfl ?_ | refine aCallTU_of (Same_spec _ _) (by simp [AV.pur]; rfl) ?_ | refine aCallU_p (SameR_spec _ _) ?_ | refine aCallTU_p (SameR_spec _ _) ?_ | refine aCallU_of (SameR_spec _ _) ?_ | refine aCallTU_of (SameR_spec _ _) rfl ?_ | refine aCallTU_of (SameR_spec _ _) (by simp [AV.pur]; rfl) ?_ | refine aCallU_p (Compare_spec _ _) ?_ | refine aCallTU_p (Compare_spec _ _) ?_ | refine aCallU_of (Compare_spec _ _) ?_ | refine aCallTU_of (Compare_spec _ _) rfl ?_ | refine aCallTU_of (Compare_spec _ _) (by simp [AV.pur]; rfl) ?_ | refine aCallU_p (CompareR_spec _ _) ?_ | refine aCallTU_p (CompareR_spec _ _) ?_ | refine aCallU_of (CompareR_spec _ _) ?_ | refine aCallTU_of (CompareR_spec _ _) rfl ?_ | refine aCallTU_of (CompareR_spec _ _) (by simp [AV.pur]; rfl) ?_ | refine aCallU_p (Tup_spec _ (by simp)) ?_ | refine aCallTU_p (Tup_spec _ (by simp)) ?_ | refine aCallU_of (Tup_spec _ (by simp)) ?_ | refine aCallTU_of (Tup_spec _ (by simp)) rfl ?_ | refine aCallTU_of (Tup_spec _ (by simp)) (by simp [AV.pur]; rfl) ?_ | refine aCallU_p (few2_spec _) ?_ | refine aCallTU_p (few2_spec _) ?_ | refine aCallU_of (few2_spec _) ?_ | refine aCallTU_of (few2_spec _) rfl ?_ | refine aCallTU_of (few2_spec _) (by simp [AV.pur]; rfl) ?_ | refine aCallU_p (good2_spec _) ?_ | refine aCallTU_p (good2_spec _) ?_ | refine aCallU_of (good2_spec _) ?_ | refine aCallTU_of (good2_spec _) rfl ?_ | refine aCallTU_of (good2_spec _) (by simp [AV.pur]; rfl) ?_ | refine aCallU_p (of2_spec (by simp [*])) ?_ | refine aCallTU_p (of2_spec (by simp [*])) ?_ | refine aCallU_of (of2_spec (by simp [*])) ?_ | refine aCallTU_of (of2_spec (by simp [*])) rfl ?_ | refine aCallTU_of (of2_spec (by simp [*])) (by simp [AV.pur]; rfl) ?_ | refine aCallU_p (typeOfR_spec (by simp [*])) ?_ | refine aCallTU_p (typeOfR_spec (by simp [*])) ?_ | refine aCallU_of (typeOfR_spec (by simp [*])) ?_ | refine aCallTU_of (typeOfR_spec (by simp [*])) rfl ?_ | refine aCallTU_of (typeOfR_spec (by simp [*])) (by simp [AV.pur]; rfl) ?_); (try simp))
  (first | refine aCall_fold rfl ?_ | refine aCallT_fold rfl ?_)
  (first | refine aCallU_p (genExpr_spec (by simp [OkG_iff, oJmp, oJf]) (by decide)) ?_ | refine aCallTU_p (genExpr_spec (by simp [OkG_iff, oJmp, oJf]) (by decide)) ?_ | refine aCallU_of (genExpr_spec (by simp [OkG_iff, oJmp, oJf]) (by decide)) ?_ | refine aCallTU_of (genExpr_spec (by simp [OkG_iff, oJmp, oJf]) (by decide)) rfl ?_ | refine aCallTU_of (genExpr_spec (by simp [OkG_iff, oJmp, oJf]) (by decide)) (by simp [AV.pur]; rfl) ?_)
  try simp
  have hof : genOf 3 [.mk oLt (.mk 0 0 false [] []) 0 [.mk oX (.mk 0 0 false [] []) 0 [], .mk oLit (.mk 1 3 false [] []) 0 []]] = [oneI oX 0, pushI (intV 3), oneI oLt 0, oneI oJf 6, oneI oX 0, oneI oEmit 1, oneI oRet 0] := by rfl
  have hex : genE (.mk oAnd (.mk 0 0 false [] []) 0 [.mk oX (.mk 0 0 false [] []) 0 [], .mk oX (.mk 0 0 false [] []) 0 []]) = [oneI oX 0, oneI oJf 4, oneI oX 0, oneI oJmp 5, pushI (boolV false)] := by rfl
  simp only [hof, hex]
  simp [encPr, encI_eta, oneI, pushI]
  intro _
  refine aMerge_intro true (fun _ => ?_) ?_
  · repeat ((first | refine aCall_fold rfl ?_ | refine aCallT_fold rfl ?_); (first | refine aCallU_p (X_spec) ?_ | refine aCallTU_p (X_spec) ?_ | refine aCallU_of (X_spec) ?_ | refine aCallTU_of (X_spec) rfl ?_ | refine aCallTU_of (X_spec) (by simp [AV.pur]; rfl) ?_ | refine aCallU_p (Lit_spec _) ?_ | refine aCallTU_p (Lit_spec _) ?_ | refine aCallU_of (Lit_spec _) ?_ | refine aCallTU_of (Lit_spec _) rfl ?_ | refine aCallTU_of (Lit_spec _) (by simp [AV.pur]; rfl) ?_ | refine aCallU_p (Op4_spec _ _) ?_ | refine aCallTU_p (Op4_spec _ _) ?_ | refine aCallU_of (Op4_spec _ _) ?_ | refine aCallTU_of (Op4_spec _ _) rfl ?_ | refine aCallTU_of (Op4_spec _ _) (by simp [AV.pur]; rfl) ?_ | refine aCallU_p (Int_spec _) ?_ | refine aCallTU_p (Int_spec _) ?_ | refine aCallU_of (Int_spec _) ?_ | refine aCallTU_of (Int_spec _) rfl ?_ | refine aCallTU_of (Int_spec _) (by simp [AV.pur]; rfl) ?_ | refine aCallU_p (Bool_spec _) ?_ | refine aCallTU_p (Bool_spec _) ?_ | refine aCallU_of (Bool_spec _) ?_ | refine aCallTU_of (Bool_spec _) rfl ?_ | refine aCallTU_of (Bool_spec _) (by simp [AV.pur]; rfl) ?_ | refine aCallU_p (Str_spec _) ?_ | refine aCallTU_p (Str_spec _) ?_ | refine aCallU_of (Str_spec _) ?_ | refine aCallTU_of (Str_spec _) rfl ?_ | refine aCallTU_of (Str_spec _) (by simp [AV.pur]; rfl) ?_ | refine aCallU_p (V_spec _) ?_ | refine aCallTU_p (V_spec _) ?_ | refine aCallU_of (V_spec _) ?_ | refine aCallTU_of (V_spec _) rfl ?_ | refine aCallTU_of (V_spec _) (by simp [AV.pur]; rfl) ?_ | refine aCallU_p (Yes_spec _) ?_ | refine aCallTU_p (Yes_spec _) ?_ | refine aCallU_of (Yes_spec _) ?_ | refine aCallTU_of (Yes_spec _) rfl ?_ | refine aCallTU_of (Yes_spec _) (by simp [AV.pur]; rfl) ?_ | refine aCallU_p (Checkv_spec _) ?_ | refine aCallTU_p (Checkv_spec _) ?_ | refine aCallU_of (Checkv_spec _) ?_ | refine aCallTU_of (Checkv_spec _) rfl ?_ | refine aCallTU_of (Checkv_spec _) (by simp [AV.pur]; rfl) ?_ | refine aCallU_p (CheckValue_spec _) ?_ | refine aCallTU_p (CheckValue_spec _) ?_ | refine aCallU_of (CheckValue_spec _) ?_ | refine aCallTU_of (CheckValue_spec _) rfl ?_ | refine aCallTU_of (CheckValue_spec _) (by simp [AV.pur]; rfl) ?_ | refine aCallU_p (Same_spec _ _) ?_ | refine aCallTU_p (Same_spec _ _) ?_ | refine aCallU_of (Same_spec _ _) ?_ | refine aCallTU_of (Same_spec _ _) rfl ?_ | refine aCallTU_of (Same_spec _ _) (by simp [AV.pur]; rfl) ?_ | refine aCallU_p (SameR_spec _ _) ?_ | refine aCallTU_p (SameR_spec _ _) ?_ | refine aCallU_of (SameR_spec _ _) ?_ | refine aCallTU_of (SameR_spec _ _) rfl ?_ | refine aCallTU_of (SameR_spec _ _) (by simp [AV.pur]; rfl) ?_ | refine aCallU_p (Compare_spec _ _) ?_ | refine aCallTU_p (Compare_spec _ _) ?_ | refine aCallU_of (Compare_spec _ _) ?_ | refine aCallTU_of (Compare_spec _ _) rfl ?_ | refine aCallTU_of (Compare_spec _ _) (by simp [AV.pur]; rfl) ?_ | refine aCallU_p (CompareR_spec _ _) ?_ | refine aCallTU_p (CompareR_spec _ _) ?_ | refine aCallU_of (CompareR_spec _ _) ?_ | refine aCallTU_of (CompareR_spec _ _) rfl ?_ | refine aCallTU_of (CompareR_spec _ _) (by simp [AV.pur]; rfl) ?_ | refine aCallU_p (Tup_spec _ (by simp)) ?_ | refine aCallTU_p (Tup_spec _ (by simp)) ?_ | refine aCallU_of (Tup_spec _ (by simp)) ?_ | refine aCallTU_of (Tup_spec _ (by simp)) rfl ?_ | refine aCallTU_of (Tup_spec _ (by simp)) (by simp [AV.pur]; rfl) ?_ | refine aCallU_p (few2_spec _) ?_ | refine aCallTU_p (few2_spec _) ?_ | refine aCallU_of (few2_spec _) ?_ | refine aCallTU_of (few2_spec _) rfl ?_ | refine aCallTU_of (few2_spec _) (by simp [AV.pur]; rfl) ?_ | refine aCallU_p (good2_spec _) ?_ | refine aCallTU_p (good2_spec _) ?_ | refine aCallU_of (good2_spec _) ?_ | refine aCallTU_of (good2_spec _) rfl ?_ | refine aCallTU_of (good2_spec _) (by simp [AV.pur]; rfl) ?_ | refine aCallU_p (of2_spec (by simp [*])) ?_ | refine aCallTU_p (of2_spec (by simp [*])) ?_ | refine aCallU_of (of2_spec (by simp [*])) ?_ | refine aCallTU_of (of2_spec (by simp [*])) rfl ?_ | refine aCallTU_of (of2_spec (by simp [*])) (by simp [AV.pur]; rfl) ?_ | refine aCallU_p (typeOfR_spec (by simp [*])) ?_ | refine aCallTU_p (typeOfR_spec (by simp [*])) ?_ | refine aCallU_of (typeOfR_spec (by simp [*])) ?_ | refine aCallTU_of (typeOfR_spec (by simp [*])) rfl ?_ | refine aCallTU_of (typeOfR_spec (by simp [*])) (by simp [AV.pur]; rfl) ?_); (try simp))
    (first | refine aCall_fold rfl ?_ | refine aCallT_fold rfl ?_)
    (first | refine aCallU_p (KeyO_spec _ (by simp [OkG_iff, oJmp, oJf]) (by decide)) ?_ | refine aCallTU_p (KeyO_spec _ (by simp [OkG_iff, oJmp, oJf]) (by decide)) ?_ | refine aCallU_of (KeyO_spec _ (by simp [OkG_iff, oJmp, oJf]) (by decide)) ?_ | refine aCallTU_of (KeyO_spec _ (by simp [OkG_iff, oJmp, oJf]) (by decide)) rfl ?_ | refine aCallTU_of (KeyO_spec _ (by simp [OkG_iff, oJmp, oJf]) (by decide)) (by simp [AV.pur]; rfl) ?_)
    try simp
    simp [encPr, genKey, genE, emitsI]
  · exact gives_p (by simp [oJf, oRet])

def boxE (e : Ex) : List AV := [.p (.str e.op), .p (.int .i64 e.v.k), .p (.int .i64 e.v.i), .p (.bool e.v.b), .p (.str e.v.s), .p (.slice (e.v.t.map encV)), .p (.int .i64 e.n), .p (.slice (e.a.map encE))]

/-- One more op about an expression of truths. -/
def stepS (b : Int) (e : Ex) : Ex :=
  if b.tmod 4 = 0 then .mk [110, 111, 116] zeroV 0 [e]
  else if b.tmod 4 = 1 then .mk oAnd zeroV 0 [e, .mk oLit (boolV true) 0 []]
  else if b.tmod 4 = 2 then .mk oOr zeroV 0 [e, .mk oX zeroV 0 []]
  else .mk oIf zeroV 0 [e, .mk oX zeroV 0 [], .mk oLit (boolV false) 0 []]
def wS (b : Int) : Nat := if b.tmod 4 = 0 then 1 else 4

theorem stepS_ok {b : Int} {e : Ex} (h : OkG e) : OkG (stepS b e) := by
  unfold stepS
  split
  · simp [OkG_iff, h, oJmp, oJf]
  · split
    · simp [OkG_iff, h, oJmp, oJf]
    · split
      · simp [OkG_iff, h, oJmp, oJf]
      · simp [OkG_iff, h, oJmp, oJf]
theorem stepS_we {b : Int} {e : Ex} (h : We 1000000000 e) : We 1000000000 (stepS b e) := by
  unfold stepS
  split
  · simp [h]
  · split
    · simp [h]
    · split
      · simp [h]
      · simp [h]
theorem stepS_size {b : Int} {e : Ex} : sizeE (stepS b e) ≤ sizeE e + 3 := by
  unfold stepS
  split
  · simp [sizeE, sizeEs]; omega
  · split
    · simp [sizeE, sizeEs]; omega
    · split
      · simp [sizeE, sizeEs]; omega
      · simp [sizeE, sizeEs]; omega
theorem stepS_len {b : Int} {e : Ex} : (genE (stepS b e)).length = (genE e).length + wS b := by
  unfold stepS wS
  split
  · simp [genE, genEs, joinI_length]
  · split
    · simp [genE, genEs, choiceI_length]
    · split
      · simp [genE, genEs, choiceI_length]
      · simp [genE, genEs, choiceI_length]

set_option maxRecDepth 100000 in
set_option maxHeartbeats 2000000 in
theorem GenSizes_spec (l : List Int) (hl : ∀ x ∈ l, 0 ≤ x ∧ x ≤ 255) : Abs.Fn Try.prog runnellaw12_GenSizes_i [] [.p (.slice (l.map (.int .u8)))] (.p (.bool true)) [] := by
  apply runnellaw12_GenSizes_fn
  simp [runnellaw12_GenSizes]
  (first | refine aCall_fold rfl ?_ | refine aCallT_fold rfl ?_)
  (first | refine aCallU_p (known12_spec) ?_ | refine aCallTU_p (known12_spec) ?_ | refine aCallU_of (known12_spec) ?_ | refine aCallTU_of (known12_spec) rfl ?_ | refine aCallTU_of (known12_spec) (by simp [AV.pur]; rfl) ?_)
  try simp
  intro _
  refine ⟨fun _ => gives_p rfl, fun h10 => ?_⟩
  (first | refine aCall_fold rfl ?_ | refine aCallT_fold rfl ?_)
  (first | refine aCallU_p (X_spec) ?_ | refine aCallTU_p (X_spec) ?_ | refine aCallU_of (X_spec) ?_ | refine aCallTU_of (X_spec) rfl ?_ | refine aCallTU_of (X_spec) (by simp [AV.pur]; rfl) ?_)
  try simp
  refine loop_by (σ := Nat × Ex) (n := 1) (fun q => [.p (.int .i64 (genE q.2).length), .p (.int .i64 q.1)]) (fun q => [.box (boxE q.2)])
    (fun q => q.1 ≤ l.length ∧ OkG q.2 ∧ We 1000000000 q.2 ∧ sizeE q.2 ≤ 1 + 3 * q.1) (fun q => l.length - q.1) [] (0, xE) (fun _ => rfl) ⟨by simp [genE, genEs], by simp [boxE]⟩ ⟨by simp, xE_ok, by simp, by simp [sizeE, sizeEs]⟩ (fun q B hq hB => ?_)
  obtain ⟨i, e⟩ := q
  obtain ⟨g1, g2, g3, g4⟩ := hq
  simp only at g1 g2 g3 g4
  have hlen := genE_len e
  simp [runnellaw12_GenSizes_L1, boxE]
  intro _
  refine ⟨fun hlt => ?_, fun hge => ?_⟩
  · have hb := hl l[i] (by simp)
    have hm : l[i].tmod 4 = 0 ∨ l[i].tmod 4 = 1 ∨ l[i].tmod 4 = 2 ∨ l[i].tmod 4 = 3 := by
      rw [Int.tmod_eq_emod_of_nonneg hb.1]; omega
    have hs1 := stepS_size (b := l[i]) (e := e)
    have hs2 := stepS_len (b := l[i]) (e := e)
    have hgo : ∀ (n : Int), n = ((genE (stepS l[i] e)).length : Int) → B [.p (.int .i64 n), .p (.int .i64 (i + 1))] [.box (boxE (stepS l[i] e))] := by
      rintro n rfl
      exact hB (i + 1, stepS l[i] e) _ ⟨by simp; omega, stepS_ok g2, stepS_we g3, by simp; omega⟩ (by simp; omega) (by simp) (by simp [Ob.below, AV.under1, boxE]) (by simp) (by simp [AV.under, AV.under1])
    simp [hlt]
    refine ⟨fun h0 => ?_, fun n0 => ⟨fun h1 => ?_, fun n1 => ⟨fun h2 => ?_, fun n2 => ⟨fun h3 => ?_, fun n3 => ?_⟩⟩⟩⟩
    · repeat ((first | refine aCall_fold rfl ?_ | refine aCallT_fold rfl ?_); (first | refine aCallU_p (X_spec) ?_ | refine aCallTU_p (X_spec) ?_ | refine aCallU_of (X_spec) ?_ | refine aCallTU_of (X_spec) rfl ?_ | refine aCallTU_of (X_spec) (by simp [AV.pur]; rfl) ?_ | refine aCallU_p (Lit_spec _) ?_ | refine aCallTU_p (Lit_spec _) ?_ | refine aCallU_of (Lit_spec _) ?_ | refine aCallTU_of (Lit_spec _) rfl ?_ | refine aCallTU_of (Lit_spec _) (by simp [AV.pur]; rfl) ?_ | refine aCallU_p (Op4_spec _ _) ?_ | refine aCallTU_p (Op4_spec _ _) ?_ | refine aCallU_of (Op4_spec _ _) ?_ | refine aCallTU_of (Op4_spec _ _) rfl ?_ | refine aCallTU_of (Op4_spec _ _) (by simp [AV.pur]; rfl) ?_ | refine aCallU_p (Int_spec _) ?_ | refine aCallTU_p (Int_spec _) ?_ | refine aCallU_of (Int_spec _) ?_ | refine aCallTU_of (Int_spec _) rfl ?_ | refine aCallTU_of (Int_spec _) (by simp [AV.pur]; rfl) ?_ | refine aCallU_p (Bool_spec _) ?_ | refine aCallTU_p (Bool_spec _) ?_ | refine aCallU_of (Bool_spec _) ?_ | refine aCallTU_of (Bool_spec _) rfl ?_ | refine aCallTU_of (Bool_spec _) (by simp [AV.pur]; rfl) ?_ | refine aCallU_p (Str_spec _) ?_ | refine aCallTU_p (Str_spec _) ?_ | refine aCallU_of (Str_spec _) ?_ | refine aCallTU_of (Str_spec _) rfl ?_ | refine aCallTU_of (Str_spec _) (by simp [AV.pur]; rfl) ?_ | refine aCallU_p (V_spec _) ?_ | refine aCallTU_p (V_spec _) ?_ | refine aCallU_of (V_spec _) ?_ | refine aCallTU_of (V_spec _) rfl ?_ | refine aCallTU_of (V_spec _) (by simp [AV.pur]; rfl) ?_ | refine aCallU_p (Yes_spec _) ?_ | refine aCallTU_p (Yes_spec _) ?_ | refine aCallU_of (Yes_spec _) ?_ | refine aCallTU_of (Yes_spec _) rfl ?_ | refine aCallTU_of (Yes_spec _) (by simp [AV.pur]; rfl) ?_ | refine aCallU_p (Checkv_spec _) ?_ | refine aCallTU_p (Checkv_spec _) ?_ | refine aCallU_of (Checkv_spec _) ?_ | refine aCallTU_of (Checkv_spec _) rfl ?_ | refine aCallTU_of (Checkv_spec _) (by simp [AV.pur]; rfl) ?_ | refine aCallU_p (CheckValue_spec _) ?_ | refine aCallTU_p (CheckValue_spec _) ?_ | refine aCallU_of (CheckValue_spec _) ?_ | refine aCallTU_of (CheckValue_spec _) rfl ?_ | refine aCallTU_of (CheckValue_spec _) (by simp [AV.pur]; rfl) ?_ | refine aCallU_p (Same_spec _ _) ?_ | refine aCallTU_p (Same_spec _ _) ?_ | refine aCallU_of (Same_spec _ _) ?_ | refine aCallTU_of (Same_spec _ _) rfl ?_ | refine aCallTU_of (Same_spec _ _) (by simp [AV.pur]; rfl) ?_ | refine aCallU_p (SameR_spec _ _) ?_ | refine aCallTU_p (SameR_spec _ _) ?_ | refine aCallU_of (SameR_spec _ _) ?_ | refine aCallTU_of (SameR_spec _ _) rfl ?_ | refine aCallTU_of (SameR_spec _ _) (by simp [AV.pur]; rfl) ?_ | refine aCallU_p (Compare_spec _ _) ?_ | refine aCallTU_p (Compare_spec _ _) ?_ | refine aCallU_of (Compare_spec _ _) ?_ | refine aCallTU_of (Compare_spec _ _) rfl ?_ | refine aCallTU_of (Compare_spec _ _) (by simp [AV.pur]; rfl) ?_ | refine aCallU_p (CompareR_spec _ _) ?_ | refine aCallTU_p (CompareR_spec _ _) ?_ | refine aCallU_of (CompareR_spec _ _) ?_ | refine aCallTU_of (CompareR_spec _ _) rfl ?_ | refine aCallTU_of (CompareR_spec _ _) (by simp [AV.pur]; rfl) ?_ | refine aCallU_p (Tup_spec _ (by simp)) ?_ | refine aCallTU_p (Tup_spec _ (by simp)) ?_ | refine aCallU_of (Tup_spec _ (by simp)) ?_ | refine aCallTU_of (Tup_spec _ (by simp)) rfl ?_ | refine aCallTU_of (Tup_spec _ (by simp)) (by simp [AV.pur]; rfl) ?_ | refine aCallU_p (few2_spec _) ?_ | refine aCallTU_p (few2_spec _) ?_ | refine aCallU_of (few2_spec _) ?_ | refine aCallTU_of (few2_spec _) rfl ?_ | refine aCallTU_of (few2_spec _) (by simp [AV.pur]; rfl) ?_ | refine aCallU_p (good2_spec _) ?_ | refine aCallTU_p (good2_spec _) ?_ | refine aCallU_of (good2_spec _) ?_ | refine aCallTU_of (good2_spec _) rfl ?_ | refine aCallTU_of (good2_spec _) (by simp [AV.pur]; rfl) ?_ | refine aCallU_p (of2_spec (by simp [*])) ?_ | refine aCallTU_p (of2_spec (by simp [*])) ?_ | refine aCallU_of (of2_spec (by simp [*])) ?_ | refine aCallTU_of (of2_spec (by simp [*])) rfl ?_ | refine aCallTU_of (of2_spec (by simp [*])) (by simp [AV.pur]; rfl) ?_ | refine aCallU_p (typeOfR_spec (by simp [*])) ?_ | refine aCallTU_p (typeOfR_spec (by simp [*])) ?_ | refine aCallU_of (typeOfR_spec (by simp [*])) ?_ | refine aCallTU_of (typeOfR_spec (by simp [*])) rfl ?_ | refine aCallTU_of (typeOfR_spec (by simp [*])) (by simp [AV.pur]; rfl) ?_); (try simp [boxE]))
      rw [IntWalk.i64_in _ (by omega), IntWalk.i64_in _ (by omega)]
      have g := hgo ((genE e).length + 1) (by rw [hs2]; simp [wS, h0])
      simp [stepS, h0, boxE] at g
      exact g
    · repeat ((first | refine aCall_fold rfl ?_ | refine aCallT_fold rfl ?_); (first | refine aCallU_p (X_spec) ?_ | refine aCallTU_p (X_spec) ?_ | refine aCallU_of (X_spec) ?_ | refine aCallTU_of (X_spec) rfl ?_ | refine aCallTU_of (X_spec) (by simp [AV.pur]; rfl) ?_ | refine aCallU_p (Lit_spec _) ?_ | refine aCallTU_p (Lit_spec _) ?_ | refine aCallU_of (Lit_spec _) ?_ | refine aCallTU_of (Lit_spec _) rfl ?_ | refine aCallTU_of (Lit_spec _) (by simp [AV.pur]; rfl) ?_ | refine aCallU_p (Op4_spec _ _) ?_ | refine aCallTU_p (Op4_spec _ _) ?_ | refine aCallU_of (Op4_spec _ _) ?_ | refine aCallTU_of (Op4_spec _ _) rfl ?_ | refine aCallTU_of (Op4_spec _ _) (by simp [AV.pur]; rfl) ?_ | refine aCallU_p (Int_spec _) ?_ | refine aCallTU_p (Int_spec _) ?_ | refine aCallU_of (Int_spec _) ?_ | refine aCallTU_of (Int_spec _) rfl ?_ | refine aCallTU_of (Int_spec _) (by simp [AV.pur]; rfl) ?_ | refine aCallU_p (Bool_spec _) ?_ | refine aCallTU_p (Bool_spec _) ?_ | refine aCallU_of (Bool_spec _) ?_ | refine aCallTU_of (Bool_spec _) rfl ?_ | refine aCallTU_of (Bool_spec _) (by simp [AV.pur]; rfl) ?_ | refine aCallU_p (Str_spec _) ?_ | refine aCallTU_p (Str_spec _) ?_ | refine aCallU_of (Str_spec _) ?_ | refine aCallTU_of (Str_spec _) rfl ?_ | refine aCallTU_of (Str_spec _) (by simp [AV.pur]; rfl) ?_ | refine aCallU_p (V_spec _) ?_ | refine aCallTU_p (V_spec _) ?_ | refine aCallU_of (V_spec _) ?_ | refine aCallTU_of (V_spec _) rfl ?_ | refine aCallTU_of (V_spec _) (by simp [AV.pur]; rfl) ?_ | refine aCallU_p (Yes_spec _) ?_ | refine aCallTU_p (Yes_spec _) ?_ | refine aCallU_of (Yes_spec _) ?_ | refine aCallTU_of (Yes_spec _) rfl ?_ | refine aCallTU_of (Yes_spec _) (by simp [AV.pur]; rfl) ?_ | refine aCallU_p (Checkv_spec _) ?_ | refine aCallTU_p (Checkv_spec _) ?_ | refine aCallU_of (Checkv_spec _) ?_ | refine aCallTU_of (Checkv_spec _) rfl ?_ | refine aCallTU_of (Checkv_spec _) (by simp [AV.pur]; rfl) ?_ | refine aCallU_p (CheckValue_spec _) ?_ | refine aCallTU_p (CheckValue_spec _) ?_ | refine aCallU_of (CheckValue_spec _) ?_ | refine aCallTU_of (CheckValue_spec _) rfl ?_ | refine aCallTU_of (CheckValue_spec _) (by simp [AV.pur]; rfl) ?_ | refine aCallU_p (Same_spec _ _) ?_ | refine aCallTU_p (Same_spec _ _) ?_ | refine aCallU_of (Same_spec _ _) ?_ | refine aCallTU_of (Same_spec _ _) rfl ?_ | refine aCallTU_of (Same_spec _ _) (by simp [AV.pur]; rfl) ?_ | refine aCallU_p (SameR_spec _ _) ?_ | refine aCallTU_p (SameR_spec _ _) ?_ | refine aCallU_of (SameR_spec _ _) ?_ | refine aCallTU_of (SameR_spec _ _) rfl ?_ | refine aCallTU_of (SameR_spec _ _) (by simp [AV.pur]; rfl) ?_ | refine aCallU_p (Compare_spec _ _) ?_ | refine aCallTU_p (Compare_spec _ _) ?_ | refine aCallU_of (Compare_spec _ _) ?_ | refine aCallTU_of (Compare_spec _ _) rfl ?_ | refine aCallTU_of (Compare_spec _ _) (by simp [AV.pur]; rfl) ?_ | refine aCallU_p (CompareR_spec _ _) ?_ | refine aCallTU_p (CompareR_spec _ _) ?_ | refine aCallU_of (CompareR_spec _ _) ?_ | refine aCallTU_of (CompareR_spec _ _) rfl ?_ | refine aCallTU_of (CompareR_spec _ _) (by simp [AV.pur]; rfl) ?_ | refine aCallU_p (Tup_spec _ (by simp)) ?_ | refine aCallTU_p (Tup_spec _ (by simp)) ?_ | refine aCallU_of (Tup_spec _ (by simp)) ?_ | refine aCallTU_of (Tup_spec _ (by simp)) rfl ?_ | refine aCallTU_of (Tup_spec _ (by simp)) (by simp [AV.pur]; rfl) ?_ | refine aCallU_p (few2_spec _) ?_ | refine aCallTU_p (few2_spec _) ?_ | refine aCallU_of (few2_spec _) ?_ | refine aCallTU_of (few2_spec _) rfl ?_ | refine aCallTU_of (few2_spec _) (by simp [AV.pur]; rfl) ?_ | refine aCallU_p (good2_spec _) ?_ | refine aCallTU_p (good2_spec _) ?_ | refine aCallU_of (good2_spec _) ?_ | refine aCallTU_of (good2_spec _) rfl ?_ | refine aCallTU_of (good2_spec _) (by simp [AV.pur]; rfl) ?_ | refine aCallU_p (of2_spec (by simp [*])) ?_ | refine aCallTU_p (of2_spec (by simp [*])) ?_ | refine aCallU_of (of2_spec (by simp [*])) ?_ | refine aCallTU_of (of2_spec (by simp [*])) rfl ?_ | refine aCallTU_of (of2_spec (by simp [*])) (by simp [AV.pur]; rfl) ?_ | refine aCallU_p (typeOfR_spec (by simp [*])) ?_ | refine aCallTU_p (typeOfR_spec (by simp [*])) ?_ | refine aCallU_of (typeOfR_spec (by simp [*])) ?_ | refine aCallTU_of (typeOfR_spec (by simp [*])) rfl ?_ | refine aCallTU_of (typeOfR_spec (by simp [*])) (by simp [AV.pur]; rfl) ?_); (try simp [boxE]))
      rw [IntWalk.i64_in _ (by omega), IntWalk.i64_in _ (by omega)]
      have g := hgo ((genE e).length + 4) (by rw [hs2]; simp [wS, h1])
      simp [stepS, h1, boxE] at g
      exact g
    · repeat ((first | refine aCall_fold rfl ?_ | refine aCallT_fold rfl ?_); (first | refine aCallU_p (X_spec) ?_ | refine aCallTU_p (X_spec) ?_ | refine aCallU_of (X_spec) ?_ | refine aCallTU_of (X_spec) rfl ?_ | refine aCallTU_of (X_spec) (by simp [AV.pur]; rfl) ?_ | refine aCallU_p (Lit_spec _) ?_ | refine aCallTU_p (Lit_spec _) ?_ | refine aCallU_of (Lit_spec _) ?_ | refine aCallTU_of (Lit_spec _) rfl ?_ | refine aCallTU_of (Lit_spec _) (by simp [AV.pur]; rfl) ?_ | refine aCallU_p (Op4_spec _ _) ?_ | refine aCallTU_p (Op4_spec _ _) ?_ | refine aCallU_of (Op4_spec _ _) ?_ | refine aCallTU_of (Op4_spec _ _) rfl ?_ | refine aCallTU_of (Op4_spec _ _) (by simp [AV.pur]; rfl) ?_ | refine aCallU_p (Int_spec _) ?_ | refine aCallTU_p (Int_spec _) ?_ | refine aCallU_of (Int_spec _) ?_ | refine aCallTU_of (Int_spec _) rfl ?_ | refine aCallTU_of (Int_spec _) (by simp [AV.pur]; rfl) ?_ | refine aCallU_p (Bool_spec _) ?_ | refine aCallTU_p (Bool_spec _) ?_ | refine aCallU_of (Bool_spec _) ?_ | refine aCallTU_of (Bool_spec _) rfl ?_ | refine aCallTU_of (Bool_spec _) (by simp [AV.pur]; rfl) ?_ | refine aCallU_p (Str_spec _) ?_ | refine aCallTU_p (Str_spec _) ?_ | refine aCallU_of (Str_spec _) ?_ | refine aCallTU_of (Str_spec _) rfl ?_ | refine aCallTU_of (Str_spec _) (by simp [AV.pur]; rfl) ?_ | refine aCallU_p (V_spec _) ?_ | refine aCallTU_p (V_spec _) ?_ | refine aCallU_of (V_spec _) ?_ | refine aCallTU_of (V_spec _) rfl ?_ | refine aCallTU_of (V_spec _) (by simp [AV.pur]; rfl) ?_ | refine aCallU_p (Yes_spec _) ?_ | refine aCallTU_p (Yes_spec _) ?_ | refine aCallU_of (Yes_spec _) ?_ | refine aCallTU_of (Yes_spec _) rfl ?_ | refine aCallTU_of (Yes_spec _) (by simp [AV.pur]; rfl) ?_ | refine aCallU_p (Checkv_spec _) ?_ | refine aCallTU_p (Checkv_spec _) ?_ | refine aCallU_of (Checkv_spec _) ?_ | refine aCallTU_of (Checkv_spec _) rfl ?_ | refine aCallTU_of (Checkv_spec _) (by simp [AV.pur]; rfl) ?_ | refine aCallU_p (CheckValue_spec _) ?_ | refine aCallTU_p (CheckValue_spec _) ?_ | refine aCallU_of (CheckValue_spec _) ?_ | refine aCallTU_of (CheckValue_spec _) rfl ?_ | refine aCallTU_of (CheckValue_spec _) (by simp [AV.pur]; rfl) ?_ | refine aCallU_p (Same_spec _ _) ?_ | refine aCallTU_p (Same_spec _ _) ?_ | refine aCallU_of (Same_spec _ _) ?_ | refine aCallTU_of (Same_spec _ _) rfl ?_ | refine aCallTU_of (Same_spec _ _) (by simp [AV.pur]; rfl) ?_ | refine aCallU_p (SameR_spec _ _) ?_ | refine aCallTU_p (SameR_spec _ _) ?_ | refine aCallU_of (SameR_spec _ _) ?_ | refine aCallTU_of (SameR_spec _ _) rfl ?_ | refine aCallTU_of (SameR_spec _ _) (by simp [AV.pur]; rfl) ?_ | refine aCallU_p (Compare_spec _ _) ?_ | refine aCallTU_p (Compare_spec _ _) ?_ | refine aCallU_of (Compare_spec _ _) ?_ | refine aCallTU_of (Compare_spec _ _) rfl ?_ | refine aCallTU_of (Compare_spec _ _) (by simp [AV.pur]; rfl) ?_ | refine aCallU_p (CompareR_spec _ _) ?_ | refine aCallTU_p (CompareR_spec _ _) ?_ | refine aCallU_of (CompareR_spec _ _) ?_ | refine aCallTU_of (CompareR_spec _ _) rfl ?_ | refine aCallTU_of (CompareR_spec _ _) (by simp [AV.pur]; rfl) ?_ | refine aCallU_p (Tup_spec _ (by simp)) ?_ | refine aCallTU_p (Tup_spec _ (by simp)) ?_ | refine aCallU_of (Tup_spec _ (by simp)) ?_ | refine aCallTU_of (Tup_spec _ (by simp)) rfl ?_ | refine aCallTU_of (Tup_spec _ (by simp)) (by simp [AV.pur]; rfl) ?_ | refine aCallU_p (few2_spec _) ?_ | refine aCallTU_p (few2_spec _) ?_ | refine aCallU_of (few2_spec _) ?_ | refine aCallTU_of (few2_spec _) rfl ?_ | refine aCallTU_of (few2_spec _) (by simp [AV.pur]; rfl) ?_ | refine aCallU_p (good2_spec _) ?_ | refine aCallTU_p (good2_spec _) ?_ | refine aCallU_of (good2_spec _) ?_ | refine aCallTU_of (good2_spec _) rfl ?_ | refine aCallTU_of (good2_spec _) (by simp [AV.pur]; rfl) ?_ | refine aCallU_p (of2_spec (by simp [*])) ?_ | refine aCallTU_p (of2_spec (by simp [*])) ?_ | refine aCallU_of (of2_spec (by simp [*])) ?_ | refine aCallTU_of (of2_spec (by simp [*])) rfl ?_ | refine aCallTU_of (of2_spec (by simp [*])) (by simp [AV.pur]; rfl) ?_ | refine aCallU_p (typeOfR_spec (by simp [*])) ?_ | refine aCallTU_p (typeOfR_spec (by simp [*])) ?_ | refine aCallU_of (typeOfR_spec (by simp [*])) ?_ | refine aCallTU_of (typeOfR_spec (by simp [*])) rfl ?_ | refine aCallTU_of (typeOfR_spec (by simp [*])) (by simp [AV.pur]; rfl) ?_); (try simp [boxE]))
      rw [IntWalk.i64_in _ (by omega), IntWalk.i64_in _ (by omega)]
      have g := hgo ((genE e).length + 4) (by rw [hs2]; simp [wS, h2])
      simp [stepS, h2, boxE] at g
      exact g
    · repeat ((first | refine aCall_fold rfl ?_ | refine aCallT_fold rfl ?_); (first | refine aCallU_p (X_spec) ?_ | refine aCallTU_p (X_spec) ?_ | refine aCallU_of (X_spec) ?_ | refine aCallTU_of (X_spec) rfl ?_ | refine aCallTU_of (X_spec) (by simp [AV.pur]; rfl) ?_ | refine aCallU_p (Lit_spec _) ?_ | refine aCallTU_p (Lit_spec _) ?_ | refine aCallU_of (Lit_spec _) ?_ | refine aCallTU_of (Lit_spec _) rfl ?_ | refine aCallTU_of (Lit_spec _) (by simp [AV.pur]; rfl) ?_ | refine aCallU_p (Op4_spec _ _) ?_ | refine aCallTU_p (Op4_spec _ _) ?_ | refine aCallU_of (Op4_spec _ _) ?_ | refine aCallTU_of (Op4_spec _ _) rfl ?_ | refine aCallTU_of (Op4_spec _ _) (by simp [AV.pur]; rfl) ?_ | refine aCallU_p (Int_spec _) ?_ | refine aCallTU_p (Int_spec _) ?_ | refine aCallU_of (Int_spec _) ?_ | refine aCallTU_of (Int_spec _) rfl ?_ | refine aCallTU_of (Int_spec _) (by simp [AV.pur]; rfl) ?_ | refine aCallU_p (Bool_spec _) ?_ | refine aCallTU_p (Bool_spec _) ?_ | refine aCallU_of (Bool_spec _) ?_ | refine aCallTU_of (Bool_spec _) rfl ?_ | refine aCallTU_of (Bool_spec _) (by simp [AV.pur]; rfl) ?_ | refine aCallU_p (Str_spec _) ?_ | refine aCallTU_p (Str_spec _) ?_ | refine aCallU_of (Str_spec _) ?_ | refine aCallTU_of (Str_spec _) rfl ?_ | refine aCallTU_of (Str_spec _) (by simp [AV.pur]; rfl) ?_ | refine aCallU_p (V_spec _) ?_ | refine aCallTU_p (V_spec _) ?_ | refine aCallU_of (V_spec _) ?_ | refine aCallTU_of (V_spec _) rfl ?_ | refine aCallTU_of (V_spec _) (by simp [AV.pur]; rfl) ?_ | refine aCallU_p (Yes_spec _) ?_ | refine aCallTU_p (Yes_spec _) ?_ | refine aCallU_of (Yes_spec _) ?_ | refine aCallTU_of (Yes_spec _) rfl ?_ | refine aCallTU_of (Yes_spec _) (by simp [AV.pur]; rfl) ?_ | refine aCallU_p (Checkv_spec _) ?_ | refine aCallTU_p (Checkv_spec _) ?_ | refine aCallU_of (Checkv_spec _) ?_ | refine aCallTU_of (Checkv_spec _) rfl ?_ | refine aCallTU_of (Checkv_spec _) (by simp [AV.pur]; rfl) ?_ | refine aCallU_p (CheckValue_spec _) ?_ | refine aCallTU_p (CheckValue_spec _) ?_ | refine aCallU_of (CheckValue_spec _) ?_ | refine aCallTU_of (CheckValue_spec _) rfl ?_ | refine aCallTU_of (CheckValue_spec _) (by simp [AV.pur]; rfl) ?_ | refine aCallU_p (Same_spec _ _) ?_ | refine aCallTU_p (Same_spec _ _) ?_ | refine aCallU_of (Same_spec _ _) ?_ | refine aCallTU_of (Same_spec _ _) rfl ?_ | refine aCallTU_of (Same_spec _ _) (by simp [AV.pur]; rfl) ?_ | refine aCallU_p (SameR_spec _ _) ?_ | refine aCallTU_p (SameR_spec _ _) ?_ | refine aCallU_of (SameR_spec _ _) ?_ | refine aCallTU_of (SameR_spec _ _) rfl ?_ | refine aCallTU_of (SameR_spec _ _) (by simp [AV.pur]; rfl) ?_ | refine aCallU_p (Compare_spec _ _) ?_ | refine aCallTU_p (Compare_spec _ _) ?_ | refine aCallU_of (Compare_spec _ _) ?_ | refine aCallTU_of (Compare_spec _ _) rfl ?_ | refine aCallTU_of (Compare_spec _ _) (by simp [AV.pur]; rfl) ?_ | refine aCallU_p (CompareR_spec _ _) ?_ | refine aCallTU_p (CompareR_spec _ _) ?_ | refine aCallU_of (CompareR_spec _ _) ?_ | refine aCallTU_of (CompareR_spec _ _) rfl ?_ | refine aCallTU_of (CompareR_spec _ _) (by simp [AV.pur]; rfl) ?_ | refine aCallU_p (Tup_spec _ (by simp)) ?_ | refine aCallTU_p (Tup_spec _ (by simp)) ?_ | refine aCallU_of (Tup_spec _ (by simp)) ?_ | refine aCallTU_of (Tup_spec _ (by simp)) rfl ?_ | refine aCallTU_of (Tup_spec _ (by simp)) (by simp [AV.pur]; rfl) ?_ | refine aCallU_p (few2_spec _) ?_ | refine aCallTU_p (few2_spec _) ?_ | refine aCallU_of (few2_spec _) ?_ | refine aCallTU_of (few2_spec _) rfl ?_ | refine aCallTU_of (few2_spec _) (by simp [AV.pur]; rfl) ?_ | refine aCallU_p (good2_spec _) ?_ | refine aCallTU_p (good2_spec _) ?_ | refine aCallU_of (good2_spec _) ?_ | refine aCallTU_of (good2_spec _) rfl ?_ | refine aCallTU_of (good2_spec _) (by simp [AV.pur]; rfl) ?_ | refine aCallU_p (of2_spec (by simp [*])) ?_ | refine aCallTU_p (of2_spec (by simp [*])) ?_ | refine aCallU_of (of2_spec (by simp [*])) ?_ | refine aCallTU_of (of2_spec (by simp [*])) rfl ?_ | refine aCallTU_of (of2_spec (by simp [*])) (by simp [AV.pur]; rfl) ?_ | refine aCallU_p (typeOfR_spec (by simp [*])) ?_ | refine aCallTU_p (typeOfR_spec (by simp [*])) ?_ | refine aCallU_of (typeOfR_spec (by simp [*])) ?_ | refine aCallTU_of (typeOfR_spec (by simp [*])) rfl ?_ | refine aCallTU_of (typeOfR_spec (by simp [*])) (by simp [AV.pur]; rfl) ?_); (try simp [boxE]))
      rw [IntWalk.i64_in _ (by omega), IntWalk.i64_in _ (by omega)]
      have g := hgo ((genE e).length + 4) (by rw [hs2]; simp [wS, h3])
      simp [stepS, h3, boxE] at g
      exact g
    · omega
  · have hi : i = l.length := by omega
    subst hi
    (first | refine aCall_fold rfl ?_ | refine aCallT_fold rfl ?_)
    (first | refine aCallU_p (genExpr_spec g2 (by omega)) ?_ | refine aCallTU_p (genExpr_spec g2 (by omega)) ?_ | refine aCallU_of (genExpr_spec g2 (by omega)) ?_ | refine aCallTU_of (genExpr_spec g2 (by omega)) rfl ?_ | refine aCallTU_of (genExpr_spec g2 (by omega)) (by simp [AV.pur]; rfl) ?_)
    try simp
    (first | refine aCall_fold rfl ?_ | refine aCallT_fold rfl ?_)
    (first | refine aCallU_p (OfO_spec _ (by simpa using g2) (by simp [sizeEs]; omega)) ?_ | refine aCallTU_p (OfO_spec _ (by simpa using g2) (by simp [sizeEs]; omega)) ?_ | refine aCallU_of (OfO_spec _ (by simpa using g2) (by simp [sizeEs]; omega)) ?_ | refine aCallTU_of (OfO_spec _ (by simpa using g2) (by simp [sizeEs]; omega)) rfl ?_ | refine aCallTU_of (OfO_spec _ (by simpa using g2) (by simp [sizeEs]; omega)) (by simp [AV.pur]; rfl) ?_)
    try simp
    (first | refine aCall_fold rfl ?_ | refine aCallT_fold rfl ?_)
    (first | refine aCallU_p (KeyO_spec _ (by simpa using g2) (by simp; omega)) ?_ | refine aCallTU_p (KeyO_spec _ (by simpa using g2) (by simp; omega)) ?_ | refine aCallU_of (KeyO_spec _ (by simpa using g2) (by simp; omega)) ?_ | refine aCallTU_of (KeyO_spec _ (by simpa using g2) (by simp; omega)) rfl ?_ | refine aCallTU_of (KeyO_spec _ (by simpa using g2) (by simp; omega)) (by simp [AV.pur]; rfl) ?_)
    try simp
    have hsm := SameP_self (genE e) (genE_wv e g3)
    have h3 : (genOf 3 [e]).length = (genE e).length + 4 := by simp [genOf, genEs, joinI_length, emitsI]
    have h2 : (genKey e).length = (genE e).length + 2 := by simp [genKey, emitsI]
    have hgr := genExprR_spec g2 (by omega)
    have hof := of4_spec g3
    simp only [encPr, encE_eta] at hsm hgr hof
    simp [encPr, h3, h2]
    rw [IntWalk.i64_in _ (by omega), IntWalk.i64_in _ (by omega)]
    simp
    intro _
    refine aMerge_intro true (fun _ => ?_) (by simp; exact gives_p rfl)
    refine aCallW_of rfl rfl hof ?_
    simp
    refine aCallW_of rfl rfl hgr ?_
    simp
    refine aCallW_of rfl rfl hsm ?_
    simp

theorem GenSizes_row (l : List Int) (hl : ∀ x ∈ l, 0 ≤ x ∧ x ≤ 255) : Abs.Fn Try.prog runnellaw12_GenSizes_i [] [.p (.slice (l.map (.int .u8)))] (.p (.bool true)) [] := GenSizes_spec l hl

end Go.Proofs.Ytjendohiohhciaa
