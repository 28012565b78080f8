/- The package gen over trees: expressions' programs. -/
import Derived.Test.YtjendohiohhciaaZSpGen
import Derived.Test.YtjendohiohhciaaZSpExpr
set_option linter.unusedSimpArgs false
set_option linter.unusedVariables false
namespace Go.Proofs.Ytjendohiohhciaa
open Go Go.Abs

attribute [local irreducible] Abs.Fn

mutual
def genE : Ex → List In
  | .mk op v n a =>
    if op = oLit then [pushI v] else if op = oX then [oneI oX 0]
    else if op = oAt then joinI [(genEs a).getD 0 [], [oneI oAt n]]
    else if op = oTup then joinI [joinI (genEs a), [oneI oTup a.length]]
    else if op = oAnd then choiceI ((genEs a).getD 0 []) ((genEs a).getD 1 []) [pushI (boolV false)]
    else if op = oOr then choiceI ((genEs a).getD 0 []) [pushI (boolV true)] ((genEs a).getD 1 [])
    else if op = oIf then choiceI ((genEs a).getD 0 []) ((genEs a).getD 1 []) ((genEs a).getD 2 [])
    else joinI [joinI (genEs a), [oneI op 0]]
def genEs : List Ex → List (List In)
  | [] => []
  | e :: r => genE e :: genEs r
end

theorem genEs_eq (a : List Ex) : genEs a = a.map genE := by induction a <;> simp_all [genEs]

/-- Do the jumps stay within? -/
def closedI (p : List In) : Prop := ∀ x ∈ p, jumpI x → 0 ≤ x.n ∧ x.n ≤ p.length

theorem closedI.small {p : List In} (h : closedI p) (hl : p.length ≤ 1000000) : ∀ x ∈ p, smallI x := fun x hx hj => ⟨(h x hx hj).1, by have := (h x hx hj).2; omega⟩

theorem mvI_jump {b : Int} {x : In} : jumpI (mvI b x) ↔ jumpI x := by
  unfold mvI
  split
  · rfl
  · rfl
theorem mvI_n {b : Int} {x : In} (h : jumpI x) : (mvI b x).n = x.n + b := by simp [mvI, h]

theorem closedI.mv {p : List In} (h : closedI p) (b : Nat) {m : Nat} (hm : b + p.length ≤ m) : ∀ x ∈ p.map (mvI b), jumpI x → 0 ≤ x.n ∧ x.n ≤ m := by
  intro x hx hj
  obtain ⟨y, hy, rfl⟩ := List.mem_map.1 hx
  have hj' := mvI_jump.1 hj
  obtain ⟨h1, h2⟩ := h y hy hj'
  rw [mvI_n hj']
  omega

theorem joinI_closed : ∀ (l : List (List In)), (∀ p ∈ l, closedI p) → closedI (joinI l) := by
  suffices h : ∀ (l : List (List In)) (acc : List In), closedI acc → (∀ p ∈ l, closedI p) → closedI (l.foldl (fun out p => out ++ p.map (mvI out.length)) acc) from
    fun l hl => h l [] (fun x hx => by simp at hx) hl
  intro l
  induction l with
  | nil => intro acc h _; exact h
  | cons p l ih =>
    intro acc h hl
    refine ih _ (fun x hx hj => ?_) (fun q hq => hl q (by simp [hq]))
    rcases List.mem_append.1 hx with hx | hx
    · have := h x hx hj
      simp; omega
    · exact (hl p (by simp)).mv acc.length (by simp) x hx hj

theorem joinI_two (acc p : List In) : joinI [acc, p] = acc ++ p.map (mvI acc.length) := by
  have h0 : acc.map (mvI 0) = acc := by rw [List.map_congr_left (g := id) (fun x _ => mvI_zero x)]; simp
  simp [joinI, h0]

theorem choiceI_closed {a b c : List In} (ha : closedI a) (hb : closedI b) (hc : closedI c) : closedI (choiceI a b c) := by
  intro x hx hj
  have hlen : (choiceI a b c).length = a.length + b.length + c.length + 2 := by simp [choiceI]; omega
  rw [hlen]
  simp only [choiceI, List.mem_append, List.mem_cons] at hx
  rcases hx with hx | hx | hx | hx | hx
  · have := ha x hx hj; omega
  · subst hx; simp [oneI]; omega
  · exact hb.mv (a.length + 1) (by omega) x (by push_cast; exact hx) hj
  · subst hx; simp [oneI]; omega
  · exact hc.mv (a.length + 1 + b.length + 1) (by omega) x (by push_cast; exact hx) hj
theorem choiceI_length (a b c : List In) : (choiceI a b c).length = a.length + b.length + c.length + 2 := by simp [choiceI]; omega

theorem one_closed {op : List UInt8} : closedI [oneI op 0] := by
  intro x hx _
  simp at hx; subst hx
  simp [oneI]
theorem oneN_closed {op : List UInt8} {n : Int} (h : op ≠ oJmp) (h2 : op ≠ oJf) : closedI [oneI op n] := by
  intro x hx hj
  simp at hx; subst hx
  exact absurd hj (by simp [jumpI, oneI, h, h2])
theorem push_closed {v : Va} : closedI [pushI v] := oneN_closed' where
  oneN_closed' : closedI [pushI v] := by
    intro x hx hj
    simp at hx; subst hx
    exact absurd hj (by simp [jumpI, pushI, oJmp, oJf])

theorem getD_closed {l : List (List In)} (h : ∀ p ∈ l, closedI p) (i : Nat) : closedI (l.getD i []) := by
  rw [List.getD_eq_getElem?_getD]
  cases hi : l[i]? with
  | none => intro x hx; simp at hx
  | some p => exact h p (List.mem_of_getElem? hi)

theorem three_le (l : List (List In)) : (l.getD 0 []).length + (l.getD 1 []).length + (l.getD 2 []).length ≤ (l.map List.length).sum := by
  match l with
  | [] => simp
  | [a] => simp
  | [a, b] => simp
  | a :: b :: c :: r => simp; omega

mutual
theorem genE_closed : ∀ e : Ex, closedI (genE e)
  | .mk op v n a => by
    have h := genEs_closed a
    simp only [genE]
    repeat' split
    · exact push_closed
    · exact one_closed
    · exact joinI_closed _ (fun p hp => by
        simp only [List.mem_cons, List.not_mem_nil, or_false] at hp
        rcases hp with rfl | rfl
        · exact getD_closed h 0
        · exact oneN_closed (by decide) (by decide))
    · exact joinI_closed _ (fun p hp => by
        simp only [List.mem_cons, List.not_mem_nil, or_false] at hp
        rcases hp with rfl | rfl
        · exact joinI_closed _ h
        · exact oneN_closed (by decide) (by decide))
    · exact choiceI_closed (getD_closed h 0) (getD_closed h 1) push_closed
    · exact choiceI_closed (getD_closed h 0) push_closed (getD_closed h 1)
    · exact choiceI_closed (getD_closed h 0) (getD_closed h 1) (getD_closed h 2)
    · exact joinI_closed _ (fun p hp => by
        simp only [List.mem_cons, List.not_mem_nil, or_false] at hp
        rcases hp with rfl | rfl
        · exact joinI_closed _ h
        · exact one_closed)
theorem genEs_closed : ∀ (a : List Ex), ∀ p ∈ genEs a, closedI p
  | [], p, hp => by simp [genEs] at hp
  | e :: r, p, hp => by
    simp only [genEs, List.mem_cons] at hp
    rcases hp with rfl | hp
    · exact genE_closed e
    · exact genEs_closed r p hp
end

mutual
theorem genE_len : ∀ e : Ex, (genE e).length ≤ 4 * sizeE e
  | .mk op v n a => by
    have h := genEs_len a
    have h3 := three_le (genEs a)
    simp only [genE, sizeE]
    repeat' split
    all_goals simp only [joinI_length, choiceI_length, List.map_cons, List.map_nil, List.sum_cons, List.sum_nil, List.length_cons, List.length_nil]
    all_goals omega
theorem genEs_len : ∀ a : List Ex, ((genEs a).map List.length).sum ≤ 4 * sizeEs a
  | [] => by simp [genEs, sizeEs]
  | e :: r => by
    have h1 := genE_len e
    have h2 := genEs_len r
    simp only [genEs, sizeEs, List.map_cons, List.sum_cons]
    omega
end

/-- Has each op its parts? -/
inductive OkG : Ex → Prop where
  | mk (op : List UInt8) (v : Va) (n : Int) (a : List Ex) (h0 : op ≠ oJmp ∧ op ≠ oJf) (h1 : op = oAt → a.length = 1) (h2 : op = oAnd ∨ op = oOr → 2 ≤ a.length) (h3 : op = oIf → 3 ≤ a.length) (ha : ∀ e ∈ a, OkG e) : OkG (.mk op v n a)

theorem eachG_spec (a : List Ex) (hs : sizeEs a ≤ 100000) (hf : ∀ e ∈ a, Abs.Fn Try.prog gen_Expr_i [] [.p (encE e)] (.p (encPr (genE e))) []) :
    Abs.Fn Try.prog gen_each_expr_Expr_i [] [.p (.slice (a.map encE)), .p (.func gen_Expr_i [])] (.p (encPr (joinI (genEs a)))) [] := by
  apply gen_each_expr_Expr_fn
  simp [gen_each_expr_Expr]
  intro _
  refine loop_le (σ := Nat) (n := 0) (fun i => [.p (encPr (joinI (genEs (a.take i)))), .p (.int .i64 i)]) (fun _ => []) (fun i => i ≤ a.length) (fun i => a.length - i) [] 0 (fun _ => rfl) ⟨⟨rfl, rfl, trivial⟩, trivial⟩ (by simp) (fun i B hi hB => ?_)
  simp [gen_each_expr_Expr_L1]
  refine ⟨fun hlt => ?_, fun hge => ?_⟩
  · have hm : a[i] ∈ a := by simp
    have hfi := hf _ hm
    simp only [encE_eta] at hfi
    have hsum := genEs_len a
    have hsplit : genEs a = genEs (a.take i) ++ genE a[i] :: genEs (a.drop (i + 1)) := by
      rw [genEs_eq, genEs_eq, genEs_eq, ← List.map_cons, ← List.map_append, ← List.drop_eq_getElem_cons hlt, List.take_append_drop]
    rw [hsplit] at hsum
    simp only [List.map_append, List.map_cons, List.sum_append, List.sum_cons] at hsum
    have hjl : (joinI (genEs (a.take i))).length = ((genEs (a.take i)).map List.length).sum := joinI_length _
    have hj := join_t [joinI (genEs (a.take i)), genE a[i]] (by rw [joinI_two]; simp; omega) (by
      intro p hp
      simp only [List.mem_cons, List.not_mem_nil, or_false] at hp
      rcases hp with rfl | rfl
      · exact (joinI_closed _ (genEs_closed _)).small (by omega)
      · exact (genE_closed _).small (by omega)) (by simp)
    have hsucc : joinI (genEs (a.take (i + 1))) = joinI [joinI (genEs (a.take i)), genE a[i]] := by
      rw [joinI_two, genEs_eq, genEs_eq, List.take_succ_eq_append_getElem hlt, List.map_append, List.map_cons, List.map_nil, joinI_snoc]
    rw [← hsucc] at hj
    simp [hlt]
    refine aCallW_of rfl rfl hfi ?_
    simp
    refine ⟨rfl, rfl, ?_⟩
    refine aCallW_of rfl rfl hj ?_
    simp
    rw [IntWalk.i64_in _ (by simp [maxLen] at *; omega)]
    exact hB (i + 1) _ _ (by omega) (by omega) (by simp) (by simp) (by simp) (by simp [AV.under, AV.under1]) (by simp)
  · have : i = a.length := by omega
    subst this
    simp
    exact gives_p rfl

theorem sizeEs_mem {a : List Ex} {e : Ex} (h : e ∈ a) : sizeE e ≤ sizeEs a := by
  induction a with
  | nil => simp at h
  | cons x r ih =>
    simp only [sizeEs]
    rcases List.mem_cons.1 h with rfl | h
    · omega
    · have := ih h; omega

@[simp] theorem encPr_len (p : List In) : (encPr p).cells.length = 1 := id rfl
theorem len_sizeEs (a : List Ex) : a.length ≤ sizeEs a := by
  induction a with
  | nil => simp
  | cons e r ih => obtain ⟨o, v, n, l⟩ := e; simp only [sizeEs, sizeE, List.length_cons]; omega

theorem pushB_spec (b : Bool) : Abs.Fn Try.prog gen_push_i [] [.p (.agg [.int .i64 2, .int .i64 0, .bool b, .str [], .slice []])] (.p (encPr [pushI (boolV b)])) [] := by
  have := push_spec (boolV b)
  simpa [boolV] using this

theorem genS {e : Ex} (h : sizeE e ≤ 100000) : ∀ x ∈ genE e, smallI x := (genE_closed e).small (by have := genE_len e; omega)

set_option maxRecDepth 100000 in
set_option maxHeartbeats 1000000 in
theorem genExpr_spec {e : Ex} (h : OkG e) : sizeE e ≤ 100000 → Abs.Fn Try.prog gen_Expr_i [] [.p (encE e)] (.p (encPr (genE e))) [] := by
  induction h with
  | mk op v n a h0 h1 h2 h3 ha ih =>
    intro hs
    have hse : ∀ e ∈ a, sizeE e ≤ 100000 := fun e he => by have := sizeEs_mem he; simp only [sizeE] at hs; omega
    have hf : ∀ e ∈ a, Abs.Fn Try.prog gen_Expr_i [] [.p (encE e)] (.p (encPr (genE e))) [] := fun e he => ih e he (hse e he)
    have hsa : sizeEs a ≤ 99999 := by simp only [sizeE] at hs; omega
    have hlen := genEs_len a
    have hje : (joinI (genEs a)).length ≤ 4 * sizeEs a := by rw [joinI_length]; exact hlen
    have hce : ∀ x ∈ joinI (genEs a), smallI x := (joinI_closed _ (genEs_closed a)).small (by omega)
    have heach := eachG_spec a (by omega) hf
    have hjoin : ∀ (p q : List In), p.length + q.length ≤ 1000000 → (∀ x ∈ p, smallI x) → (∀ x ∈ q, smallI x) → Abs.Fn Try.prog gen_join_i [] [.p (.slice [encPr p, encPr q])] (.p (encPr (joinI [p, q]))) [] := fun p q hl hp hq => join_t [p, q] (by rw [joinI_length]; simp; omega) (by
      intro r hr
      simp only [List.mem_cons, List.not_mem_nil, or_false] at hr
      rcases hr with rfl | rfl
      · exact hp
      · exact hq) (by simp)
    have hone : ∀ (w : List UInt8) (m : Int), w ≠ oJmp → w ≠ oJf → ∀ x ∈ [oneI w m], smallI x := fun w m g1 g2 => (oneN_closed g1 g2).small (by simp)
    have hone0 : ∀ (w : List UInt8), ∀ x ∈ [oneI w 0], smallI x := fun w => one_closed.small (by simp)
    have hpush : ∀ u : Va, ∀ x ∈ [pushI u], smallI x := fun u => push_closed.small (by simp)
    apply gen_Expr_fn
    simp [gen_Expr]
    refine ⟨fun hop => ?_, fun n1 => ⟨fun hop => ?_, fun n2 => ⟨fun hop => ?_, fun n3 => ⟨fun hop => ?_, fun n4 => ⟨fun hop => ?_, fun n5 => ⟨fun hop => ?_, fun n6 => ⟨fun hop => ?_, fun n7 => ?_⟩⟩⟩⟩⟩⟩⟩
    · obtain ⟨k, i, b, s, t⟩ := v
      (first | refine aCall_fold rfl ?_ | refine aCallT_fold rfl ?_)
      (first | refine aCallU_p (push_spec _) ?_ | refine aCallTU_p (push_spec _) ?_ | refine aCallU_of (push_spec _) ?_ | refine aCallTU_of (push_spec _) rfl ?_ | refine aCallTU_of (push_spec _) (by simp [AV.pur]; rfl) ?_)
      try simp
      subst hop
      exact gives_p (by simp [genE, oLit])
    · (first | refine aCall_fold rfl ?_ | refine aCallT_fold rfl ?_)
      (first | refine aCallU_p (one_spec _ 0) ?_ | refine aCallTU_p (one_spec _ 0) ?_ | refine aCallU_of (one_spec _ 0) ?_ | refine aCallTU_of (one_spec _ 0) rfl ?_ | refine aCallTU_of (one_spec _ 0) (by simp [AV.pur]; rfl) ?_)
      try simp
      subst hop
      exact gives_p (by simp [genE, oLit, oX])
    · match a, h1 hop with
      | e0 :: r, _ =>
        simp
        have hf0 := hf e0 (by simp)
        have hj0 := hjoin (genE e0) [oneI oAt n] (by have := genE_len e0; have := hse e0 (by simp); simp; omega) (genS (hse e0 (by simp))) (hone _ _ (by decide) (by decide))
        simp only [encE_eta] at hf0
        refine aCallT_of rfl hf0 rfl ?_
        simp
        refine aCallT_of rfl (one_spec _ _) rfl ?_
        simp
        refine aCallT_of rfl hj0 rfl ?_
        subst hop
        exact gives_p (by simp [genE, genEs, oLit, oX, oAt, oTup, oAnd, oOr, oIf])
    · have hj0 := hjoin (joinI (genEs a)) [oneI oTup a.length] (by simp; omega) hce (hone _ _ (by decide) (by decide))
      refine aCallT_of rfl heach rfl ?_
      have := len_sizeEs a
      simp
      refine ⟨by simp [maxLen]; omega, ?_⟩
      refine aCallT_of rfl (one_spec _ _) rfl ?_
      simp
      refine aCallT_of rfl hj0 rfl ?_
      subst hop
      exact gives_p (by simp [genE, genEs, oLit, oX, oAt, oTup, oAnd, oOr, oIf])
    · match a, h2 (.inl hop) with
      | e0 :: e1 :: r, _ =>
        simp
        have hf0 := hf e0 (by simp)
        have hf1 := hf e1 (by simp)
        have g0 := hse e0 (by simp)
        have g1 := hse e1 (by simp)
        have k0 := genE_len e0
        have k1 := genE_len e1
        have hch := choice_spec (genE e0) (genE e1) [pushI (boolV false)] (by simp; omega) (genS g0) (genS g1) (hpush _)
        simp only [encE_eta] at hf0 hf1
        refine aCallT_of rfl hf0 rfl ?_
        simp
        refine ⟨by omega, ?_⟩
        refine aCallT_of rfl hf1 rfl ?_
        try simp
        refine aCallT_of rfl (Bool_spec false) rfl ?_
        try simp
        refine aCallT_of rfl (pushB_spec _) rfl ?_
        try simp
        refine aCallT_of rfl hch rfl ?_
        subst hop
        exact gives_p (by simp [genE, genEs, oLit, oX, oAt, oTup, oAnd, oOr, oIf])
    · match a, h2 (.inr hop) with
      | e0 :: e1 :: r, _ =>
        simp
        have hf0 := hf e0 (by simp)
        have hf1 := hf e1 (by simp)
        have g0 := hse e0 (by simp)
        have g1 := hse e1 (by simp)
        have k0 := genE_len e0
        have k1 := genE_len e1
        have hch := choice_spec (genE e0) [pushI (boolV true)] (genE e1) (by simp; omega) (genS g0) (hpush _) (genS g1)
        simp only [encE_eta] at hf0 hf1
        refine aCallT_of rfl hf0 rfl ?_
        try simp
        refine aCallT_of rfl (Bool_spec true) rfl ?_
        try simp
        refine aCallT_of rfl (pushB_spec _) rfl ?_
        simp
        refine ⟨by omega, ?_⟩
        refine aCallT_of rfl hf1 rfl ?_
        try simp
        refine aCallT_of rfl hch rfl ?_
        subst hop
        exact gives_p (by simp [genE, genEs, oLit, oX, oAt, oTup, oAnd, oOr, oIf])
    · match a, h3 hop with
      | e0 :: e1 :: e2 :: r, _ =>
        simp
        have hf0 := hf e0 (by simp)
        have hf1 := hf e1 (by simp)
        have hf2 := hf e2 (by simp)
        have g0 := hse e0 (by simp)
        have g1 := hse e1 (by simp)
        have g2 := hse e2 (by simp)
        have hl3 : (genE e0).length + (genE e1).length + (genE e2).length ≤ 4 * sizeEs (e0 :: e1 :: e2 :: r) := by
          have k0 := genE_len e0
          have k1 := genE_len e1
          have k2 := genE_len e2
          simp only [sizeEs]
          omega
        have hch := choice_spec (genE e0) (genE e1) (genE e2) (by omega) (genS g0) (genS g1) (genS g2)
        simp only [encE_eta] at hf0 hf1 hf2
        refine aCallT_of rfl hf0 rfl ?_
        simp
        refine ⟨by omega, ?_⟩
        refine aCallT_of rfl hf1 rfl ?_
        simp
        refine ⟨by omega, ?_⟩
        refine aCallT_of rfl hf2 rfl ?_
        try simp
        refine aCallT_of rfl hch rfl ?_
        subst hop
        exact gives_p (by simp [genE, genEs, oLit, oX, oAt, oTup, oAnd, oOr, oIf])
    · have hj0 := hjoin (joinI (genEs a)) [oneI op 0] (by simp; omega) hce (hone0 _)
      refine aCallT_of rfl heach rfl ?_
      simp
      refine aCallT_of rfl (one_spec _ _) rfl ?_
      simp
      refine aCallT_of rfl hj0 rfl ?_
      exact gives_p (by simp [genE, genEs, oLit, oX, oAt, oTup, oAnd, oOr, oIf, n1, n2, n3, n4, n5, n6, n7])

end Go.Proofs.Ytjendohiohhciaa
