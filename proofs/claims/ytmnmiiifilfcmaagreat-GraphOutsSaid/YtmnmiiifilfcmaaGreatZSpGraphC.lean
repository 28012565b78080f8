/- The package graph over trees: a node's check. -/
import Derived.Test.YtmnmiiifilfcmaaGreatZSpGraphB
set_option linter.unusedSimpArgs false
set_option linter.unusedVariables false
namespace Go.Proofs.YtmnmiiifilfcmaaGreat
open Go Go.Abs

attribute [local irreducible] Abs.Fn

theorem outP_er {o : Opr} {ins : List Ty} {f : Int} (h : outP o ins = .er f) : f ≠ 0 := by
  unfold outP at h
  split at h
  · cases h; decide
  split at h
  · cases h; decide
  split at h
  · cases h; decide
  split at h
  · cases h; decide
  split at h
  · rename_i hx
    cases h
    split at hx
    · exact check7_er hx
    · simp at hx
  · split at h
    · rename_i hx
      cases h
      exact ck7_er _ _ _ hx
    · unfold lastO at h
      split at h
      · cases h; decide
      · split at h
        · cases h; assumption
        · simp at h

/-- What an operator's contract asks for. -/
structure OkN (n : Nd) : Prop where
  es : ∀ e ∈ n.op.es, We 1000000000 e ∧ sizeE e ≤ 1000000000
  key : We 1000000000 n.op.key ∧ sizeE n.op.key ≤ 1000000000
  len : n.op.es.length ≤ 1000000
  ins : n.ins.length ≤ 1000000

/-- Nodes of which each reads what stands ahead. -/
def OkA (l : List Nd) : Prop := ∀ k (hk : k < l.length), (∀ i ∈ l[k].ins, 0 ≤ i ∧ i < k) ∧ l[k].ins.length ≤ 1000000

theorem okA_snoc {l : List Nd} {n : Nd} (h : OkA l) (hn : ∀ i ∈ n.ins, 0 ≤ i ∧ i < l.length) (hl : n.ins.length ≤ 1000000) : OkA (l ++ [n]) := by
  intro k hk
  rcases Nat.lt_or_ge k l.length with g | g
  · rw [List.getElem_append_left g]
    exact h k g
  · have : k = l.length := by simp at hk; omega
    subst this
    simp
    exact ⟨hn, hl⟩

theorem seenIn_in (ahead : List Nd) : ∀ (r s : List Int), seenIn ahead s r = true → ∀ i ∈ r, 0 ≤ i ∧ i < ahead.length
  | [], s, h, i, hi => by simp at hi
  | x :: r, s, h, i, hi => by
    simp only [seenIn] at h
    split at h
    · simp at h
    · rcases List.mem_cons.1 hi with rfl | hi
      · omega
      · exact seenIn_in ahead r _ h i hi

set_option maxRecDepth 100000 in
set_option maxHeartbeats 1000000 in
theorem Node_check_spec (n : Nd) (ahead : List Nd) (ts : List Ty) (hn : OkN n) (ha : OkA ahead) (hal : ahead.length ≤ 1000) (hts : ts.length = ahead.length) :
    Abs.Fn Tryz.prog graph_Node_check_i [] [.p (encN n), .p (.slice (ahead.map encN)), .p (.slice (ts.map encT))] (.tup [.p (encT (nodeN ahead ts n).1), .p (.int .i64 (nodeN ahead ts n).2)]) [] := by
  have c1 := containsF_spec (check1C_spec n) ahead
  have c2 := containsF_spec (check2C_spec n) ahead
  have hins := ins_spec n ahead
  simp only [encN_eta] at hins
  have r6 : ((n.uid ≠ [] ∧ nameS n.uid = false) ∨ nameS n.grp = false) → nodeN ahead ts n = (.mk 0 [], 6) := fun h => by rw [nodeN, if_pos h]
  have r7 : ¬ ((n.uid ≠ [] ∧ nameS n.uid = false) ∨ nameS n.grp = false) → (n.uid ≠ [] ∧ ahead.any (fun o => decide (o.uid = n.uid)) = true) → nodeN ahead ts n = (.mk 0 [], 7) := fun h h' => by rw [nodeN, if_neg h, if_pos h']
  have r1 : ¬ ((n.uid ≠ [] ∧ nameS n.uid = false) ∨ nameS n.grp = false) → ¬ (n.uid ≠ [] ∧ ahead.any (fun o => decide (o.uid = n.uid)) = true) → (n.par < 1 ∨ 4 < n.par ∨ n.mx < n.par ∨ 16 < n.mx ∨ seenIn ahead [] n.ins = false) → nodeN ahead ts n = (.mk 0 [], 1) := fun h h' h'' => by rw [nodeN, if_neg h, if_neg h', if_pos h'']
  have r0 : ¬ ((n.uid ≠ [] ∧ nameS n.uid = false) ∨ nameS n.grp = false) → ¬ (n.uid ≠ [] ∧ ahead.any (fun o => decide (o.uid = n.uid)) = true) → ¬ (n.par < 1 ∨ 4 < n.par ∨ n.mx < n.par ∨ 16 < n.mx ∨ seenIn ahead [] n.ins = false) → nodeN ahead ts n = (match outP n.op (n.ins.map (fun i => ts.getD i.toNat (.mk 0 []))) with
    | .er e => (.mk 0 [], e)
    | .ok t => if 64 < wtN (wtsG [] ahead) n then (t, 10) else if n.op.name ≠ [] ∧ ahead.any (fun o => decide (o.op.k = n.op.k) && decide (o.op.name = n.op.name)) = true then (t, 7) else (t, 0)) := fun h h' h'' => by rw [nodeN, if_neg h, if_neg h', if_neg h'']; rfl
  generalize nodeN ahead ts n = r at *
  generalize (ahead.any fun o => decide (o.uid = n.uid)) = A1 at *
  generalize (ahead.any fun o => decide (o.op.k = n.op.k) && decide (o.op.name = n.op.name)) = A2 at *
  obtain ⟨i26, hi26, hs26⟩ : ∃ i, Tryz.prog.info? 30 = some i ∧ i.size = 2 := by
    have h : (Tryz.prog.info? 30).map (·.size) = some 2 := by kernel_rfl
    exact Option.map_eq_some_iff.1 h
  apply graph_Node_check_fn
  unfold graph_Node_check_P0
  simp -implicitDefEqProofs
  rw [graph_Node_check_c1_eq]
  unfold graph_Node_check_P1
  simp -implicitDefEqProofs
  rw [graph_Node_check_c2_eq]
  unfold graph_Node_check_P2
  simp -implicitDefEqProofs
  rw [graph_Node_check_c3_eq]
  unfold graph_Node_check_P3
  simp -implicitDefEqProofs
  refine aMerge_intro (!nameS n.uid) (fun _ => ?_) ?_
  · refine aCallW_of rfl rfl (name7_spec n.uid) ?_
    simp -implicitDefEqProofs
  simp -implicitDefEqProofs
  rw [graph_Node_check_c4_eq]
  unfold graph_Node_check_P4
  simp -implicitDefEqProofs
  refine ⟨fun h1 h2 => ?_, fun hu => ?_⟩
  · rw [graph_Node_check_c5_eq]
    unfold graph_Node_check_P5
    simp -implicitDefEqProofs
    rw [r6 (.inl ⟨h1, h2⟩)]
    simp -implicitDefEqProofs [aRes, tupOf, hi26, hs26, aggD]
    exact gives_pure (by simp [AV.pur])
  refine aCallW_of rfl rfl (name7_spec n.grp) ?_
  simp -implicitDefEqProofs
  rw [graph_Node_check_c5_eq]
  unfold graph_Node_check_P5
  simp -implicitDefEqProofs
  refine ⟨fun h2 => ?_, fun hgp => ?_⟩
  · rw [r6 (.inr h2)]
    simp -implicitDefEqProofs [aRes, tupOf, hi26, hs26, aggD]
    exact gives_pure (by simp [AV.pur])
  have n6 : ¬ ((n.uid ≠ [] ∧ nameS n.uid = false) ∨ nameS n.grp = false) := by
    rintro (⟨q1, q2⟩ | q)
    · rw [hu q1] at q2; simp at q2
    · rw [hgp] at q; simp at q
  refine aMerge_intro A1 (fun _ => ?_) ?_
  · refine aCallW_of rfl rfl c1 ?_
    simp -implicitDefEqProofs
  simp -implicitDefEqProofs
  rw [graph_Node_check_c7_eq]
  unfold graph_Node_check_P7
  simp -implicitDefEqProofs
  refine ⟨fun h1 h2 => ?_, fun hA => ?_⟩
  · rw [r7 n6 ⟨h1, h2⟩]
    simp -implicitDefEqProofs [aRes, tupOf, hi26, hs26, aggD]
    exact gives_pure (by simp [AV.pur])
  have n7 : ¬ (n.uid ≠ [] ∧ A1 = true) := fun ⟨q1, q2⟩ => by rw [hA q1] at q2; simp at q2
  have r1' := r1 n6 n7
  have r0' := r0 n6 n7
  rw [graph_Node_check_c9_eq]
  unfold graph_Node_check_P9
  simp -implicitDefEqProofs
  refine ⟨fun q1 => ?_, fun nq1 => ?_⟩
  · rw [graph_Node_check_c13_eq]
    unfold graph_Node_check_P13
    simp -implicitDefEqProofs
    rw [r1' (by first | exact .inl q1 | exact .inr (.inl q1) | exact .inr (.inr (.inl q1)) | exact .inr (.inr (.inr (.inl q1))))]
    simp -implicitDefEqProofs [aRes, tupOf, hi26, hs26, aggD]
    exact gives_pure (by simp [AV.pur])
  rw [graph_Node_check_c10_eq]
  unfold graph_Node_check_P10
  simp -implicitDefEqProofs
  refine ⟨fun q2 => ?_, fun nq2 => ?_⟩
  · rw [graph_Node_check_c13_eq]
    unfold graph_Node_check_P13
    simp -implicitDefEqProofs
    rw [r1' (by first | exact .inl q2 | exact .inr (.inl q2) | exact .inr (.inr (.inl q2)) | exact .inr (.inr (.inr (.inl q2))))]
    simp -implicitDefEqProofs [aRes, tupOf, hi26, hs26, aggD]
    exact gives_pure (by simp [AV.pur])
  rw [graph_Node_check_c11_eq]
  unfold graph_Node_check_P11
  simp -implicitDefEqProofs
  refine ⟨fun q3 => ?_, fun nq3 => ?_⟩
  · rw [graph_Node_check_c13_eq]
    unfold graph_Node_check_P13
    simp -implicitDefEqProofs
    rw [r1' (by first | exact .inl q3 | exact .inr (.inl q3) | exact .inr (.inr (.inl q3)) | exact .inr (.inr (.inr (.inl q3))))]
    simp -implicitDefEqProofs [aRes, tupOf, hi26, hs26, aggD]
    exact gives_pure (by simp [AV.pur])
  rw [graph_Node_check_c12_eq]
  unfold graph_Node_check_P12
  simp -implicitDefEqProofs
  refine ⟨fun q4 => ?_, fun nq4 => ?_⟩
  · rw [graph_Node_check_c13_eq]
    unfold graph_Node_check_P13
    simp -implicitDefEqProofs
    rw [r1' (by first | exact .inl q4 | exact .inr (.inl q4) | exact .inr (.inr (.inl q4)) | exact .inr (.inr (.inr (.inl q4))))]
    simp -implicitDefEqProofs [aRes, tupOf, hi26, hs26, aggD]
    exact gives_pure (by simp [AV.pur])
  refine aCallW_of rfl rfl hins ?_
  simp -implicitDefEqProofs
  rw [graph_Node_check_c13_eq]
  unfold graph_Node_check_P13
  simp -implicitDefEqProofs
  refine ⟨fun q5 => ?_, fun hseen => ?_⟩
  · rw [r1' (.inr (.inr (.inr (.inr q5))))]
    simp -implicitDefEqProofs [aRes, tupOf, hi26, hs26, aggD]
    exact gives_pure (by simp [AV.pur])
  have n1 : ¬ (n.par < 1 ∨ 4 < n.par ∨ n.mx < n.par ∨ 16 < n.mx ∨ seenIn ahead [] n.ins = false) := by
    rw [hseen]; simp; omega
  have r0'' := r0' n1
  have hin := seenIn_in ahead n.ins [] hseen
  have hof := of_spec ts n.ins (fun i hi => by have := hin i hi; omega) hn.ins
  have hout := Out7_spec n.op (n.ins.map (fun i => ts.getD i.toNat (.mk 0 []))) hn.es hn.key hn.len (by simpa using hn.ins)
  have hw := weight_spec ahead n (by omega) (okA_snoc ha hin hn.ins)
  have hcl := cloneN_spec ahead (by omega)
  generalize (n.ins.map (fun i => ts.getD i.toNat (.mk 0 []))) = m at *
  generalize wtN (wtsG [] ahead) n = w at *
  simp only [encO_eta] at hout
  simp only [List.map_append, List.map_cons, List.map_nil, encN_eta] at hw
  rw [graph_Node_check_c14_eq]
  unfold graph_Node_check_P14
  simp -implicitDefEqProofs
  refine aCallT_of rfl hof rfl ?_
  simp -implicitDefEqProofs
  cases hr : outP n.op m with
  | er f =>
    have hf := outP_er hr
    rw [hr] at hout r0''
    simp only at r0''
    refine aCallT_of rfl hout (by simp [AV.pur, tyR]; rfl) ?_
    simp -implicitDefEqProofs [tyR, R.get, R.num]
    rw [graph_Node_check_c15_eq]
    unfold graph_Node_check_P15
    simp -implicitDefEqProofs [hf]
    rw [r0'']
    rw [graph_Node_check_c17_eq]
    unfold graph_Node_check_P17
    simp -implicitDefEqProofs [hf]
    refine aMerge_intro false (fun h => by simp at h) ?_
    simp -implicitDefEqProofs
    rw [graph_Node_check_c19_eq]
    unfold graph_Node_check_P19
    simp -implicitDefEqProofs [aRes, tupOf, hi26, hs26, aggD]
    exact gives_pure (by simp [AV.pur])
  | ok t =>
    rw [hr] at hout r0''
    simp only at r0''
    refine aCallT_of rfl hout (by simp [AV.pur, tyR]; rfl) ?_
    simp -implicitDefEqProofs [tyR, R.get, R.num]
    rw [graph_Node_check_c15_eq]
    unfold graph_Node_check_P15
    simp -implicitDefEqProofs
    refine ⟨?_, ?_, ?_⟩
    all_goals
      refine aCallW_of rfl rfl hcl ?_
      simp -implicitDefEqProofs
      refine ⟨⟨encN_size ahead, by simp, by simp; omega⟩, ?_⟩
      refine aCallW_of rfl rfl hw ?_
      simp -implicitDefEqProofs
      refine ⟨fun hb => ?_, fun hb => ?_⟩
      · rw [if_pos hb] at r0''
        rw [r0'']
        rw [graph_Node_check_c17_eq]
        unfold graph_Node_check_P17
        simp -implicitDefEqProofs
        refine aMerge_intro false (fun h => by simp at h) ?_
        simp -implicitDefEqProofs
        rw [graph_Node_check_c19_eq]
        unfold graph_Node_check_P19
        simp -implicitDefEqProofs [aRes, tupOf, hi26, hs26, aggD]
        exact gives_pure (by simp [AV.pur])
      · rw [if_neg (by omega)] at r0''
        rw [graph_Node_check_c17_eq]
        unfold graph_Node_check_P17
        simp -implicitDefEqProofs
        refine aMerge_intro A2 (fun _ => ?_) ?_
        · refine aCallW_of rfl rfl c2 ?_
          simp -implicitDefEqProofs
        simp -implicitDefEqProofs
        refine ⟨fun g1 g2 => ?_, fun g => ?_⟩
        · rw [if_pos ⟨g1, g2⟩] at r0''
          rw [r0'']
          rw [graph_Node_check_c19_eq]
          unfold graph_Node_check_P19
          simp -implicitDefEqProofs [aRes, tupOf, hi26, hs26, aggD]
          exact gives_pure (by simp [AV.pur])
        · rw [if_neg (fun ⟨q1, q2⟩ => by rw [g q1] at q2; simp at q2)] at r0''
          rw [r0'']
          rw [graph_Node_check_c19_eq]
          unfold graph_Node_check_P19
          simp -implicitDefEqProofs [aRes, tupOf, hi26, hs26, aggD]
          exact gives_pure (by simp [AV.pur])

end Go.Proofs.YtmnmiiifilfcmaaGreat
