/- The package graph over trees: a job's types, its check. -/
import Derived.Test.YtmnmiiifilfcmaaGreatZSpGraphC
set_option linter.unusedSimpArgs false
set_option linter.unusedVariables false
namespace Go.Proofs.YtmnmiiifilfcmaaGreat
open Go Go.Abs

attribute [local irreducible] Abs.Fn

theorem nodeN_seen {ahead : List Nd} {ts : List Ty} {n : Nd} (h : (nodeN ahead ts n).2 = 0) : seenIn ahead [] n.ins = true := by
  unfold nodeN at h
  split at h
  · simp at h
  split at h
  · simp at h
  split at h
  · simp at h
  · rename_i h3
    cases hs : seenIn ahead [] n.ins
    · exact absurd (.inr (.inr (.inr (.inr hs)))) h3
    · rfl

theorem okA_next {g : List Nd} {i : Nat} (hlt : i < g.length) {ts : List Ty} (ha : OkA (g.take i)) (hn : OkN g[i]) (h : (nodeN (g.take i) ts g[i]).2 = 0) : OkA (g.take (i + 1)) := by
  rw [← take_snoc hlt]
  exact okA_snoc ha (seenIn_in _ _ _ (nodeN_seen h)) hn.ins

theorem goG_step {g : List Nd} {i : Nat} (hlt : i < g.length) (ts : List Ty) : goG (g.take i) ts (g.drop i) = if (nodeN (g.take i) ts g[i]).2 ≠ 0 then .bad i (nodeN (g.take i) ts g[i]).2 else goG (g.take (i + 1)) (ts ++ [(nodeN (g.take i) ts g[i]).1]) (g.drop (i + 1)) := by
  rw [List.drop_eq_getElem_cons hlt, goG, take_snoc hlt, List.length_take, Nat.min_eq_left (Nat.le_of_lt hlt)]

set_option maxRecDepth 100000 in
theorem Types_spec (g : List Nd) (hok : ∀ n ∈ g, OkN n) (hl : g.length ≤ 1000) : Abs.Fn Tryz.prog graph_Types_i [] [.p (.slice (g.map encN))] (.p (.slice ((typesG g).map encT))) [] := by
  apply graph_Types_fn
  simp [graph_Types]
  intro hml
  refine loop_by (σ := Nat × List Ty) (n := 1) (fun q => [.own 0 (q.2.map encT), .p (.int .i64 q.1)]) (fun q => [.row q.2.length 2]) (fun q => q.1 ≤ g.length ∧ q.2.length = q.1 ∧ goG (g.take q.1) q.2 (g.drop q.1) = goG [] [] g ∧ OkA (g.take q.1)) (fun q => g.length - q.1) [.slot 0 2] (0, []) (fun _ => rfl) ⟨rfl, rfl⟩ ⟨by simp, rfl, by simp, fun k hk => by simp at hk⟩ (fun q B hq hB => ?_)
  obtain ⟨i, ts⟩ := q
  obtain ⟨h1, h2, h3, h4⟩ := hq
  simp only at h1 h2 h3 h4
  have htg : typesG g = match goG [] [] g with
    | .bad _ _ => []
    | .ok ts => ts := rfl
  generalize typesG g = R at *
  generalize goG [] [] g = G at *
  simp [graph_Types_L1]
  refine ⟨fun hlt => ?_, fun hge => ?_⟩
  · have hc := Node_check_spec g[i] (g.take i) ts (hok _ (List.getElem_mem hlt)) h4 (by simp; omega) (by simp [h2]; omega)
    have hnx := okA_next (ts := ts) hlt h4 (hok _ (List.getElem_mem hlt))
    rw [goG_step hlt] at h3
    generalize nodeN (g.take i) ts g[i] = r at *
    simp only [encN_eta, List.map_take] at hc
    simp [hlt]
    simp [aSliceSl, atSize]
    refine ⟨by omega, ?_⟩
    refine aCallT_of rfl hc (by simp [AV.pur]; rfl) ?_
    simp
    refine ⟨fun hz => ?_, fun hz => ?_⟩
    · rw [if_pos hz] at h3
      subst h3
      rw [htg]
      exact gives_pure (by simp [AV.pur])
    · rw [if_neg (by simpa using hz)] at h3
      refine ⟨⟨fun e he => ?_, by simp, by simp; omega⟩, ?_⟩
      · obtain ⟨x, _, rfl⟩ := List.mem_map.1 he; simp
      rw [IntWalk.i64_in _ (by omega)]
      refine cast (congrArg (fun x => B x _) ?_) (hB (i + 1, ts ++ [r.1]) _ ⟨by simp only; omega, by simp; omega, h3, hnx hz⟩ (by simp only; omega) ?_ ?_ ?_ (by simp [AV.under, AV.under1]))
      · simp
      · simp
      · simp [Ob.below, AV.under1]
      · simp
  · have : i = g.length := by omega
    subst this
    rw [List.drop_length, goG] at h3
    subst h3
    (first | refine aCall_fold rfl ?_ | refine aCallT_fold rfl ?_)
    (first | refine aCallU_p (clipT_spec ts) ?_ | refine aCallTU_p (clipT_spec ts) ?_ | refine aCallU_of (clipT_spec ts) ?_ | refine aCallTU_of (clipT_spec ts) rfl ?_ | refine aCallTU_of (clipT_spec ts) (by simp [AV.pur]; rfl) ?_)
    try simp
    rw [htg]
    exact gives_pure (by simp [AV.pur])

set_option maxRecDepth 100000 in
theorem GCheck_spec (g : List Nd) (hok : ∀ n ∈ g, OkN n) : Abs.Fn Tryz.prog graph_Check_i [] [.p (.slice (g.map encN))] (.tup [.p (.int .i64 (checkG g).1), .p (.int .i64 (checkG g).2)]) [] := by
  apply graph_Check_fn
  simp [graph_Check]
  intro hml
  refine ⟨fun h0 => ?_, fun h0 _ => ⟨fun h16 => ?_, fun h16 _ => ?_⟩⟩
  · subst h0
    exact gives_pure (by simp [AV.pur, checkG])
  · have : checkG g = (0, 10) := by rw [checkG, if_neg h0, if_pos (by omega)]
    rw [this]
    exact gives_pure (by simp [AV.pur])
  have hck : checkG g = match goG [] [] g with
    | .bad i e => ((i : Int), e)
    | .ok _ => match loneFrom g 0 g with
      | some i => ((i : Int), 1)
      | none => (0, 0) := by rw [checkG, if_neg h0, if_neg (by omega)]; rfl
  generalize checkG g = R at *
  refine loop_by (σ := Nat × List Ty) (n := 1) (fun q => [.own 0 (q.2.map encT), .p (.int .i64 q.1)]) (fun q => [.row q.2.length 2]) (fun q => q.1 ≤ g.length ∧ q.2.length = q.1 ∧ goG (g.take q.1) q.2 (g.drop q.1) = goG [] [] g ∧ OkA (g.take q.1)) (fun q => g.length - q.1) [.slot 0 2] (0, []) (fun _ => rfl) ⟨rfl, rfl⟩ ⟨by simp, rfl, by simp, fun k hk => by simp at hk⟩ (fun q B hq hB => ?_)
  obtain ⟨i, ts⟩ := q
  obtain ⟨h1, h2, h3, h4⟩ := hq
  simp only at h1 h2 h3 h4
  generalize goG [] [] g = G at *
  simp [graph_Check_L1]
  refine ⟨fun hlt => ?_, fun hge => ?_⟩
  · have hc := Node_check_spec g[i] (g.take i) ts (hok _ (List.getElem_mem hlt)) h4 (by simp; omega) (by simp [h2]; omega)
    have hnx := okA_next (ts := ts) hlt h4 (hok _ (List.getElem_mem hlt))
    rw [goG_step hlt] at h3
    generalize nodeN (g.take i) ts g[i] = r at *
    simp only [encN_eta, List.map_take] at hc
    simp [hlt]
    simp [aSliceSl, atSize]
    refine ⟨by omega, ?_⟩
    refine aCallT_of rfl hc (by simp [AV.pur]; rfl) ?_
    simp
    refine ⟨fun hz => ?_, fun hz => ?_⟩
    · rw [if_pos hz] at h3
      subst h3
      rw [hck]
      exact gives_pure (by simp [AV.pur])
    · rw [if_neg (by simpa using hz)] at h3
      refine ⟨⟨fun e he => ?_, by simp, by simp; omega⟩, ?_⟩
      · obtain ⟨x, _, rfl⟩ := List.mem_map.1 he; simp
      rw [IntWalk.i64_in _ (by omega)]
      refine cast (congrArg (fun x => B x _) ?_) (hB (i + 1, ts ++ [r.1]) _ ⟨by simp only; omega, by simp; omega, h3, hnx hz⟩ (by simp only; omega) ?_ ?_ ?_ (by simp [AV.under, AV.under1]))
      · simp
      · simp
      · simp [Ob.below, AV.under1]
      · simp
  · have : i = g.length := by omega
    subst this
    rw [List.drop_length, goG] at h3
    subst h3
    simp only at hck
    clear hB h4
    intro _
    refine loop_by (σ := Nat) (n := 1) (fun i => [.p (.int .i64 i)]) (fun _ => [.row ts.length 2]) (fun i => i ≤ g.length ∧ loneFrom g i (g.drop i) = loneFrom g 0 g) (fun i => g.length - i) [] 0 (fun _ => rfl) ⟨rfl, rfl⟩ (by simp) (fun i B hi hB => ?_)
    obtain ⟨h1, h3⟩ := hi
    generalize loneFrom g 0 g = L at *
    simp [graph_Check_L2]
    refine ⟨fun hlt => ?_, fun hge => ?_⟩
    · rw [List.drop_eq_getElem_cons hlt, loneFrom] at h3
      have ho := Outs_spec g i (by omega)
      simp [hlt]
      refine aMerge_intro (decide (outsFrom i 0 g = [])) (fun _ => ?_) ?_
      · refine aCallW_of rfl rfl ho ?_
        simp [hlt]
      simp
      refine ⟨fun q1 q2 => ?_, fun q => ?_⟩
      · rw [if_pos ⟨q1, q2⟩] at h3
        subst h3
        rw [hck]
        exact gives_pure (by simp [AV.pur])
      · rw [if_neg (fun ⟨a, b⟩ => q a b)] at h3
        rw [IntWalk.i64_in _ (by omega)]
        exact hB (i + 1) _ ⟨by omega, h3⟩ (by omega) (by simp) (by simp [Ob.below, AV.under1]) (by simp) (by simp [AV.under, AV.under1])
    · rw [List.drop_of_length_le hge, loneFrom] at h3
      subst h3
      rw [hck]
      exact gives_pure (by simp [AV.pur])

end Go.Proofs.YtmnmiiifilfcmaaGreat
