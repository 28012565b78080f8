/- The package graph over trees: a node; what is wrong with it. -/
import Derived.Test.YtmnmiiifilfcmaaGreatZSpGraph
set_option linter.unusedSimpArgs false
set_option linter.unusedVariables false
namespace Go.Proofs.YtmnmiiifilfcmaaGreat
open Go Go.Abs

attribute [local irreducible] Abs.Fn

theorem ins_spec (n : Nd) (ahead : List Nd) : Abs.Fn Tryz.prog graph_Node_ins_i [] [.p (encN n), .p (.slice (ahead.map encN))] (.p (.bool (seenIn ahead [] n.ins))) [] := by
  apply graph_Node_ins_fn
  simp [graph_Node_ins]
  intro hml
  refine loop_by (σ := Nat) (n := 1) (fun i => [.p (.int .i64 i)]) (fun _ => [.box (boxN n)]) (fun i => i ≤ n.ins.length ∧ seenIn ahead (n.ins.take i) (n.ins.drop i) = seenIn ahead [] n.ins) (fun i => n.ins.length - i) [] 0 (fun _ => rfl) ⟨rfl, by simp⟩ (by simp) (fun i B hi hB => ?_)
  obtain ⟨h1, h2⟩ := hi
  generalize hA : seenIn ahead [] n.ins = A at *
  simp [graph_Node_ins_L1]
  refine ⟨fun hlt => ?_, fun hge => ?_⟩
  · rw [List.drop_eq_getElem_cons hlt, seenIn] at h2
    simp [hlt]
    by_cases hb : 0 ≤ n.ins[i] ∧ n.ins[i] < ahead.length
    · obtain ⟨g1, g2⟩ := hb
      have g3 : n.ins[i].toNat < ahead.length := by omega
      have g4 : ¬ n.ins[i] < 0 := by omega
      have g5 : ¬ (ahead.length : Int) ≤ n.ins[i] := by omega
      have gD : ahead.getD n.ins[i].toNat noN = ahead[n.ins[i].toNat] := by simp [List.getD_eq_getElem?_getD, g3]
      have ht := take_snoc hlt
      rw [gD, ht] at h2
      refine ⟨fun _ _ => by simp [g3], fun _ _ => by simp [g3], ?_⟩
      simp [g3, g4, g5]
      refine aMerge_intro (decide (n.ins[i] ∈ n.ins.take i)) (fun _ => ?_) ?_
      · simp [aSliceSl, atSize]
        refine ⟨by omega, ?_⟩
        have hc := containsI_spec (n.ins.take i) n.ins[i]
        simp only [isT, List.map_take] at hc
        refine aCallW_of rfl rfl hc ?_
        simp
      · simp
        refine ⟨fun h => gives_p ?_, fun h h' => ?_⟩
        · rw [if_pos] at h2
          · rw [h2]
          · simp only [g4, g5, false_or]; exact h
        · rw [if_neg] at h2
          · rw [IntWalk.i64_in _ (by simp [maxLen] at hml; omega)]
            exact hB (i + 1) _ ⟨by omega, h2⟩ (by omega) (by simp) (by simp [Ob.below, AV.under1]) (by simp) (by simp [AV.under, AV.under1])
          · simp only [g4, g5, false_or, not_or]; exact ⟨h, h'⟩
    · refine ⟨fun _ _ => by omega, fun _ _ => by omega, ?_⟩
      rw [if_pos (by omega)] at h2
      rcases (by omega : n.ins[i] < 0 ∨ (ahead.length : Int) ≤ n.ins[i]) with hz | hz
      all_goals
        simp [hz]
        subst h2
        refine aMerge_intro true (fun h => by simp at h) ?_
        refine aMerge_intro true (fun h => by simp at h) ?_
        simp
        exact gives_p rfl
  · rw [List.drop_of_length_le hge] at h2
    exact gives_p (by rw [← h2]; rfl)

theorem of_spec (ts : List Ty) (ins : List Int) (h : ∀ i ∈ ins, 0 ≤ i ∧ i < ts.length) (hl : ins.length ≤ 1000000) : Abs.Fn Tryz.prog graph_of_i [] [.p (.slice (ts.map encT)), .p (.slice (isT ins))] (.p (.slice ((ins.map fun i => ts.getD i.toNat (.mk 0 [])).map encT))) [] := by
  have hlm : (ins.map fun i => ts.getD i.toNat (.mk 0 [])).length = ins.length := by simp
  have hmj : ∀ j (hj : j < ins.length) (g : ins[j].toNat < ts.length), (ins.map fun i => ts.getD i.toNat (.mk 0 []))[j]? = some ts[ins[j].toNat] := by
    intro j hj g
    simp [hj, g]
  generalize (ins.map fun i => ts.getD i.toNat (.mk 0 [])) = m at *
  apply graph_of_fn
  simp [graph_of]
  intro hml
  refine loop_by (σ := Nat) (n := 1) (fun j => [.own 0 ((m.take j).map encT), .p (.int .i64 j)]) (fun j => [.row j 2]) (fun j => j ≤ ins.length) (fun j => ins.length - j) [.slot 0 2] 0 (fun _ => rfl) ⟨rfl, rfl⟩ (by simp) (fun j B hj hB => ?_)
  simp [graph_of_L1]
  refine ⟨fun hlt => ?_, fun hge => ?_⟩
  · obtain ⟨g1, g2⟩ := h ins[j] (List.getElem_mem hlt)
    have g3 : ins[j].toNat < ts.length := by omega
    have hm := hmj j hlt g3
    rw [List.getElem?_eq_getElem (by omega), Option.some.injEq] at hm
    have hsn := take_snoc (l := m.map encT) (i := j) (by simp; omega)
    simp only [List.getElem_map, hm, encT_eta] at hsn
    simp [hlt, g1, g2, g3]
    refine ⟨by omega, ⟨fun e he => ?_, by simp, by simp; omega⟩, ?_⟩
    · obtain ⟨x, hx, rfl⟩ := List.mem_map.1 (List.mem_of_mem_take he); simp
    rw [IntWalk.i64_in _ (by omega), hsn, ← List.map_take]
    exact hB (j + 1) _ (by omega) (by omega) (by simp) (by simp [Ob.below, AV.under1]) (by simp) (by simp [AV.under, AV.under1])
  · rw [List.take_of_length_le (by simp; omega)]
    exact gives_pure (by simp [AV.pur])

theorem cloneN_spec (l : List Nd) (h : l.length ≤ 1000000) : Abs.Fn Tryz.prog slices_Clone_graph_Graph_graph_Node_i [] [.p (.slice (l.map encN))] (.own 0 (l.map encN)) [.row l.length 21] := by
  refine fn_nil_cases (fun he => ?_) ?_
  · apply slices_Clone_graph_Graph_graph_Node_fn
    simp [slices_Clone_graph_Graph_graph_Node]
    have : l = [] := by simpa using he
    subst this
    exact gives_nil_own
  · apply slices_Clone_graph_Graph_graph_Node_fn
    simp [slices_Clone_graph_Graph_graph_Node]
    refine ⟨⟨by simp, encN_size l, by simp; omega⟩, ?_⟩
    have := gives_own (id := 0) (n := l.length) (s := 21) (es := l.map encN) (H := [.row l.length 21]) rfl
    simpa using this

theorem weight_spec (a : List Nd) (n : Nd) (hl : a.length ≤ 1000000) (hi : ∀ k (hk : k < (a ++ [n]).length), (∀ i ∈ (a ++ [n])[k].ins, 0 ≤ i ∧ i < k) ∧ (a ++ [n])[k].ins.length ≤ 1000000) : Abs.Fn Tryz.prog graph_weight_i [] [.p (.slice ((a ++ [n]).map encN))] (.p (.int .i64 (wtN (wtsG [] a) n))) [] := by
  have hlast : ∀ l, l = a ++ [n] → wtsG [] l = wtsG [] a ++ [wtN (wtsG [] a) n] := by rintro l rfl; exact wtsG_snoc _ _ _
  have hlen : (a ++ [n]).length ≤ 1000001 := by simp; omega
  have hpos : 0 < (a ++ [n]).length := by simp
  have hw : wtN (wtsG [] a) n = (wtsG [] (a ++ [n])).getD ((a ++ [n]).length - 1) 0 := by
    rw [hlast _ rfl]
    have : (wtsG [] a).length = a.length := by rw [wtsG_length]; simp
    simp [List.getD_eq_getElem?_getD, this]
  rw [hw]
  generalize a ++ [n] = l at *
  clear hlast hw hl
  apply graph_weight_fn
  simp [graph_weight]
  intro hml
  refine loop_by (σ := Nat) (n := 1) (fun i => [.own 0 (isT (wtsG [] (l.take i))), .p (.int .i64 i)]) (fun i => [.row i 1]) (fun i => i ≤ l.length) (fun i => l.length - i) [.slot 0 1] 0 (fun _ => rfl) ⟨rfl, rfl⟩ (by simp) (fun i B hlei hB => ?_)
  have hwl : (wtsG [] (l.take i)).length = i := by rw [wtsG_length]; simp [hlei]
  simp [graph_weight_L1]
  refine ⟨fun hlt => ?_, fun hge => ?_⟩
  · obtain ⟨hx, hxl⟩ := hi i hlt
    have hnext : wtsG [] (l.take (i + 1)) = wtsG [] (l.take i) ++ [wtN (wtsG [] (l.take i)) l[i]] := by rw [← take_snoc hlt, wtsG_snoc]
    generalize hws : wtsG [] (l.take i) = ws at *
    simp [hlt]
    intro hml2
    refine loop_by (σ := Nat × Int) (n := 2) (fun q => [.p (.int .i64 q.2), .p (.int .i64 q.1)]) (fun _ => [.row i 1, .box (boxN l[i])]) (fun q => q.1 ≤ l[i].ins.length ∧ sumW ws q.2 (l[i].ins.drop q.1) = sumW ws 0 l[i].ins) (fun q => l[i].ins.length - q.1) [] (0, 0) (fun _ => rfl) ⟨rfl, by simp⟩ (by simp) (fun q B2 hq hB2 => ?_)
    obtain ⟨j, w⟩ := q
    obtain ⟨h1, h2⟩ := hq
    simp only at h1 h2
    generalize hA : sumW ws 0 l[i].ins = A at *
    simp [graph_weight_L2]
    refine ⟨fun hltj => ?_, fun hgej => ?_⟩
    · rw [List.drop_eq_getElem_cons hltj, sumW] at h2
      obtain ⟨g1, g2⟩ := hx l[i].ins[j] (List.getElem_mem hltj)
      have g3 : l[i].ins[j].toNat < ws.length := by omega
      have gD : ws.getD l[i].ins[j].toNat 0 = ws[l[i].ins[j].toNat] := by simp [List.getD_eq_getElem?_getD, g3]
      rw [gD] at h2
      simp [hltj, g1, g2, g3, hwl]
      rw [IntWalk.i64_in (j + 1) (by omega)]
      exact hB2 (j + 1, _) _ ⟨by simp only; omega, h2⟩ (by simp only; omega) (by simp) (by simp [Ob.below, AV.under1]) (by simp) (by simp [AV.under, AV.under1])
    · rw [List.drop_of_length_le hgej] at h2
      have h2 : w = A := h2
      have hwt : wtN ws l[i] = if l[i].op.k = 1 then 1 else if l[i].op.k = 4 then IntKind.i64.wrap (w * l[i].op.es.length) else w := by rw [wtN, hA, h2]
      have fin : ∀ v : Int, v = wtN ws l[i] → B [AV.own 0 (isT ws ++ [T.int .i64 v]), AV.p (T.int .i64 (IntKind.i64.wrap (i + 1)))] [Ob.row (i + 1) 1, Ob.box (boxN l[i])] := by
        rintro v rfl
        rw [IntWalk.i64_in _ (by omega), show isT ws ++ [T.int .i64 (wtN ws l[i])] = isT (wtsG [] (l.take (i + 1))) by rw [hnext]; simp [isT]]
        exact hB (i + 1) _ (by omega) (by omega) (by simp) (by simp [Ob.below, AV.under1]) (by simp) (by simp [AV.under, AV.under1])
      simp only [boxN_eq] at fin
      have app : ∀ v : Int, appendable 1 8 (isT ws) [T.int .i64 v] := fun v => ⟨fun e he => by obtain ⟨x, _, rfl⟩ := List.mem_map.1 he; rfl, by simp, by simp; omega⟩
      exact ⟨fun h1 => ⟨hwl.symm, app _, fin 1 (by rw [hwt, if_pos h1])⟩, fun h1 => ⟨fun h4 _ => ⟨hwl.symm, app _, fin _ (by rw [hwt, if_neg h1, if_pos h4])⟩, fun h4 => ⟨hwl.symm, app _, fin w (by rw [hwt, if_neg h1, if_neg h4])⟩⟩⟩
  · have : i = l.length := by omega
    subst this
    rw [List.take_length] at hwl ⊢
    have e1 : IntKind.i64.wrap (((wtsG [] l).length : Int) - 1) = ((l.length - 1 : Nat) : Int) := by rw [hwl, IntWalk.i64_in _ (by omega)]; omega
    have e2 : l.length - 1 < (wtsG [] l).length := by omega
    rw [e1]
    intro _
    refine ⟨⟨by omega, by omega⟩, ?_⟩
    simp [e2]
    exact gives_p rfl

end Go.Proofs.YtmnmiiifilfcmaaGreat
