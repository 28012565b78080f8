/- The document's programs of operators; an operator there and back. -/
import Derived.Test.YtjendohiohhciaaGreatZSpGenC
import Derived.Test.YtjendohiohhciaaGreatZSpOut
import Derived.Test.YtjendohiohhciaaGreatS1
set_option linter.unusedSimpArgs false
set_option linter.unusedVariables false
namespace Go.Proofs.YtjendohiohhciaaGreat
open Go Go.Abs

attribute [local irreducible] Abs.Fn

theorem encI7 (l : List In) : ∀ e ∈ l.map encI, e.cells.length = 7 := fun e he => by obtain ⟨y, _, rfl⟩ := List.mem_map.1 he; rfl

theorem GenKeyR_spec (o : Opr) (h : OkG o.key) (hs : sizeE o.key ≤ 100000) : Abs.Fn Tryz.prog runnelref14_GenKey_i [] [.p (encO o)] (.p (encPr (genKey o.key))) [] := by
  have hg := genExprR_o h hs
  have hl := genE_len o.key
  simp only [encE_eta] at hg
  apply runnelref14_GenKey_fn
  simp [runnelref14_GenKey]
  refine aCallW_of rfl rfl hg ?_
  simp
  refine aCallW_of rfl rfl (oneR_spec _ _) ?_
  simp
  refine aCallW_of rfl rfl (oneR_spec _ _) ?_
  simp
  refine ⟨⟨encI7 _, by simp, by simp; omega⟩, ?_⟩
  exact gives_pure (by simp [AV.pur, encPr, genKey, emitsI, oEmit, oRet])

theorem GenR_spec (o : Opr) (hes : ∀ e ∈ o.es, OkG e) (hs : sizeEs o.es ≤ 100000) (h1 : o.k = 2 ∨ o.k = 3 ∨ o.k = 5 → o.es.length = 1) : Abs.Fn Tryz.prog runnelref14_Gen_i [] [.p (encO o)] (.p (encPr (genOf o.k o.es))) [] := by
  have hlen := genEs_len o.es
  have one : ∀ {l : List Ex}, l.length = 1 → ∃ e, l = [e] := fun {l} h => by
    match l, h with
    | [e], _ => exact ⟨e, rfl⟩
  apply runnelref14_Gen_fn
  simp [runnelref14_Gen]
  refine ⟨fun hk => ?_, fun n2 n5 => ⟨fun hk => ?_, fun n3 => ⟨fun hk => ?_, fun n4 => ?_⟩⟩⟩
  · obtain ⟨e, he⟩ := one (h1 (by rcases hk with h | h <;> simp [h]))
    have hse : sizeE e ≤ 100000 := by rw [he] at hs; simp only [sizeEs] at hs; omega
    have hg := genExprR_o (hes e (by simp [he])) hse
    have hl := genE_len e
    have hgo : genOf o.k o.es = genE e ++ emitsI 1 := by
      simp only [genOf]
      rw [if_pos (by rcases hk with h | h <;> simp [h]), he]
      simp [genEs, joinI_one]
    rw [hgo]
    simp only [encE_eta] at hg
    simp [he]
    refine aCallW_of rfl rfl hg ?_
    simp
    refine aCallW_of rfl rfl (oneR_spec _ _) ?_
    simp
    refine aCallW_of rfl rfl (oneR_spec _ _) ?_
    simp
    refine ⟨⟨encI7 _, by simp, by simp; omega⟩, ?_⟩
    exact gives_pure (by simp [AV.pur, encPr, emitsI, oEmit, oRet])
  · obtain ⟨e, he⟩ := one (h1 (by simp [hk]))
    have hse : sizeE e ≤ 100000 := by rw [he] at hs; simp only [sizeEs] at hs; omega
    have hg := genExprR_o (hes e (by simp [he])) hse
    have hl := genE_len e
    have hgo : genOf o.k o.es = genE e ++ [oneI oJf ((genE e).length + 3), oneI oX 0] ++ emitsI 1 := by
      simp only [genOf]
      rw [if_neg (by simp [hk]), if_pos hk, he]
      simp [genEs, joinI_one]
    rw [hgo]
    simp only [encE_eta] at hg
    simp [he]
    refine aCallW_of rfl rfl hg ?_
    simp
    intro _
    rw [IntWalk.i64_in _ (by omega)]
    refine aCallW_of rfl rfl (oneR_spec _ _) ?_
    simp
    refine aCallW_of rfl rfl (oneR_spec _ _) ?_
    simp
    refine ⟨⟨encI7 _, by simp, by simp; omega⟩, ?_⟩
    refine aCallW_of rfl rfl (oneR_spec _ _) ?_
    simp
    refine aCallW_of rfl rfl (oneR_spec _ _) ?_
    simp
    refine ⟨⟨?_, by simp, by simp; omega⟩, ?_⟩
    · intro e he
      simp only [List.mem_append, List.mem_map, List.mem_cons, List.not_mem_nil, or_false] at he
      rcases he with ⟨y, _, rfl⟩ | rfl | rfl <;> rfl
    · exact gives_pure (by simp [AV.pur, encPr, emitsI, oEmit, oRet, oJf])
  · have hle := len_sizeEs o.es
    have hse : ∀ e ∈ o.es, sizeE e ≤ 100000 := fun e he => by have := sizeEs_mem he; omega
    have hgo : genOf o.k o.es = joinI (genEs o.es) ++ emitsI o.es.length := by
      simp only [genOf]
      rw [if_pos (by simp [hk])]
    rw [hgo]
    refine loop_by (σ := Nat) (n := 2) (fun i => [.own 1 ((joinI (genEs (o.es.take i))).map encI), .p (.int .i64 i)]) (fun i => [.box (boxO o), .row (joinI (genEs (o.es.take i))).length 7])
        (fun i => i ≤ o.es.length) (fun i => o.es.length - i) [.slot 0 7] 0 (fun _ => rfl) ⟨rfl, by simp [genEs, joinI]⟩ (by simp) (fun i B hi hB => ?_)
    simp [runnelref14_Gen_L1]
    intro _
    refine ⟨fun hlt => ?_, fun hge => ?_⟩
    · have hm : o.es[i] ∈ o.es := by simp
      have hfi := genExprR_spec (hes _ hm) (hse _ hm)
      simp only [encE_eta] at hfi
      have hsplit : genEs o.es = genEs (o.es.take i) ++ genE o.es[i] :: genEs (o.es.drop (i + 1)) := by
        rw [genEs_eq, genEs_eq, genEs_eq, ← List.map_cons, ← List.map_append, ← List.drop_eq_getElem_cons hlt, List.take_append_drop]
      have hsum := hlen
      rw [hsplit] at hsum
      simp only [List.map_append, List.map_cons, List.sum_append, List.sum_cons] at hsum
      have hjl : (joinI (genEs (o.es.take i))).length = ((genEs (o.es.take i)).map List.length).sum := joinI_length _
      have hj := joinR_o (joinI (genEs (o.es.take i))) (genE o.es[i]) (by omega) ((genE_closed _).small (by omega))
      have hsucc : joinI (genEs (o.es.take (i + 1))) = joinI (genEs (o.es.take i)) ++ (genE o.es[i]).map (mvI (joinI (genEs (o.es.take i))).length) := by
        rw [genEs_eq, genEs_eq, List.take_succ_eq_append_getElem hlt, List.map_append, List.map_cons, List.map_nil, joinI_snoc]
      have hpos := genE_pos o.es[i]
      rw [← hsucc] at hj
      simp [hlt]
      refine aCallW_of rfl rfl hfi ?_
      simp
      refine aCallO_of (id := 1) rfl rfl hj (by omega) ?_
      simp
      rw [IntWalk.i64_in _ (by omega)]
      refine hB (i + 1) _ (by omega) (by omega) ?_ (by simp [Ob.below, AV.under1]) (by simp) (by simp [AV.under, AV.under1])
      rw [hsucc]
      simp
    · have hii : i = o.es.length := by omega
      subst hii
      have hjl : (joinI (genEs o.es)).length = ((genEs o.es).map List.length).sum := joinI_length _
      simp
      intro _
      refine aCallW_of rfl rfl (oneR_spec _ _) ?_
      simp
      refine aCallW_of rfl rfl (oneR_spec _ _) ?_
      simp
      refine ⟨⟨encI7 _, by simp, by simp; omega⟩, ?_⟩
      exact gives_pure (by simp [AV.pur, encPr, emitsI, oEmit, oRet])
  · refine aCallW_of rfl rfl (oneR_spec _ _) ?_
    simp
    refine aCallW_of rfl rfl (oneR_spec _ _) ?_
    simp
    refine aCallW_of rfl rfl (oneR_spec _ _) ?_
    simp
    exact ⟨⟨by simp, by simp, by simp⟩, gives_pure (by simp [AV.pur, encPr, genOf, n2, n3, n4, n5, emitsI, oEmit, oRet])⟩

/- An operator there and back. -/
theorem of7_spec {o : Opr} (ht : Wd 1000000000 o.t) (hk : We 1000000000 o.key) (hes : ∀ e ∈ o.es, We 1000000000 e) (hl : o.es.length ≤ 1000000) : Abs.Fn Tryz.prog runnellaw7_Of_i [] [.p (encO o)] (.p (encO o)) [] := by
  have h1 := of1_spec ht
  have h4 := of4_spec hk
  simp only [encT_eta, encE_eta] at h1 h4
  apply runnellaw7_Of_fn
  simp [runnellaw7_Of]
  refine aCallT_of rfl h1 rfl ?_
  simp
  refine aCallT_of rfl h4 rfl ?_
  simp
  refine loop_by (σ := Nat) (n := 4) (fun i => [.p (.int .i64 i)]) (fun i => [.box (boxO o), .box [.p (.int .i64 0), .p (.str []), .p (.int .i64 0), .full [], .full [], .p (.str []), .p (.int .i64 0), .p (.int .i64 0), .p (.bool false), .p (.str []), .full [], .p (.int .i64 0), .full [], .p (.int .i64 0), .p (.int .i64 0)],
      .box ((boxO o).set 4 (.own 3 ((o.es.map encE).take i))), .row i 8])
    (fun i => i ≤ o.es.length) (fun i => o.es.length - i) [.cell 2 4 8] 0 (fun _ => rfl) (by simp [ghosts, ghost]) (by simp) (fun i B hi hB => ?_)
  simp [runnellaw7_Of_L1]
  intro _
  refine ⟨fun hlt => ?_, fun hge => ?_⟩
  · have hfo := of4_spec (hes o.es[i] (by simp))
    simp only [encE_eta] at hfo
    simp [hlt]
    refine aCallT_of rfl hfo rfl ?_
    simp
    refine ⟨by omega, ⟨encE_sizeT _ _, by simp, by simp; omega⟩, ?_⟩
    rw [IntWalk.i64_in _ (by omega)]
    have := take_snoc (l := o.es.map encE) (i := i) (by simpa using hlt)
    simp only [List.getElem_map, encE_eta] at this
    rw [this]
    exact hB (i + 1) _ (by omega) (by omega) (by simp) (by simp [Ob.below, AV.under1]) (by simp) (by simp [AV.under, AV.under1])
  · rw [List.take_of_length_le (by simpa using hge)]
    exact gives_pure (by simp [AV.pur, Function.comp_def])

/-- Is it short? -/
def fewO (o : Opr) : Bool := decide (o.name.length ≤ 50) && fewT o.t && decide (o.es.length ≤ 8) && fewE o.key && o.es.all fewE

theorem few7_spec (o : Opr) : Abs.Fn Tryz.prog runnellaw7_Few_i [] [.p (encO o)] (.p (.bool (fewO o))) [] := by
  have h1 := few1_spec o.t
  have h4 := few4_spec o.key
  simp only [encT_eta, encE_eta] at h1 h4
  apply runnellaw7_Few_fn
  simp [runnellaw7_Few]
  intro _
  refine aMerge_intro (!fewT o.t) (fun _ => ?_) ?_
  · refine aCallW_of rfl rfl h1 ?_
    simp
  simp
  refine aMerge_intro (!fewE o.key) (fun _ => ?_) ?_
  · refine aCallW_of rfl rfl h4 ?_
    simp
  simp
  refine ⟨fun h => gives_p ?_, fun q1 q2 q3 q4 => ?_⟩
  · have : fewO o = false := by
      simp only [fewO]
      grind
    rw [this]
  · have hf : fewO o = o.es.all fewE := by simp only [fewO]; simp; grind
    rw [hf]
    refine loop_by (σ := Nat) (n := 1) (fun i => [.p (.int .i64 i)]) (fun i => [.box (boxO o)]) (fun i => i ≤ o.es.length ∧ (o.es.drop i).all fewE = o.es.all fewE) (fun i => o.es.length - i) [] 0 (fun _ => rfl) ⟨rfl, by simp⟩ (by simp) (fun i B hi hB => ?_)
    obtain ⟨g1, g2⟩ := hi
    generalize hA : o.es.all fewE = A at *
    simp [runnellaw7_Few_L1]
    intro _
    refine ⟨fun hlt => ?_, fun hge => ?_⟩
    · have hd := all_drop fewE o.es i hlt
      have hfe := few4_spec o.es[i]
      simp only [encE_eta] at hfe
      rw [g2] at hd
      simp [hlt]
      refine aCallW_of rfl rfl hfe ?_
      simp
      refine ⟨fun hz => gives_p (by rw [hd, hz]; rfl), fun hz => ?_⟩
      rw [IntWalk.i64_in _ (by omega)]
      exact hB (i + 1) _ ⟨by omega, by rw [hd, hz]; rfl⟩ (by omega) (by simp) (by simp [Ob.below, AV.under1]) (by simp) (by simp [AV.under, AV.under1])
    · rw [List.drop_of_length_le hge] at g2
      exact gives_p (by rw [← g2]; rfl)

end Go.Proofs.YtjendohiohhciaaGreat
