/- The document's programs of operators; an operator there and back. -/
import Derived.Test.YtgfnodmghaghpaaGreatDoorZSpToQ
import Derived.Test.YtgfnodmghaghpaaGreatDoorZSpOutOQ
import Derived.Test.YtgfnodmghaghpaaGreatDoorZSpOut
import Derived.Test.YtgfnodmghaghpaaGreatDoorS3
set_option linter.unusedSimpArgs false
set_option linter.unusedVariables false
namespace Go.Proofs.YtgfnodmghaghpaaGreatDoor
open Go Go.Abs

attribute [local irreducible] Abs.Fn

theorem encI7 (l : List In) : ∀ e ∈ l.map encI, e.cells.length = 7 := fun e he => by obtain ⟨y, _, rfl⟩ := List.mem_map.1 he; rfl

theorem GenR_spec (o : Opr) (hes : ∀ e ∈ o.es, OkG e) (hs : sizeEs o.es ≤ 100000) (h1 : o.k = 2 ∨ o.k = 3 ∨ o.k = 5 → o.es.length = 1) : Abs.Fn Tryz.prog runnelref14_Gen_i [] [.p (encO o)] (.p (encPr (genOf o.k o.es))) [] := by
  have hlen := genEs_len o.es
  have one : ∀ {l : List Ex}, l.length = 1 → ∃ e, l = [e] := fun {l} h => by
    match l, h with
    | [e], _ => exact ⟨e, rfl⟩
  apply runnelref14_Gen_fn
  simp [runnelref14_Gen]
  refine ⟨fun hk => ?_, fun n2 n5 => ⟨fun hk => ?_, fun n3 => ⟨fun hk => ?_, fun n4 => ?_⟩⟩⟩
  · obtain ⟨e, he⟩ := one (h1 (by rcases hk with h | h <;> simp [h]))
    have hse : sizeE e ≤ 100000 := by rw [he] at hs; simp only [sizeEs] at hs; omega
    have hg := genExprR_o (hes e (by simp [he])) hse
    have hl := genE_len e
    have hgo : genOf o.k o.es = genE e ++ emitsI 1 := by
      simp only [genOf]
      rw [if_pos (by rcases hk with h | h <;> simp [h]), he]
      simp [genEs, joinI_one]
    rw [hgo]
    simp only [encE_eta] at hg
    simp [he]
    refine aCallW_of rfl rfl hg ?_
    simp
    refine aCallW_of rfl rfl (oneR_spec _ _) ?_
    simp
    refine aCallW_of rfl rfl (oneR_spec _ _) ?_
    simp
    refine ⟨⟨encI7 _, by simp, by simp; omega⟩, ?_⟩
    exact gives_pure (by simp [AV.pur, encPr, emitsI, oEmit, oRet])
  · obtain ⟨e, he⟩ := one (h1 (by simp [hk]))
    have hse : sizeE e ≤ 100000 := by rw [he] at hs; simp only [sizeEs] at hs; omega
    have hg := genExprR_o (hes e (by simp [he])) hse
    have hl := genE_len e
    have hgo : genOf o.k o.es = genE e ++ [oneI oJf ((genE e).length + 3), oneI oX 0] ++ emitsI 1 := by
      simp only [genOf]
      rw [if_neg (by simp [hk]), if_pos hk, he]
      simp [genEs, joinI_one]
    rw [hgo]
    simp only [encE_eta] at hg
    simp [he]
    refine aCallW_of rfl rfl hg ?_
    simp
    intro _
    rw [IntWalk.i64_in _ (by omega)]
    refine aCallW_of rfl rfl (oneR_spec _ _) ?_
    simp
    refine aCallW_of rfl rfl (oneR_spec _ _) ?_
    simp
    refine ⟨⟨encI7 _, by simp, by simp; omega⟩, ?_⟩
    refine aCallW_of rfl rfl (oneR_spec _ _) ?_
    simp
    refine aCallW_of rfl rfl (oneR_spec _ _) ?_
    simp
    refine ⟨⟨?_, by simp, by simp; omega⟩, ?_⟩
    · intro e he
      simp only [List.mem_append, List.mem_map, List.mem_cons, List.not_mem_nil, or_false] at he
      rcases he with ⟨y, _, rfl⟩ | rfl | rfl <;> rfl
    · exact gives_pure (by simp [AV.pur, encPr, emitsI, oEmit, oRet, oJf])
  · have hle := len_sizeEs o.es
    have hse : ∀ e ∈ o.es, sizeE e ≤ 100000 := fun e he => by have := sizeEs_mem he; omega
    have hgo : genOf o.k o.es = joinI (genEs o.es) ++ emitsI o.es.length := by
      simp only [genOf]
      rw [if_pos (by simp [hk])]
    rw [hgo]
    refine loop_by (σ := Nat) (n := 2) (fun i => [.own 1 ((joinI (genEs (o.es.take i))).map encI), .p (.int .i64 i)]) (fun i => [.box (boxO o), .row (joinI (genEs (o.es.take i))).length 7])
        (fun i => i ≤ o.es.length) (fun i => o.es.length - i) [.slot 0 7] 0 (fun _ => rfl) ⟨rfl, by simp [genEs, joinI]⟩ (by simp) (fun i B hi hB => ?_)
    simp [runnelref14_Gen_L1]
    intro _
    refine ⟨fun hlt => ?_, fun hge => ?_⟩
    · have hm : o.es[i] ∈ o.es := by simp
      have hfi := genExprR_spec (hes _ hm) (hse _ hm)
      simp only [encE_eta] at hfi
      have hsplit : genEs o.es = genEs (o.es.take i) ++ genE o.es[i] :: genEs (o.es.drop (i + 1)) := by
        rw [genEs_eq, genEs_eq, genEs_eq, ← List.map_cons, ← List.map_append, ← List.drop_eq_getElem_cons hlt, List.take_append_drop]
      have hsum := hlen
      rw [hsplit] at hsum
      simp only [List.map_append, List.map_cons, List.sum_append, List.sum_cons] at hsum
      have hjl : (joinI (genEs (o.es.take i))).length = ((genEs (o.es.take i)).map List.length).sum := joinI_length _
      have hj := joinR_o (joinI (genEs (o.es.take i))) (genE o.es[i]) (by omega) ((genE_closed _).small (by omega))
      have hsucc : joinI (genEs (o.es.take (i + 1))) = joinI (genEs (o.es.take i)) ++ (genE o.es[i]).map (mvI (joinI (genEs (o.es.take i))).length) := by
        rw [genEs_eq, genEs_eq, List.take_succ_eq_append_getElem hlt, List.map_append, List.map_cons, List.map_nil, joinI_snoc]
      have hpos := genE_pos o.es[i]
      rw [← hsucc] at hj
      simp [hlt]
      refine aCallW_of rfl rfl hfi ?_
      simp
      refine aCallO_of (id := 1) rfl rfl hj (by omega) ?_
      simp
      rw [IntWalk.i64_in _ (by omega)]
      refine hB (i + 1) _ (by omega) (by omega) ?_ (by simp [Ob.below, AV.under1]) (by simp) (by simp [AV.under, AV.under1])
      rw [hsucc]
      simp
    · have hii : i = o.es.length := by omega
      subst hii
      have hjl : (joinI (genEs o.es)).length = ((genEs o.es).map List.length).sum := joinI_length _
      simp
      intro _
      refine aCallW_of rfl rfl (oneR_spec _ _) ?_
      simp
      refine aCallW_of rfl rfl (oneR_spec _ _) ?_
      simp
      refine ⟨⟨encI7 _, by simp, by simp; omega⟩, ?_⟩
      exact gives_pure (by simp [AV.pur, encPr, emitsI, oEmit, oRet])
  · refine aCallW_of rfl rfl (oneR_spec _ _) ?_
    simp
    refine aCallW_of rfl rfl (oneR_spec _ _) ?_
    simp
    refine aCallW_of rfl rfl (oneR_spec _ _) ?_
    simp
    exact ⟨⟨by simp, by simp, by simp⟩, gives_pure (by simp [AV.pur, encPr, genOf, n2, n3, n4, n5, emitsI, oEmit, oRet])⟩

end Go.Proofs.YtgfnodmghaghpaaGreatDoor

