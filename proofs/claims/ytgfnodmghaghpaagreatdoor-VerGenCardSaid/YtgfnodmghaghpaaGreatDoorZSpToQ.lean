/- The document's programs of expressions, over trees. -/
import Derived.Test.YtgfnodmghaghpaaGreatDoorZSpGenB
import Derived.Test.YtgfnodmghaghpaaGreatDoorA3
import Derived.Test.YtgfnodmghaghpaaGreatDoorZSpEvalCQ
import Derived.Test.YtgfnodmghaghpaaGreatDoorS3
import Derived.Test.YtgfnodmghaghpaaGreatDoorZSpValBQ
import Derived.Test.YtgfnodmghaghpaaGreatDoorS2
import Derived.Test.YtgfnodmghaghpaaGreatDoorZPuVm
import Derived.Test.YtgfnodmghaghpaaGreatDoorZPuEval
import Derived.Test.YtgfnodmghaghpaaGreatDoorZSpRowTQ
import Derived.Test.YtgfnodmghaghpaaGreatDoorZSpBudTQ
import Derived.Test.YtgfnodmghaghpaaGreatDoorZPuEvalB

section
/- The document's programs of expressions, over trees. -/
set_option linter.unusedSimpArgs false
set_option linter.unusedVariables false
namespace Go.Proofs.YtgfnodmghaghpaaGreatDoor
open Go Go.Abs

/-- An answer without its objects. -/
theorem fn_pure {f : FuncId} {args : List AV} {r r' : AV} {Hn : List Ob} (h : Abs.Fn Tryz.prog f [] args r Hn) (hr : r.pur = some r') : Abs.Fn Tryz.prog f [] args r' [] := by
  refine ⟨h.1, fun w G vs hi hv => (h.2 w G vs hi hv).mono ?_⟩
  rintro e w' ⟨u, G', rfl, hr', hi', hm⟩
  obtain ⟨G2, i2, r2, m2⟩ := gives_pure hr w' G' u hi' hr'
  exact ⟨u, G2, rfl, r2, i2, hm.trans m2⟩

attribute [local irreducible] Abs.Fn

theorem oneR_spec (op : List UInt8) (n : Int) : Abs.Fn Tryz.prog runnelref14_one_i [] [.p (.str op), .p (.int .i64 n)] (.p (encI (oneI op n))) [] := by
  apply runnelref14_one_fn
  simp [runnelref14_one]
  exact gives_pure (by simp [AV.pur, encI, oneI, zeroV, Va.k, Va.i, Va.b, Va.s, Va.t])

theorem yesR_spec (b : Bool) : Abs.Fn Tryz.prog runnelref14_yes_i [] [.p (.bool b)] (.p (encI (pushI (boolV b)))) [] := by
  apply runnelref14_yes_fn
  simp [runnelref14_yes]
  refine aCallW_of rfl rfl (Yes_spec b) ?_
  simp [boolV]
  exact gives_pure (by simp [AV.pur, encI, pushI, boolV])

theorem movedR_spec (q : List In) (b : Nat) (hl : q.length ≤ 1000000) (hb : b ≤ 1000000) (hs : ∀ x ∈ q, smallI x) : Abs.Fn Tryz.prog runnelref14_moved_i [] [.p (encPr q), .p (.int .i64 b)] (.p (encPr (q.map (mvI b)))) [] := by
  apply runnelref14_moved_fn
  simp [runnelref14_moved, encPr]
  refine loop_by (σ := Nat) (n := 1) (fun k => [.own 0 ((q.take k).map (encI ∘ mvI b)), .p (.int .i64 k)]) (fun k => [.row k 7]) (fun k => k ≤ q.length) (fun k => q.length - k) [.slot 0 7] 0 (fun _ => rfl) ⟨rfl, rfl⟩ (by simp) (fun k B hk hB => ?_)
  simp [runnelref14_moved_L1]
  intro _
  refine ⟨fun hkl => ?_, fun hge => ?_⟩
  · have hx : smallI q[k] := hs _ (by simp)
    have e1 : IntKind.i64.wrap ((k : Int) + 1) = ((k + 1 : Nat) : Int) := by rw [IntWalk.i64_in _ (by omega)]; push_cast; rfl
    have e3 : (k : Int) + 1 = ((k + 1 : Nat) : Int) := by push_cast; rfl
    have hts : (q.take (k + 1)).map (encI ∘ mvI b) = (q.map (encI ∘ mvI b)).take k ++ [encI (mvI b q[k])] := by
      rw [List.take_succ_eq_append_getElem hkl]
      simp only [List.map_append, List.map_take, List.map_cons, List.map_nil, Function.comp]
    have happ : ∀ t : T, t.cells.length = 7 → appendable 7 88 ((q.map (encI ∘ mvI b)).take k) [t] := fun t ht => ⟨fun e he => by
      obtain ⟨y, _, rfl⟩ := List.mem_map.1 (List.mem_of_mem_take he); rfl, by simpa using ht, by simp; omega⟩
    simp [hkl, encI_eta, happ, e1]
    rw [e3]
    refine ⟨fun hj => ⟨by omega, ?_⟩, fun h1 h2 => ⟨by omega, ?_⟩⟩
    · obtain ⟨h0, h1⟩ := hx hj
      rw [IntWalk.i64_in _ (by omega)]
      rw [show T.agg [T.str q[k].op, T.int .i64 q[k].v.k, T.int .i64 q[k].v.i, T.bool q[k].v.b, T.str q[k].v.s, T.slice (q[k].v.t.map encV), T.int .i64 (q[k].n + b)] = encI (mvI b q[k]) by rw [mvI_cells, if_pos (show jumpI _ from hj)], ← hts]
      exact hB (k + 1) _ (by omega) (by omega) (by simp) (by simp [Ob.below]) (by simp) (by simp [AV.under, AV.under1])
    · rw [show T.agg [T.str q[k].op, T.int .i64 q[k].v.k, T.int .i64 q[k].v.i, T.bool q[k].v.b, T.str q[k].v.s, T.slice (q[k].v.t.map encV), T.int .i64 q[k].n] = encI (mvI b q[k]) by rw [mvI_cells, if_neg (show ¬ jumpI _ from fun h => h.elim h1 h2)]; rfl, ← hts]
      exact hB (k + 1) _ (by omega) (by omega) (by simp) (by simp [Ob.below]) (by simp) (by simp [AV.under, AV.under1])
  · have hkk : k = q.length := by omega
    subst hkk
    exact gives_pure (by simp [AV.pur]; exact List.take_of_length_le (by simp))

/-- One behind the other, the row with it. -/
theorem joinR_o (p q : List In) (hl : p.length + q.length ≤ 1000000) (hs : ∀ x ∈ q, smallI x) : Abs.Fn Tryz.prog runnelref14_join_i [] [.p (encPr p), .p (encPr q)] (.own 0 ((p ++ q.map (mvI p.length)).map encI)) [.row (p.length + q.length) 7] := by
  have hm := movedR_spec q p.length (by omega) (by omega) hs
  have h7 : ∀ l : List In, ∀ e ∈ l.map encI, e.cells.length = 7 := fun l e he => by obtain ⟨y, _, rfl⟩ := List.mem_map.1 he; rfl
  apply runnelref14_join_fn
  simp [runnelref14_join, encPr]
  refine ⟨⟨by simp, h7 p, by simp; omega⟩, fun _ => ?_⟩
  simp only [encPr] at hm
  refine aCallW_of rfl rfl hm ?_
  simp
  refine ⟨⟨h7 p, fun e he => by obtain ⟨y, _, rfl⟩ := List.mem_map.1 he; rfl, by simp; omega⟩, ?_⟩
  exact gives_own rfl

theorem chooseR_o (a b c : List In) (hl : a.length + b.length + c.length ≤ 900000) (hb : ∀ x ∈ b, smallI x) (hc : ∀ x ∈ c, smallI x) :
    Abs.Fn Tryz.prog runnelref14_choose_i [] [.p (encPr a), .p (encPr b), .p (encPr c)] (.own 0 ((choiceI a b c).map encI)) [.row (choiceI a b c).length 7] := by
  have h7 : ∀ l : List In, ∀ e ∈ l.map encI, e.cells.length = 7 := fun l e he => by obtain ⟨y, _, rfl⟩ := List.mem_map.1 he; rfl
  have j1 := joinR_o (a ++ [oneI oJf ((a.length : Int) + 1 + b.length + 1)]) b (by simp; omega) hb
  have w1 : IntKind.i64.wrap ((a.length : Int) + 1) = (a.length : Int) + 1 := IntWalk.i64_in _ (by omega)
  have w2 : IntKind.i64.wrap ((a.length : Int) + 1 + b.length) = (a.length : Int) + 1 + b.length := IntWalk.i64_in _ (by omega)
  have w3 : IntKind.i64.wrap ((a.length : Int) + 1 + b.length + 1) = (a.length : Int) + 1 + b.length + 1 := IntWalk.i64_in _ (by omega)
  have w4 : IntKind.i64.wrap ((a.length : Int) + 1 + b.length + 1 + c.length) = (a.length : Int) + 1 + b.length + 1 + c.length := IntWalk.i64_in _ (by omega)
  apply runnelref14_choose_fn
  simp [runnelref14_choose, encPr, w1, w2, w3]
  intro _ _
  refine ⟨⟨by simp, h7 a, by simp; omega⟩, ?_⟩
  refine aCallW_of rfl rfl (oneR_spec _ _) ?_
  simp [w1, w2, w3]
  refine ⟨⟨h7 a, by simp, by simp; omega⟩, ?_⟩
  have k1 : ∀ n : Int, ∀ e ∈ List.map encI a ++ encI (oneI [106, 102] n) :: List.map (encI ∘ mvI (a.length + 1)) b, e.cells.length = 7 := by
    intro n e he
    simp only [List.mem_append, List.mem_cons, List.mem_map] at he
    rcases he with ⟨y, _, rfl⟩ | rfl | ⟨y, _, rfl⟩ <;> rfl
  have j2 := joinR_o (a ++ oneI oJf ((a.length : Int) + 1 + b.length + 1) :: (b.map (mvI (a.length + 1)) ++ [oneI oJmp ((a.length : Int) + 1 + b.length + 1 + c.length)])) c (by simp; omega) hc
  simp [encPr, oJf, oJmp] at j1 j2
  refine aCallW_of rfl rfl j1 ?_
  simp [encPr, w1, w2, w3, w4]
  intro _
  refine aCallW_of rfl rfl (oneR_spec _ _) ?_
  simp [w1, w2, w3, w4]
  have q1 : ((a.length : Int) + b.length + c.length + 2) = a.length + 1 + b.length + 1 + c.length := by omega
  have q2 : (a.length : Int) + (b.length + 1 + 1) = a.length + 1 + b.length + 1 := by omega
  refine ⟨by omega, ⟨k1 _, by simp, by simp; omega⟩, ?_⟩
  refine aCallW_of rfl rfl j2 ?_
  rw [q2]
  have e1 : (choiceI a b c).length = a.length + (b.length + 1 + 1) + c.length := by simp [choiceI]; omega
  rw [e1]
  have e2 : (choiceI a b c).map encI = a.map encI ++ encI (oneI [106, 102] ((a.length : Int) + 1 + b.length + 1)) :: (b.map (encI ∘ mvI (a.length + 1)) ++ encI (oneI [106, 109, 112] ((a.length : Int) + 1 + b.length + 1 + c.length)) :: c.map (encI ∘ mvI (a.length + 1 + b.length + 1))) := by
    simp only [choiceI, q1]
    simp [oJf, oJmp]
  rw [e2]
  simp
  exact gives_own rfl

theorem joinI_one (p : List In) : joinI [p] = p := by
  have h0 : p.map (mvI 0) = p := by rw [List.map_congr_left (g := id) (fun x _ => mvI_zero x)]; simp
  simp [joinI, h0]

theorem mvI_one {w : List UInt8} (h1 : w ≠ oJmp) (h2 : w ≠ oJf) {m b : Int} : mvI b (oneI w m) = oneI w m := by
  unfold mvI
  rw [if_neg (by simp [jumpI, oneI, h1, h2])]

theorem genE_pos (e : Ex) : 0 < (genE e).length := by
  obtain ⟨op, v, n, a⟩ := e
  simp only [genE]
  repeat' split
  all_goals simp [joinI_length, choiceI_length]

theorem yesR_spec' (b : Bool) : Abs.Fn Tryz.prog runnelref14_yes_i [] [.p (.bool b)] (.p (.agg [.str [112, 117, 115, 104], .int .i64 2, .int .i64 0, .bool b, .str [], .slice [], .int .i64 0])) [] := yesR_spec b

set_option maxRecDepth 100000 in
set_option maxHeartbeats 1000000 in
theorem genExprR_o {e : Ex} (h : OkG e) : sizeE e ≤ 100000 → Abs.Fn Tryz.prog runnelref14_GenExpr_i [] [.p (encE e)] (.own 0 ((genE e).map encI)) [.row (genE e).length 7] := by
  induction h with
  | mk op v n a h0 h1 h2 h3 ha ih =>
    intro hs
    have hse : ∀ e ∈ a, sizeE e ≤ 100000 := fun e he => by have := sizeEs_mem he; simp only [sizeE] at hs; omega
    have hf : ∀ e ∈ a, Abs.Fn Tryz.prog runnelref14_GenExpr_i [] [.p (encE e)] (.p (encPr (genE e))) [] := fun e he => fn_pure (ih e he (hse e he)) rfl
    have hpush : ∀ u : Va, ∀ x ∈ [pushI u], smallI x := fun u => push_closed.small (by simp)
    apply runnelref14_GenExpr_fn
    simp [runnelref14_GenExpr]
    refine ⟨fun hop => ?_, fun n1 => ⟨fun hop => ?_, fun n2 => ⟨fun hop => ?_, fun n5 => ⟨fun hop => ?_, fun n6 => ⟨fun hop => ?_, fun n7 => ?_⟩⟩⟩⟩⟩
    · subst hop
      have := gives_fullown (H := [.box [.p (.str oLit), .p (.int .i64 v.k), .p (.int .i64 v.i), .p (.bool v.b), .p (.str v.s), .p (.slice (v.t.map encV)), .p (.int .i64 n), .p (.slice (a.map encE))]]) (es := [encI (pushI v)]) (s := 7) (by simp)
      simpa [genE, encI, pushI] using this
    · refine aCallW_of rfl rfl (oneR_spec _ _) ?_
      simp
      subst hop
      have := gives_fullown (H := [.box [.p (.str oX), .p (.int .i64 v.k), .p (.int .i64 v.i), .p (.bool v.b), .p (.str v.s), .p (.slice (v.t.map encV)), .p (.int .i64 n), .p (.slice (a.map encE))]]) (es := [encI (oneI oX 0)]) (s := 7) (by simp)
      simpa [genE, oLit] using this
    · match a, h2 (.inl hop) with
      | e0 :: e1 :: r, _ =>
        simp
        have hf0 := hf e0 (by simp)
        have hf1 := hf e1 (by simp)
        have g0 := hse e0 (by simp)
        have g1 := hse e1 (by simp)
        have k0 := genE_len e0
        have k1 := genE_len e1
        have hch := chooseR_o (genE e0) (genE e1) [pushI (boolV false)] (by simp; omega) (genS g1) (hpush _)
        simp only [encE_eta] at hf0 hf1
        refine aCallT_of rfl hf0 rfl ?_
        simp
        refine ⟨by omega, ?_⟩
        refine aCallT_of rfl hf1 rfl ?_
        simp
        refine aCallT_of rfl (yesR_spec' false) rfl ?_
        simp
        refine aCallW_of rfl rfl hch ?_
        subst hop
        have hg : genE (.mk oAnd v n (e0 :: e1 :: r)) = choiceI (genE e0) (genE e1) [pushI (boolV false)] := by simp [genE, genEs, oLit, oX, oAt, oTup, oAnd, oOr, oIf]
        rw [hg]
        exact gives_own rfl
    · match a, h2 (.inr hop) with
      | e0 :: e1 :: r, _ =>
        simp
        have hf0 := hf e0 (by simp)
        have hf1 := hf e1 (by simp)
        have g0 := hse e0 (by simp)
        have g1 := hse e1 (by simp)
        have k0 := genE_len e0
        have k1 := genE_len e1
        have hch := chooseR_o (genE e0) [pushI (boolV true)] (genE e1) (by simp; omega) (hpush _) (genS g1)
        simp only [encE_eta] at hf0 hf1
        refine aCallT_of rfl hf0 rfl ?_
        simp
        refine aCallT_of rfl (yesR_spec' true) rfl ?_
        simp
        refine ⟨by omega, ?_⟩
        refine aCallT_of rfl hf1 rfl ?_
        simp
        refine aCallW_of rfl rfl hch ?_
        subst hop
        have hg : genE (.mk oOr v n (e0 :: e1 :: r)) = choiceI (genE e0) [pushI (boolV true)] (genE e1) := by simp [genE, genEs, oLit, oX, oAt, oTup, oAnd, oOr, oIf]
        rw [hg]
        exact gives_own rfl
    · match a, h3 hop with
      | e0 :: e1 :: e2 :: r, _ =>
        simp
        have hf0 := hf e0 (by simp)
        have hf1 := hf e1 (by simp)
        have hf2 := hf e2 (by simp)
        have g0 := hse e0 (by simp)
        have g1 := hse e1 (by simp)
        have g2 := hse e2 (by simp)
        have hl3 : (genE e0).length + (genE e1).length + (genE e2).length ≤ 4 * sizeE (.mk op v n (e0 :: e1 :: e2 :: r)) := by
          have k0 := genE_len e0
          have k1 := genE_len e1
          have k2 := genE_len e2
          simp only [sizeEs, sizeE]
          omega
        have hch := chooseR_o (genE e0) (genE e1) (genE e2) (by omega) (genS g1) (genS g2)
        simp only [encE_eta] at hf0 hf1 hf2
        refine aCallT_of rfl hf0 rfl ?_
        simp
        refine ⟨by omega, ?_⟩
        refine aCallT_of rfl hf1 rfl ?_
        simp
        refine ⟨by omega, ?_⟩
        refine aCallT_of rfl hf2 rfl ?_
        simp
        refine aCallW_of rfl rfl hch ?_
        subst hop
        have hg : genE (.mk oIf v n (e0 :: e1 :: e2 :: r)) = choiceI (genE e0) (genE e1) (genE e2) := by simp [genE, genEs, oLit, oX, oAt, oTup, oAnd, oOr, oIf]
        rw [hg]
        exact gives_own rfl
    · have hlen := genEs_len a
      have hsa : sizeEs a ≤ 99999 := by simp only [sizeE] at hs; omega
      refine loop_by (σ := Nat) (n := 2) (fun i => [.own 1 ((joinI (genEs (a.take i))).map encI), .p (.int .i64 i)]) (fun i => [.box [.p (.str op), .p (.int .i64 v.k), .p (.int .i64 v.i), .p (.bool v.b), .p (.str v.s), .p (.slice (v.t.map encV)), .p (.int .i64 n), .p (.slice (a.map encE))], .row (joinI (genEs (a.take i))).length 7])
        (fun i => i ≤ a.length) (fun i => a.length - i) [.slot 0 7] 0 (fun _ => rfl) ⟨rfl, rfl⟩ (by simp) (fun i B hi hB => ?_)
      simp [runnelref14_GenExpr_L1]
      intro _
      refine ⟨fun hlt => ?_, fun hge => ?_⟩
      · have hm : a[i] ∈ a := by simp
        have hfi := hf _ hm
        simp only [encE_eta] at hfi
        have hsplit : genEs a = genEs (a.take i) ++ genE a[i] :: genEs (a.drop (i + 1)) := by
          rw [genEs_eq, genEs_eq, genEs_eq, ← List.map_cons, ← List.map_append, ← List.drop_eq_getElem_cons hlt, List.take_append_drop]
        have hsum := hlen
        rw [hsplit] at hsum
        simp only [List.map_append, List.map_cons, List.sum_append, List.sum_cons] at hsum
        have hjl : (joinI (genEs (a.take i))).length = ((genEs (a.take i)).map List.length).sum := joinI_length _
        have hj := joinR_o (joinI (genEs (a.take i))) (genE a[i]) (by omega) ((genE_closed _).small (by omega))
        have hsucc : joinI (genEs (a.take (i + 1))) = joinI (genEs (a.take i)) ++ (genE a[i]).map (mvI (joinI (genEs (a.take i))).length) := by
          rw [genEs_eq, genEs_eq, List.take_succ_eq_append_getElem hlt, List.map_append, List.map_cons, List.map_nil, joinI_snoc]
        have hpos := genE_pos a[i]
        rw [← hsucc] at hj
        simp [hlt]
        refine aCallW_of rfl rfl hfi ?_
        simp
        refine aCallO_of (id := 1) rfl rfl hj (by omega) ?_
        simp
        rw [IntWalk.i64_in _ (by simp [maxLen] at *; omega)]
        refine hB (i + 1) _ (by omega) (by omega) ?_ (by simp [Ob.below, AV.under1]) (by simp) (by simp [AV.under, AV.under1])
        rw [hsucc]
        simp
      · have hii : i = a.length := by omega
        subst hii
        have hjl : (joinI (genEs a)).length = ((genEs a).map List.length).sum := joinI_length _
        have h7 : ∀ e ∈ (joinI (genEs a)).map encI, e.cells.length = 7 := fun e he => by obtain ⟨y, _, rfl⟩ := List.mem_map.1 he; rfl
        have happ : ∀ t : T, t.cells.length = 7 → appendable 7 88 ((joinI (genEs a)).map encI) [t] := fun t ht => ⟨h7, by simpa using ht, by simp; omega⟩
        simp
        refine ⟨fun hop => ?_, fun n3 => ⟨fun hop => ?_, fun n4 => ?_⟩⟩
        · have hg : genE (.mk op v n a) = joinI (genEs a) ++ [oneI [97, 116] n] := by
            match a, h1 hop with
            | [e0], _ =>
              subst hop
              have e1 : joinI [genE e0] = genE e0 := joinI_one _
              simp only [genE, genEs]
              rw [if_neg (by decide), if_neg (by decide), if_pos trivial, joinI_two, e1]
              simp [mvI_one (show ([97, 116] : List UInt8) ≠ oJmp by decide) (show ([97, 116] : List UInt8) ≠ oJf by decide), oAt]
          rw [hg]
          refine aCallW_of rfl rfl (oneR_spec _ _) ?_
          simp
          exact ⟨happ _ rfl, gives_own rfl⟩
        · have hg : genE (.mk op v n a) = joinI (genEs a) ++ [oneI [116, 117, 112] a.length] := by
            subst hop
            simp only [genE]
            rw [if_neg (by decide), if_neg (by decide), if_neg (by decide), if_pos trivial, joinI_two]
            simp [mvI_one (show ([116, 117, 112] : List UInt8) ≠ oJmp by decide) (show ([116, 117, 112] : List UInt8) ≠ oJf by decide), oTup]
          rw [hg]
          try intro _
          refine aCallW_of rfl rfl (oneR_spec _ _) ?_
          simp
          exact ⟨happ _ rfl, gives_own rfl⟩
        · have hg : genE (.mk op v n a) = joinI (genEs a) ++ [oneI op 0] := by
            simp only [genE]
            rw [if_neg n1, if_neg n2, if_neg n3, if_neg n4, if_neg n5, if_neg n6, if_neg n7, joinI_two]
            simp [mvI_one h0.1 h0.2]
          rw [hg]
          refine aCallW_of rfl rfl (oneR_spec _ _) ?_
          simp
          exact ⟨happ _ rfl, gives_own rfl⟩

theorem genExprR_spec {e : Ex} (h : OkG e) (hs : sizeE e ≤ 100000) : Abs.Fn Tryz.prog runnelref14_GenExpr_i [] [.p (encE e)] (.p (encPr (genE e))) [] := fn_pure (genExprR_o h hs) rfl

end Go.Proofs.YtgfnodmghaghpaaGreatDoor
end

section
/- The package gen over trees: operators' programs. -/
set_option linter.unusedSimpArgs false
set_option linter.unusedVariables false
namespace Go.Proofs.YtgfnodmghaghpaaGreatDoor
open Go Go.Abs

attribute [local irreducible] Abs.Fn

def oEmit : List UInt8 := [101, 109, 105, 116]
def oRet : List UInt8 := [114, 101, 116]
def emitsI (n : Int) : List In := [oneI oEmit n, oneI oRet 0]

/-- An operator's program. -/
def genOf (k : Int) (es : List Ex) : List In :=
  if k = 2 ∨ k = 4 ∨ k = 5 then joinI (genEs es) ++ emitsI es.length
  else if k = 3 then joinI (genEs es) ++ oneI oJf ((joinI (genEs es)).length + 3) :: oneI oX 0 :: emitsI 1
  else oneI oX 0 :: emitsI 1

end Go.Proofs.YtgfnodmghaghpaaGreatDoor
end

section
/- A program as the document's, as short; arguments that are programs. -/
set_option linter.unusedSimpArgs false
set_option linter.unusedVariables false
namespace Go.Proofs.YtgfnodmghaghpaaGreatDoor
open Go Go.Abs

attribute [local irreducible] Abs.Fn

end Go.Proofs.YtgfnodmghaghpaaGreatDoor
end

section
/- Programs made of expressions come to what the expressions come to. -/
set_option linter.unusedSimpArgs false
set_option linter.unusedVariables false
namespace Go.Proofs.YtgfnodmghaghpaaGreatDoor
open Go Go.Abs

theorem mv_mv {a b : Int} {x : In} : mvI a (mvI b x) = mvI (b + a) x := by
  obtain ⟨o, v, n⟩ := x
  by_cases h : jumpI (.mk o v n)
  · have h' : jumpI (.mk o v (n + b)) := h
    simp [mvI, h, h']
    omega
  · simp [mvI, h]

theorem map_mv {a b : Int} (c : List In) : (c.map (mvI b)).map (mvI a) = c.map (mvI (b + a)) := by
  rw [List.map_map]
  exact List.map_congr_left (fun x _ => mv_mv)

theorem joinI_acc2 : ∀ (l : List (List In)) (acc : List In), l.foldl (fun out p => out ++ p.map (mvI out.length)) acc = acc ++ (joinI l).map (mvI acc.length)
  | [], acc => by simp [joinI]
  | p :: l, acc => by
    have h0 : p.map (mvI 0) = p := by rw [List.map_congr_left (g := id) (fun x _ => mvI_zero x)]; simp
    have e1 := joinI_acc2 l (acc ++ p.map (mvI acc.length))
    have e2 := joinI_acc2 l p
    rw [List.foldl_cons, e1]
    simp only [joinI, List.foldl_cons, List.nil_append, List.length_nil, Int.natCast_zero, h0] at e2 ⊢
    rw [e2]
    simp only [List.map_append, map_mv, List.length_append, List.length_map, Int.natCast_add, List.append_assoc]
    rw [Int.add_comm (acc.length : Int)]

theorem joinI_cons (p : List In) (l : List (List In)) : joinI (p :: l) = p ++ (joinI l).map (mvI p.length) := by
  have h0 : p.map (mvI 0) = p := by rw [List.map_congr_left (g := id) (fun x _ => mvI_zero x)]; simp
  have := joinI_acc2 l p
  simpa [joinI, h0] using this

theorem mvJ {op : List UInt8} (h : op = oJmp ∨ op = oJf) (b n : Int) : mvI b (oneI op n) = oneI op (n + b) := by
  have : jumpI (oneI op n) := h
  simp [mvI, this]
  rfl

theorem one_behind {p : List In} {op : List UInt8} {n : Int} (h1 : op ≠ oJmp) (h2 : op ≠ oJf) : joinI [p, [oneI op n]] = p ++ [oneI op n] := by
  rw [joinI_two]; simp [mvI_one h1 h2]

theorem ck_two {a0 a1 : Ex} {t : Ty} {d : Int} {l : List Ty} (hl : ckL [a0, a1] t d = .ok l) : ∃ u0 u1, l = [u0, u1] ∧ ckE a0 t d = .ok u0 ∧ ckE a1 t d = .ok u1 := by
  simp only [ckL] at hl
  cases h0 : ckE a0 t d with
  | er x => simp [h0] at hl
  | ok u0 =>
    cases h1 : ckE a1 t d with
    | er x => simp [h0, h1] at hl
    | ok u1 => simp [h0, h1] at hl; exact ⟨u0, u1, hl.symm, rfl, rfl⟩

theorem ck_three {a0 a1 a2 : Ex} {t : Ty} {d : Int} {l : List Ty} (hl : ckL [a0, a1, a2] t d = .ok l) : ∃ u0 u1 u2, l = [u0, u1, u2] ∧ ckE a0 t d = .ok u0 ∧ ckE a1 t d = .ok u1 ∧ ckE a2 t d = .ok u2 := by
  simp only [ckL] at hl
  cases h0 : ckE a0 t d with
  | er x => simp [h0] at hl
  | ok u0 =>
    cases h1 : ckE a1 t d with
    | er x => simp [h0, h1] at hl
    | ok u1 =>
      cases h2 : ckE a2 t d with
      | er x => simp [h0, h1, h2] at hl
      | ok u2 => simp [h0, h1, h2] at hl; exact ⟨u0, u1, u2, hl.symm, rfl, rfl, rfl⟩

end Go.Proofs.YtgfnodmghaghpaaGreatDoor
end

section
/- What may be of an expression, its program may be. -/
set_option linter.unusedSimpArgs false
set_option linter.unusedVariables false
namespace Go.Proofs.YtgfnodmghaghpaaGreatDoor
open Go Go.Abs

theorem ckL_all (t : Ty) (d : Int) : ∀ (a : List Ex) (l : List Ty), ckL a t d = .ok l → ∀ e ∈ a, ∃ u, ckE e t d = .ok u
  | [], l, h, e, he => by simp at he
  | x :: r, l, h, e, he => by
    simp only [ckL] at h
    cases hx : ckE x t d with
    | er f => rw [hx] at h; simp at h
    | ok u =>
      rw [hx] at h
      simp only at h
      cases hr : ckL r t d with
      | er f => rw [hr] at h; simp at h
      | ok m =>
        rcases List.mem_cons.1 he with rfl | he
        · exact ⟨u, hx⟩
        · exact ckL_all t d r m hr e he

theorem ckE_OkG : ∀ (e : Ex) (t : Ty) (d : Int) (u : Ty), ckE e t d = .ok u → OkG e
  | .mk op v n a, t, d, u, h => by
    rw [ckE_unfold] at h
    by_cases h1 : arE op = -2
    · rw [if_pos h1] at h; simp at h
    rw [if_neg h1] at h
    by_cases h2 : 12 < d
    · rw [if_pos h2] at h; simp at h
    rw [if_neg h2] at h
    by_cases h3 : fieldsE op v n a.length = false
    · rw [if_pos h3] at h; simp at h
    rw [if_neg h3] at h
    have hfl := fields_len h3
    refine .mk op v n a ⟨fun e => h1 (by subst e; decide), fun e => h1 (by subst e; decide)⟩ (fun e => ?_) (fun e => ?_) (fun e => ?_) (fun e he => ?_)
    · subst e
      have e2 : arE oAt = 1 := by decide
      rw [e2] at hfl; simp at hfl; omega
    · have e2 : arE op = 2 := by rcases e with rfl | rfl <;> decide
      rw [e2] at hfl; simp at hfl; omega
    · subst e
      have e2 : arE oIf = 3 := by decide
      rw [e2] at hfl; simp at hfl; omega
    · by_cases hl : op = oLit ∨ op = oX
      · have e2 : arE op = 0 := by rcases hl with rfl | rfl <;> decide
        rw [e2] at hfl
        simp at hfl
        have : a = [] := by
          cases a with
          | nil => rfl
          | cons x r => simp at hfl
        rw [this] at he; simp at he
      · rw [if_neg (fun h => hl (.inl h)), if_neg (fun h => hl (.inr h))] at h
        cases hc : ckL a t (d + 1) with
        | er f => rw [hc] at h; simp at h
        | ok l =>
          obtain ⟨u', hu⟩ := ckL_all t (d + 1) a l hc e he
          exact ckE_OkG e t (d + 1) u' hu
termination_by e => SizeOf.sizeOf e
decreasing_by
  have := List.sizeOf_lt_of_mem he
  simp
  omega

theorem checkE_OkG {e : Ex} {t u : Ty} (h : checkE e t = .ok u) : OkG e := by
  unfold checkE at h
  split at h
  · simp at h
  · split at h
    · simp at h
    · exact ckE_OkG e t 0 u h

end Go.Proofs.YtgfnodmghaghpaaGreatDoor
end

section
/- Operators' programs: how great what they push. -/
set_option linter.unusedSimpArgs false
set_option linter.unusedVariables false
namespace Go.Proofs.YtgfnodmghaghpaaGreatDoor
open Go Go.Abs

theorem joinI_v {p : Va → Prop} : ∀ (l : List (List In)), (∀ q ∈ l, ∀ x ∈ q, p x.v) → ∀ x ∈ joinI l, p x.v := by
  suffices h : ∀ (l : List (List In)) (acc : List In), (∀ x ∈ acc, p x.v) → (∀ q ∈ l, ∀ x ∈ q, p x.v) → ∀ x ∈ l.foldl (fun out p => out ++ p.map (mvI out.length)) acc, p x.v from
    fun l hl => h l [] (by simp) hl
  intro l
  induction l with
  | nil => intro acc h _; exact h
  | cons q l ih =>
    intro acc h hl
    refine ih _ (fun x hx => ?_) (fun r hr => hl r (by simp [hr]))
    rcases List.mem_append.1 hx with hx | hx
    · exact h x hx
    · obtain ⟨y, hy, rfl⟩ := List.mem_map.1 hx
      have := hl q (by simp) y hy
      unfold mvI
      split
      · exact this
      · exact this
theorem mv_v {p : Va → Prop} {b : Int} {l : List In} (h : ∀ x ∈ l, p x.v) : ∀ x ∈ l.map (mvI b), p x.v := by
  intro x hx
  obtain ⟨y, hy, rfl⟩ := List.mem_map.1 hx
  have := h y hy
  unfold mvI
  split
  · exact this
  · exact this
theorem choiceI_v {p : Va → Prop} (h0 : p zeroV) {a b c : List In} (ha : ∀ x ∈ a, p x.v) (hb : ∀ x ∈ b, p x.v) (hc : ∀ x ∈ c, p x.v) : ∀ x ∈ choiceI a b c, p x.v := by
  intro x hx
  simp only [choiceI, List.mem_append, List.mem_cons] at hx
  rcases hx with hx | rfl | hx | rfl | hx
  · exact ha x hx
  · exact h0
  · exact mv_v hb x hx
  · exact h0
  · exact mv_v hc x hx
theorem one_v {p : Va → Prop} (h0 : p zeroV) {op : List UInt8} {n : Int} : ∀ x ∈ [oneI op n], p x.v := by
  intro x hx
  simp at hx; subst hx
  exact h0
theorem push_v {p : Va → Prop} {v : Va} (h : p v) : ∀ x ∈ [pushI v], p x.v := by
  intro x hx
  simp at hx; subst hx
  exact h
theorem getD_v {p : Va → Prop} {l : List (List In)} (h : ∀ q ∈ l, ∀ x ∈ q, p x.v) (i : Nat) : ∀ x ∈ l.getD i [], p x.v := by
  rw [List.getD_eq_getElem?_getD]
  cases hi : l[i]? with
  | none => intro x hx; simp at hx
  | some q => exact h q (List.mem_of_getElem? hi)

mutual
theorem genE_wv : ∀ (e : Ex), We 1000000000 e → ∀ x ∈ genE e, Wv 1000000000 x.v
  | .mk op v n a, hw => by
    obtain ⟨w1, w2, w3⟩ := We_mk.1 hw
    have h := genEs_wv a w3
    have h0 : Wv 1000000000 zeroV := by simp
    simp only [genE]
    repeat' split
    · exact push_v w1
    · exact one_v h0
    · exact joinI_v _ (fun p hp => by
        simp only [List.mem_cons, List.not_mem_nil, or_false] at hp
        rcases hp with rfl | rfl
        · exact getD_v h 0
        · exact one_v h0)
    · exact joinI_v _ (fun p hp => by
        simp only [List.mem_cons, List.not_mem_nil, or_false] at hp
        rcases hp with rfl | rfl
        · exact joinI_v _ h
        · exact one_v h0)
    · exact choiceI_v h0 (getD_v h 0) (getD_v h 1) (push_v (by simp))
    · exact choiceI_v h0 (getD_v h 0) (push_v (by simp)) (getD_v h 1)
    · exact choiceI_v h0 (getD_v h 0) (getD_v h 1) (getD_v h 2)
    · exact joinI_v _ (fun p hp => by
        simp only [List.mem_cons, List.not_mem_nil, or_false] at hp
        rcases hp with rfl | rfl
        · exact joinI_v _ h
        · exact one_v h0)
theorem genEs_wv : ∀ (a : List Ex), (∀ e ∈ a, We 1000000000 e) → ∀ p ∈ genEs a, ∀ x ∈ p, Wv 1000000000 x.v
  | [], _, p, hp => by simp [genEs] at hp
  | e :: r, hw, p, hp => by
    simp only [genEs, List.mem_cons] at hp
    rcases hp with rfl | hp
    · exact genE_wv e (hw e (by simp))
    · exact genEs_wv r (fun x hx => hw x (by simp [hx])) p hp
end

end Go.Proofs.YtgfnodmghaghpaaGreatDoor
end

section
/- The document's values, programs as the program's. -/
set_option linter.unusedSimpArgs false
set_option linter.unusedVariables false
namespace Go.Proofs.YtgfnodmghaghpaaGreatDoor
open Go Go.Abs

attribute [local irreducible] Abs.Fn

theorem to2_spec {v : Va} (h : Wv 1000000000 v) : Abs.Fn Tryz.prog runnellaw2_To_i [] [.p (encV v)] (.p (encV v)) [] := by
  induction h with
  | mk k i b s t hs hl ho ih =>
    apply runnellaw2_To_fn
    simp [runnellaw2_To]
    refine loop_by (σ := Nat) (n := 4) (fun j => [.p (.int .i64 j)]) (fun j => [.box [.p (.int .i64 k), .p (.int .i64 i), .p (.bool b), .p (.str s), .p (.slice (t.map encV))], .box [.p (.int .i64 0), .p (.int .i64 0), .p (.bool false), .p (.str []), .full []],
      .box [.p (.int .i64 k), .p (.int .i64 i), .p (.bool b), .p (.str s), .own 3 ((t.map encV).take j)], .row j 5])
      (fun j => j ≤ t.length) (fun j => t.length - j) [.cell 2 4 5] 0 (fun _ => rfl) ⟨rfl, rfl⟩ (by simp) (fun j B hj hB => ?_)
    simp [runnellaw2_To_L1]
    intro _
    refine ⟨fun hlt => ?_, fun hge => ?_⟩
    · have hi := ih t[j] (by simp)
      simp only [encV_eta] at hi
      simp [hlt]
      refine aCallT_of rfl hi rfl ?_
      simp
      refine ⟨by omega, ⟨encV_sizeT t j, by simp, by simp; omega⟩, ?_⟩
      simp (disch := omega) only [IntWalk.i64_in]
      have := take_snoc (l := t.map encV) (i := j) (by simpa using hlt)
      simp only [List.getElem_map, encV_eta] at this
      rw [this]
      exact hB (j + 1) _ (by omega) (by omega) (by simp) (by simp [Ob.below, AV.under1]) (by simp) (by simp [AV.under, AV.under1])
    · rw [List.take_of_length_le (by simpa using hge)]
      exact gives_pure (by simp [AV.pur, Function.comp_def])

theorem encI7t (l : List In) : ∀ e ∈ l.map encI, e.cells.length = 7 := fun e he => by obtain ⟨y, _, rfl⟩ := List.mem_map.1 he; rfl

theorem to11_o (p : List In) (hl : p.length ≤ 1000000) (hw : ∀ x ∈ p, Wv 1000000000 x.v) : Abs.Fn Tryz.prog runnellaw11_To_i [] [.p (encPr p)] (.own 0 (p.map encI)) [.row p.length 7] := by
  apply runnellaw11_To_fn
  simp [runnellaw11_To, encPr]
  refine loop_by (σ := Nat) (n := 1) (fun k => [.own 0 ((p.map encI).take k), .p (.int .i64 k)]) (fun k => [.row k 7]) (fun k => k ≤ p.length) (fun k => p.length - k) [.slot 0 7] 0 (fun _ => rfl) ⟨rfl, rfl⟩ (by simp) (fun k B hk hB => ?_)
  simp [runnellaw11_To_L1]
  intro _
  refine ⟨fun hkl => ?_, fun hge => ?_⟩
  · have hto := to2_spec (hw p[k] (by simp))
    simp only [encV_eta] at hto
    have e1 : IntKind.i64.wrap ((k : Int) + 1) = ((k + 1 : Nat) : Int) := by rw [IntWalk.i64_in _ (by omega)]; push_cast; rfl
    have hts := take_snoc (l := p.map encI) (i := k) (by simpa using hkl)
    simp only [List.getElem_map, encI_eta] at hts
    simp [hkl, encI_eta]
    refine aCallT_of rfl hto rfl ?_
    simp [hkl, encI_eta]
    refine ⟨by omega, ⟨fun e he => encI7t p e (List.mem_of_mem_take he), by simp, by simp; omega⟩, ?_⟩
    rw [e1, hts]
    exact hB (k + 1) _ (by omega) (by omega) (by simp) (by simp [Ob.below]) (by simp) (by simp [AV.under, AV.under1])
  · have hkk : k = p.length := by omega
    subst hkk
    rw [List.take_of_length_le (by simp)]
    exact gives_own rfl

theorem to11_spec (p : List In) (hl : p.length ≤ 1000000) (hw : ∀ x ∈ p, Wv 1000000000 x.v) : Abs.Fn Tryz.prog runnellaw11_To_i [] [.p (encPr p)] (.p (encPr p)) [] := fn_pure (to11_o p hl hw) rfl

end Go.Proofs.YtgfnodmghaghpaaGreatDoor
end
