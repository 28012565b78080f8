/- The machine runs a program. -/
import Derived.Test.YtondmcnmdooonaaZSpVm
set_option linter.unusedSimpArgs false
set_option linter.unusedVariables false
namespace Go.Proofs.Ytondmcnmdooonaa
open Go Go.Abs

attribute [local irreducible] Abs.Fn

def runH (x : Va) (v : Nat) (s out : List Va) : List Ob := [.box [.p (.int .i64 x.k), .p (.int .i64 x.i), .p (.bool x.b), .p (.str x.s), .p (.slice (x.t.map encV))], .box (mBox x (.msl 2 v 5 0 s.length) (.own 3 (out.map encV))), .mrow v 5 (s.map encV), .row out.length 5]

def runR : R (List Va) → AV
  | .ok l => .tup [.p (.slice (l.map encV)), .p (.int .i64 0)]
  | .er f => .tup [.p (.slice []), .p (.int .i64 f)]

theorem runH_len {x : Va} {v : Nat} {s out : List Va} : (runH x v s out).length = 4 := rfl

theorem oneOf {l : List Va} (h : l.length = 1) : ∃ a, l = [a] := by
  match l, h with
  | [a], _ => exact ⟨a, rfl⟩
theorem twoOf {l : List Va} (h : l.length = 2) : ∃ a b, l = [a, b] := by
  match l, h with
  | [a, b], _ => exact ⟨a, b, rfl⟩

theorem mkE_nr {op : List UInt8} {n : Int} {l : List Va} (h : op ≠ oAt) : mkE op n l = mkE op 0 l := by
  unfold mkE
  simp only [if_neg h]

/-- The machine does an instruction. -/
theorem does_ok (x : Va) (i : In) (s s' outs o : List Va) (v : Nat) (hs : s.length ≤ 100000) (ho : outs.length ≤ 100000) (hw : ∀ y ∈ s, Wv 1000000000 y) (hd : doesI i x s = some (.ok (s', o))) :
    ∃ v' e', Abs.Fn Try.prog vm_machine_does_i (MH x v (s.map encV) s.length outs) [.bptr 0 0, .p (encI i)] (.p (.int .i64 0)) (MH x v' ((s' ++ e').map encV) s'.length (outs ++ o)) := by
  unfold doesI at hd
  split at hd
  · rename_i hop
    simp only [Option.some.injEq, R.ok.injEq, Prod.mk.injEq] at hd
    obtain ⟨rfl, rfl⟩ := hd
    exact ⟨v + 1, [], by simpa using does_push x i s outs v hs hop⟩
  · rename_i n1
    split at hd
    · rename_i hop
      simp only [Option.some.injEq, R.ok.injEq, Prod.mk.injEq] at hd
      obtain ⟨rfl, rfl⟩ := hd
      exact ⟨v + 1, [], by simpa using does_x x i s outs v hs hop⟩
    · rename_i n2
      split at hd
      · rename_i hop
        split at hd
        · rename_i hn
          simp only [Option.some.injEq, R.ok.injEq, Prod.mk.injEq] at hd
          obtain ⟨h1, h2⟩ := hd
          have hspl : s = s' ++ o := by rw [← h1, ← h2, List.take_append_drop]
          have hl : i.n = o.length := by rw [← h2]; simp; omega
          subst hspl
          have := does_emit x i s' o outs v (by simpa using hs) ho hop hl
          exact ⟨v, o, by simpa using this⟩
        · simp at hd
      · rename_i n3
        split at hd
        · rename_i hc
          split at hd
          · simp at hd
          · simp at hd
          · rename_i r hm
            simp only [Option.some.injEq, R.ok.injEq, Prod.mk.injEq] at hd
            obtain ⟨rfl, rfl⟩ := hd
            obtain ⟨s0, top, rfl, hl⟩ : ∃ s0 top, s = s0 ++ top ∧ top.length = arV i.op i.n := ⟨s.take (s.length - arV i.op i.n), s.drop (s.length - arV i.op i.n), (List.take_append_drop _ _).symm, by simp; omega⟩
            have e0 : (s0 ++ top).length - arV i.op i.n = s0.length := by simp; omega
            rw [e0] at hm ⊢
            simp only [List.drop_left, List.take_left] at hm ⊢
            rw [List.append_nil]
            have hs' : s0.length + top.length ≤ 100000 := by simpa using hs
            refine ⟨v + 1, [], ?_⟩
            by_cases ht : i.op = oTup
            · have hn := hc.2 ht
              have hl' : i.n = top.length := by rw [hl]; simp [arV, ht]; omega
              rw [ht] at hm
              have := mkE_tup hm
              simp at this
              subst this
              simpa using does_tup x i s0 top outs v hs' ht hl'
            · by_cases ha : i.op = oAt
              · have h1 : top.length = 1 := by rw [hl]; simp [arV, ha]
                obtain ⟨a, rfl⟩ := oneOf h1
                rw [ha] at hm
                obtain ⟨k, j, b, z, t, w, e1, e2, e3, e4⟩ := mkE_at hm
                simp at e1 e4
                subst e4 e1
                simpa using does_at x i s0 outs (.mk k j b z t) r v (by omega) ha e2 e3
              · rw [mkE_nr ha] at hm
                by_cases h1 : i.op = oNeg ∨ i.op = oNot ∨ i.op = oLen
                · have hl1 : top.length = 1 := by rw [hl]; simp [arV, ht, h1]
                  obtain ⟨a, rfl⟩ := oneOf hl1
                  simpa using does_one x i s0 outs a r v (by omega) h1 hm
                · have hl1 : top.length = 2 := by rw [hl]; simp [arV, ht, ha, h1]
                  obtain ⟨a, b, rfl⟩ := twoOf hl1
                  simp only [not_or] at h1
                  simpa using does_two x i s0 outs a b r v (by omega) ⟨n1, n2, ha, ht, n3, h1.1, h1.2.1, h1.2.2⟩ (hw a (by simp)) (hw b (by simp)) hm
        · simp at hd

theorem does_no (x : Va) (i : In) (s outs : List Va) (f : Int) (v : Nat) (hs : s.length ≤ 100000) (hw : ∀ y ∈ s, Wv 1000000000 y) (hd : doesI i x s = some (.er f)) :
    ∃ n', Abs.Fn Try.prog vm_machine_does_i (MH x v (s.map encV) s.length outs) [.bptr 0 0, .p (encI i)] (.p (.int .i64 f)) (MH x v (s.map encV) n' outs) := by
  unfold doesI at hd
  split at hd
  · simp at hd
  · rename_i n1
    split at hd
    · simp at hd
    · rename_i n2
      split at hd
      · split at hd <;> simp at hd
      · rename_i n3
        split at hd
        · rename_i hc
          split at hd
          · simp at hd
          · rename_i f' hm
            simp only [Option.some.injEq, R.er.injEq] at hd
            subst hd
            obtain ⟨s0, top, rfl, hl⟩ : ∃ s0 top, s = s0 ++ top ∧ top.length = arV i.op i.n := ⟨s.take (s.length - arV i.op i.n), s.drop (s.length - arV i.op i.n), (List.take_append_drop _ _).symm, by simp; omega⟩
            have e0 : (s0 ++ top).length - arV i.op i.n = s0.length := by simp; omega
            rw [e0] at hm
            simp only [List.drop_left] at hm
            have hs' : s0.length + top.length ≤ 100000 := by simpa using hs
            by_cases ht : i.op = oTup
            · rw [ht] at hm
              have := mkE_tup hm
              simp at this
            · by_cases ha : i.op = oAt
              · rw [ha] at hm
                obtain ⟨k, j, b, z, t, w, e1, e2, e3, e4⟩ := mkE_at hm
                simp at e4
              · rw [mkE_nr ha] at hm
                by_cases h1 : i.op = oNeg ∨ i.op = oNot ∨ i.op = oLen
                · have hl1 : top.length = 1 := by rw [hl]; simp [arV, ht, h1]
                  obtain ⟨a, rfl⟩ := oneOf hl1
                  rcases h1 with h1 | h1 | h1 <;> cases a <;> simp [mkE, h1] at hm
                · have hl1 : top.length = 2 := by rw [hl]; simp [arV, ht, ha, h1]
                  obtain ⟨a, b, rfl⟩ := twoOf hl1
                  simp only [not_or] at h1
                  exact ⟨s0.length, by simpa using does_er x i s0 outs a b f' v (by omega) ⟨n1, n2, ha, ht, n3, h1.1, h1.2.1, h1.2.2⟩ (hw a (by simp)) (hw b (by simp)) hm⟩
          · simp at hd
        · simp at hd

theorem vmRun_spec (p : List In) (x : Va) (r : R (List Va)) (h : RunI p x 0 [] [] r) (hp : p.length ≤ 1000000) : Abs.Fn Try.prog vm_Run_i [] [.p (.slice (p.map encI)), .p (encV x)] (runR r) [] := by
  apply vm_Run_fn
  simp [vm_Run]
  refine loop_le (n := 4) (fun q : Nat × List Va × List Va × Nat => [.p (.int .i64 q.1)]) (fun q => runH x q.2.2.2 q.2.1 q.2.2.1) (fun q => RunI p x q.1 q.2.1 q.2.2.1 r) (fun q => p.length - q.1) [.mcell 1 5 5, .cell 1 6 5] (0, [], [], 0) (fun q => rfl) ?_ h ?_
  · simp [ghosts, ghost, runH, mBox]
  · rintro ⟨at', s, out, v⟩ B hI hB
    simp only at hI
    simp [vm_Run_L1]
    have lm : p.length ≤ maxLen := Nat.le_trans hp (by simp only [maxLen]; omega)
    cases hI with
    | fin =>
      simp [runH, mBox, runR, lm]
      exact gives_pure (by simp [AV.pur, toTs])
    | ret hi hop hs =>
      obtain ⟨hlt, rfl⟩ := List.getElem?_eq_some_iff.1 hi
      clear hB
      have hop : p[at'].op = [114, 101, 116] := hop
      simp [runH, mBox, runR, hlt, Nat.not_le.2 hlt, encI_eta, hop, lm]
      exact gives_pure (by simp [AV.pur, toTs])
    | jmp hi hop hs hn h1 h2 hr =>
      obtain ⟨hlt, rfl⟩ := List.getElem?_eq_some_iff.1 hi
      rename_i to
      have hop : p[at'].op = [106, 109, 112] := hop
      have w1 : IntKind.i64.wrap ((to : Int) - 1) = (to : Int) - 1 := IntWalk.i64_in _ (by omega)
      have w2 : IntKind.i64.wrap (to : Int) = (to : Int) := IntWalk.i64_in _ (by omega)
      simp [runH, mBox, runR, hlt, Nat.not_le.2 hlt, encI_eta, hop, hn, vm_Run_J1, lm, w1, w2]
      refine hB (to, s, out, v) _ _ hr (by simp only; omega) ?_ ?_ ?_ ?_ ?_
      all_goals simp [runH, mBox, AV.under, AV.under1, Ob.below]
    | jft hi hop hs hv hr =>
      obtain ⟨hlt, rfl⟩ := List.getElem?_eq_some_iff.1 hi
      rename_i s0 y
      have hop : p[at'].op = [106, 102] := hop
      have hp := pop_top x v s0 [y] out (by simp; omega)
      simp [MH, mBox] at hp
      simp [runH, mBox, runR, hlt, Nat.not_le.2 hlt, encI_eta, hop, lm]
      refine aCallG_of [1, 2, 3] hp rfl (by simp [renF, AV.norm]) (by simp) (by simp [framed, renF]) (by simp [AV.under, AV.under1]) (by simp [Ob.below, AV.under1]) ?_
      simp [renF, frameH, setAll, MH, mBox]
      have hb : y.b = true := by rw [← hv]; cases y; rfl
      have w3 : IntKind.i64.wrap ((at' : Int) + 1) = (at' : Int) + 1 := IntWalk.i64_in _ (by omega)
      simp [vm_Run_J1, hb, runH_len, hop, w3]
      refine hB (at' + 1, s0, out, v) _ _ hr (by simp only; omega) ?_ ?_ ?_ ?_ ?_
      all_goals simp [runH, mBox, AV.under, AV.under1, Ob.below]
    | jff hi hop hs hv hn h1 h2 hr =>
      obtain ⟨hlt, rfl⟩ := List.getElem?_eq_some_iff.1 hi
      rename_i to s0 y
      have hop : p[at'].op = [106, 102] := hop
      have hp := pop_top x v s0 [y] out (by simp; omega)
      simp [MH, mBox] at hp
      simp [runH, mBox, hlt, Nat.not_le.2 hlt, encI_eta, hop, lm]
      refine aCallG_of [1, 2, 3] hp rfl (by simp [renF, AV.norm]) (by simp) (by simp [framed, renF]) (by simp [AV.under, AV.under1]) (by simp [Ob.below, AV.under1]) ?_
      simp [renF, frameH, setAll, MH, mBox]
      have hb : y.b = false := by rw [← hv]; cases y; rfl
      have w1 : IntKind.i64.wrap ((to : Int) - 1) = (to : Int) - 1 := IntWalk.i64_in _ (by omega)
      have w2 : IntKind.i64.wrap (to : Int) = (to : Int) := IntWalk.i64_in _ (by omega)
      simp [vm_Run_J1, hb, runH_len, hop, hn, w1, w2]
      refine hB (to, s0, out, v) _ _ hr (by simp only; omega) ?_ ?_ ?_ ?_ ?_
      all_goals simp [runH, mBox, AV.under, AV.under1, Ob.below]
    | go hi hop hs ho hw hd hr =>
      obtain ⟨hlt, rfl⟩ := List.getElem?_eq_some_iff.1 hi
      rename_i s' o
      obtain ⟨n1, n2, n3⟩ := hop
      have n1 : p[at'].op ≠ [114, 101, 116] := n1
      have n2 : p[at'].op ≠ [106, 109, 112] := n2
      have n3 : p[at'].op ≠ [106, 102] := n3
      obtain ⟨v', e', hp⟩ := does_ok x p[at'] s s' out o v hs ho hw hd
      simp [MH, mBox] at hp
      have w3 : IntKind.i64.wrap ((at' : Int) + 1) = (at' : Int) + 1 := IntWalk.i64_in _ (by omega)
      simp [runH, mBox, hlt, Nat.not_le.2 hlt, encI_eta, n1, n2, n3, lm, vm_Run_J1]
      refine aCallG_of [1, 2, 3] hp rfl (by simp [renF, AV.norm, encI_eta]) (by simp) (by simp [framed, renF]) (by simp [AV.under, AV.under1]) (by simp [Ob.below, AV.under1]) ?_
      simp [renF, frameH, setAll, MH, mBox, w3]
      refine hB (at' + 1, s', out ++ o, v') _ _ hr (by simp only; omega) ?_ ?_ ?_ ?_ ?_
      all_goals simp [runH, mBox, AV.under, AV.under1, Ob.below]
    | er hi hop hs ho hw hd =>
      obtain ⟨hlt, rfl⟩ := List.getElem?_eq_some_iff.1 hi
      rename_i f
      obtain ⟨n1, n2, n3⟩ := hop
      have n1 : p[at'].op ≠ [114, 101, 116] := n1
      have n2 : p[at'].op ≠ [106, 109, 112] := n2
      have n3 : p[at'].op ≠ [106, 102] := n3
      have hf := doesI_er hd
      obtain ⟨n', hp⟩ := does_no x p[at'] s out f v hs hw hd
      simp [MH, mBox] at hp
      simp [runH, mBox, runR, hlt, Nat.not_le.2 hlt, encI_eta, n1, n2, n3, lm, vm_Run_J1]
      refine aCallG_of [1, 2, 3] hp rfl (by simp [renF, AV.norm, encI_eta]) (by simp) (by simp [framed, renF]) (by simp [AV.under, AV.under1]) (by simp [Ob.below, AV.under1]) ?_
      simp [renF, frameH, setAll, MH, mBox, hf]
      exact gives_pure (by simp [AV.pur, toTs, runR])

end Go.Proofs.Ytondmcnmdooonaa
