/- The document's machine runs a program. -/
import Derived.Test.YtondmcnmdooonaaZPuVm
import Derived.Test.YtondmcnmdooonaaZSpEvalC
import Derived.Test.YtondmcnmdooonaaZSpGen
import Derived.Test.YtondmcnmdooonaaA3
import Derived.Test.YtondmcnmdooonaaS1
set_option linter.unusedSimpArgs false
set_option linter.unusedVariables false
namespace Go.Proofs.Ytondmcnmdooonaa
open Go Go.Abs

attribute [local irreducible] Abs.Fn

/-- How many values any op takes. -/
def tkV (op : List UInt8) (n : Int) : Int := if op = oPush ∨ op = oX ∨ op = oJmp ∨ op = oRet' then 0 else if op = oTup ∨ op = oEmit' then n else if op = oAt ∨ op = oNeg ∨ op = oNot ∨ op = oLen ∨ op = oJf then 1 else 2

theorem takes_spec (i : In) : Abs.Fn Try.prog runnelref14_takes_i [] [.p (encI i)] (.p (.int .i64 (tkV i.op i.n))) [] := by
  apply runnelref14_takes_fn
  simp [runnelref14_takes, encI_eta]
  refine ⟨fun h => ?_, fun h1 h2 h3 h4 => ⟨fun h => ?_, fun h5 h6 => ⟨fun h => ?_, fun h7 h8 h9 h10 h11 => ?_⟩⟩⟩
  all_goals refine gives_p (congrArg (T.int .i64) ?_)
  · exact (if_pos h).symm
  · exact ((if_neg (fun h => by rcases h with h | h | h | h <;> contradiction)).trans (if_pos h)).symm
  · exact ((if_neg (fun h => by rcases h with h | h | h | h <;> contradiction)).trans ((if_neg (fun h => by rcases h with h | h <;> contradiction)).trans (if_pos h))).symm
  · exact ((if_neg (fun h => by rcases h with h | h | h | h <;> contradiction)).trans ((if_neg (fun h => by rcases h with h | h <;> contradiction)).trans (if_neg (fun h => by rcases h with h | h | h | h | h <;> contradiction)))).symm

theorem wrapLen {n : Nat} (h : n ≤ maxLen) : IntKind.i64.wrap (n : Int) = n := IntWalk.i64_in _ (by simp only [maxLen] at h; omega)

theorem encV5' (l : List Va) : ∀ e ∈ l.map encV, e.cells.length = 5 := fun e he => by
  obtain ⟨y, _, rfl⟩ := List.mem_map.1 he
  simp

theorem takeAll (s : List Va) : List.take s.length (List.map encV s) = List.map encV s := List.take_of_length_le (by simp)
theorem dropAll (s : List Va) : List.drop s.length (List.map encV s) = [] := List.drop_of_length_le (by simp)
theorem takeFst (s t : List Va) : List.take s.length (List.map encV s ++ t.map encV) = List.map encV s := by rw [List.take_append_of_le_length (by simp)]; exact takeAll s
theorem dropSnd (s : List Va) (ts : List T) : List.drop s.length (List.map encV s ++ ts) = ts := by rw [List.drop_append_of_le_length (by simp), List.drop_of_length_le (by simp)]; rfl

theorem toNatAdd (a b : Nat) : ((a : Int) + b).toNat = a + b := by omega
theorem dropTake (s t : List Va) : List.drop s.length (List.take (s.length + t.length) (List.map encV s ++ List.map encV t)) = List.map encV t := by
  rw [List.take_of_length_le (by simp)]
  exact dropSnd s _
theorem get5 (s t : List Va) (h : (s.length : Int) < s.length + t.length) : ((List.map encV s ++ List.map encV t)[s.length]?.getD default).cells.length = 5 := by
  have hl : s.length < (List.map encV s ++ List.map encV t).length := by simp; omega
  rw [List.getElem?_eq_getElem hl]
  rcases List.mem_append.1 (List.getElem_mem hl) with h | h
  · exact encV5' _ _ h
  · exact encV5' _ _ h

theorem tk_ar {op : List UInt8} {n : Int} {k : Nat} (q1 : op ≠ oPush) (q2 : op ≠ oX) (q3 : op ≠ oEmit') (hp : op ≠ oRet' ∧ op ≠ oJmp ∧ op ≠ oJf) (h0 : op = oTup → 0 ≤ n) (hl : k = arV op n) : tkV op n = k := by
  subst hl
  unfold tkV arV
  rw [if_neg (fun h => by rcases h with h | h | h | h <;> first | exact q1 h | exact q2 h | exact hp.2.1 h | exact hp.1 h)]
  by_cases ht : op = oTup
  · rw [if_pos (.inl ht), if_pos ht]
    have := h0 ht
    omega
  · rw [if_neg (fun h => h.elim ht q3), if_neg ht]
    by_cases h1 : op = oAt ∨ op = oNeg ∨ op = oNot ∨ op = oLen
    · rw [if_pos h1, if_pos (by rcases h1 with h | h | h | h <;> simp [h])]; rfl
    · rw [if_neg h1, if_neg (fun h => by rcases h with h | h | h | h | h <;> first | exact hp.2.2 h | exact h1 (by simp [h]))]; rfl

theorem refRun_spec (p : List In) (x : Va) (r : R (List Va)) (h : RunI p x 0 [] [] r) (hp : p.length ≤ 1000000) : Abs.Fn Try.prog runnelref14_Run_i [] [.p (.slice (p.map encI)), .p (encV x)] (match r with
  | .ok l => .tup [.p (.slice (l.map encV)), .p (.int .i64 0)]
  | .er f => .tup [.p (.slice []), .p (.int .i64 f)]) [] := by
  have lm : p.length ≤ maxLen := Nat.le_trans hp (by simp only [maxLen]; omega)
  apply runnelref14_Run_fn
  simp [runnelref14_Run]
  refine loop_le (n := 2) (fun q : Nat × List Va × List Va => [.p (.slice (q.2.1.map encV)), .own 1 (q.2.2.map encV), .p (.int .i64 q.1)]) (fun q => [.box [.p (.int .i64 x.k), .p (.int .i64 x.i), .p (.bool x.b), .p (.str x.s), .p (.slice (x.t.map encV))], .row q.2.2.length 5]) (fun q => RunI p x q.1 q.2.1 q.2.2 r) (fun q => p.length - q.1) [.slot 1 5] (0, [], []) (fun q => rfl) ?_ h ?_
  · simp [ghosts, ghost, AV.cellT]
  · rintro ⟨at', s, out⟩ B hI hB
    simp only at hI
    simp [runnelref14_Run_L1]
    cases hI with
    | fin =>
      simp [lm]
      exact gives_pure (by simp [AV.pur, toTs])
    | ret hi hop hs =>
      obtain ⟨hlt, rfl⟩ := List.getElem?_eq_some_iff.1 hi
      have hop : p[at'].op = [114, 101, 116] := hop
      have ht := takes_spec p[at']
      simp [tkV, hop, oJmp, oJf] at ht
      have hsl : s.length ≤ maxLen := Nat.le_trans hs (by simp only [maxLen]; omega)
      simp [hlt, Nat.not_le.2 hlt, hop, lm]
      refine aCallW_of rfl rfl ht ?_
      simp [List.getElem?_eq_getElem hlt, encI_eta, hop, hlt, wrapLen hsl, hsl, aSliceSl, atSize, appendable, takeAll, dropAll, encV5']
      exact ⟨by omega, gives_pure (by simp [AV.pur, toTs])⟩
    | jmp hi hop hs hn h1 h2 hr =>
      obtain ⟨hlt, rfl⟩ := List.getElem?_eq_some_iff.1 hi
      rename_i to
      have hop : p[at'].op = [106, 109, 112] := hop
      have ht := takes_spec p[at']
      simp [tkV, hop, oJmp, oJf] at ht
      have hsl : s.length ≤ maxLen := Nat.le_trans hs (by simp only [maxLen]; omega)
      simp [hlt, Nat.not_le.2 hlt, hop, lm]
      refine aCallW_of rfl rfl ht ?_
      have w3 : IntKind.i64.wrap ((at' : Int) + 1) = (at' : Int) + 1 := IntWalk.i64_in _ (by omega)
      simp [List.getElem?_eq_getElem hlt, encI_eta, hop, hlt, wrapLen hsl, hsl, aSliceSl, atSize, appendable, takeAll, dropAll, encV5', w3, hn]
      refine ⟨by omega, ?_⟩
      refine hB (to, s, out) _ _ hr (by simp only; omega) ?_ ?_ ?_ ?_ ?_
      all_goals simp [AV.under, AV.under1, Ob.below, AV.cellT]
    | jft hi hop hs hv hr =>
      obtain ⟨hlt, rfl⟩ := List.getElem?_eq_some_iff.1 hi
      rename_i s0 y
      have hop : p[at'].op = [106, 102] := hop
      have ht := takes_spec p[at']
      simp [tkV, hop, oJmp, oJf] at ht
      have hsl : s0.length + 1 ≤ maxLen := Nat.le_trans (Nat.add_le_add_right hs 1) (by simp only [maxLen]; omega)
      have hsl' : s0.length ≤ maxLen := by omega
      simp [hlt, Nat.not_le.2 hlt, hop, lm]
      refine aCallW_of rfl rfl ht ?_
      have w3 : IntKind.i64.wrap ((at' : Int) + 1) = (at' : Int) + 1 := IntWalk.i64_in _ (by omega)
      have hb : y.b = true := by rw [← hv]; cases y; rfl
      simp [List.getElem?_eq_getElem hlt, encI_eta, hop, hlt, wrapLen hsl', hsl, aSliceSl, atSize, appendable, takeAll, dropAll, encV5', w3, hb]
      refine ⟨by omega, fun e he => ?_, by omega, by omega, ?_⟩
      · have he := List.mem_of_mem_take (List.mem_of_mem_drop he)
        rcases List.mem_append.1 he with he | he
        · exact encV5' _ e he
        · simp at he; subst he; simp
      refine hB (at' + 1, s0, out) _ _ hr (by simp only; omega) ?_ ?_ ?_ ?_ ?_
      all_goals simp [AV.under, AV.under1, Ob.below, AV.cellT]
    | jff hi hop hs hv hn h1 h2 hr =>
      obtain ⟨hlt, rfl⟩ := List.getElem?_eq_some_iff.1 hi
      rename_i to s0 y
      have hop : p[at'].op = [106, 102] := hop
      have ht := takes_spec p[at']
      simp [tkV, hop, oJmp, oJf] at ht
      have hsl : s0.length + 1 ≤ maxLen := Nat.le_trans (Nat.add_le_add_right hs 1) (by simp only [maxLen]; omega)
      have hsl' : s0.length ≤ maxLen := by omega
      simp [hlt, Nat.not_le.2 hlt, hop, lm]
      refine aCallW_of rfl rfl ht ?_
      have w3 : IntKind.i64.wrap ((at' : Int) + 1) = (at' : Int) + 1 := IntWalk.i64_in _ (by omega)
      have hb : y.b = false := by rw [← hv]; cases y; rfl
      simp [List.getElem?_eq_getElem hlt, encI_eta, hop, hlt, wrapLen hsl', hsl, aSliceSl, atSize, appendable, takeAll, dropAll, encV5', w3, hb, hn]
      refine ⟨by omega, fun e he => ?_, by omega, by omega, ?_⟩
      · have he := List.mem_of_mem_take (List.mem_of_mem_drop he)
        rcases List.mem_append.1 he with he | he
        · exact encV5' _ e he
        · simp at he; subst he; simp
      refine hB (to, s0, out) _ _ hr (by simp only; omega) ?_ ?_ ?_ ?_ ?_
      all_goals simp [AV.under, AV.under1, Ob.below, AV.cellT]
    | go hi hop hs ho hw hd hr =>
      rename_i s' o i0
      obtain ⟨hlt, rfl⟩ := List.getElem?_eq_some_iff.1 hi
      obtain ⟨m1, m2, m3⟩ := hop
      have n1 : p[at'].op ≠ [114, 101, 116] := m1
      have n2 : p[at'].op ≠ [106, 109, 112] := m2
      have n3 : p[at'].op ≠ [106, 102] := m3
      have ht := takes_spec p[at']
      have w3 : IntKind.i64.wrap ((at' : Int) + 1) = (at' : Int) + 1 := IntWalk.i64_in _ (by omega)
      have hsl : s.length ≤ maxLen := Nat.le_trans hs (by simp only [maxLen]; omega)
      simp [hlt, Nat.not_le.2 hlt, lm]
      refine aCallW_of rfl rfl ht ?_
      unfold doesI at hd
      split at hd
      · rename_i q1
        have hop : p[at'].op = [112, 117, 115, 104] := q1
        simp only [Option.some.injEq, R.ok.injEq, Prod.mk.injEq] at hd
        obtain ⟨rfl, rfl⟩ := hd
        simp [List.getElem?_eq_getElem hlt, encI_eta, hop, hlt, wrapLen hsl, hsl, aSliceSl, atSize, appendable, takeAll, dropAll, encV5', w3, tkV]
        refine ⟨by omega, by omega, ?_⟩
        refine hB (at' + 1, s ++ [p[at'].v], out ++ []) _ _ hr (by simp only; omega) ?_ ?_ ?_ ?_ ?_
        all_goals simp [AV.under, AV.under1, Ob.below, AV.cellT]
      · rename_i q1
        split at hd
        · rename_i q2
          have hop : p[at'].op = [120] := q2
          simp only [Option.some.injEq, R.ok.injEq, Prod.mk.injEq] at hd
          obtain ⟨rfl, rfl⟩ := hd
          simp [List.getElem?_eq_getElem hlt, encI_eta, hop, hlt, wrapLen hsl, hsl, aSliceSl, atSize, appendable, takeAll, dropAll, encV5', w3, tkV]
          refine ⟨by omega, by omega, ?_⟩
          refine hB (at' + 1, s ++ [x], out ++ []) _ _ hr (by simp only; omega) ?_ ?_ ?_ ?_ ?_
          all_goals simp [AV.under, AV.under1, Ob.below, AV.cellT]
        · rename_i q2
          split at hd
          · rename_i q3
            have hop : p[at'].op = [101, 109, 105, 116] := q3
            split at hd
            · rename_i hn
              simp only [Option.some.injEq, R.ok.injEq, Prod.mk.injEq] at hd
              obtain ⟨h1, h2⟩ := hd
              have hspl : s = s' ++ o := by rw [← h1, ← h2, List.take_append_drop]
              have hl : p[at'].n = o.length := by rw [← h2]; simp; omega
              subst hspl
              have hsl' : s'.length ≤ maxLen := by simp at hsl; omega
              have hsl2 : s'.length + o.length ≤ maxLen := by simpa using hsl
              have tk : tkV p[at'].op p[at'].n = o.length := by simp [tkV, hop, oJmp, oJf, hl]
              rw [tk]
              have hs' : s'.length + o.length ≤ 100000 := by simpa using hs
              simp [List.getElem?_eq_getElem hlt, encI_eta, hop, hlt, wrapLen hsl', hsl2, aSliceSl, atSize, appendable, takeFst, toNatAdd, dropTake, encV5', w3]
              refine ⟨by omega, get5 s' o, by omega, by omega, by omega, by omega, ?_⟩
              refine hB (at' + 1, s', out ++ o) _ _ hr (by simp only; omega) ?_ ?_ ?_ ?_ ?_
              all_goals simp [AV.under, AV.under1, Ob.below, AV.cellT]
            · simp at hd
          · rename_i q3
            split at hd
            · rename_i hc
              split at hd
              · simp at hd
              · simp at hd
              · rename_i v hm
                simp only [Option.some.injEq, R.ok.injEq, Prod.mk.injEq] at hd
                obtain ⟨rfl, rfl⟩ := hd
                obtain ⟨s0, top, rfl, hl⟩ : ∃ s0 top, s = s0 ++ top ∧ top.length = arV p[at'].op p[at'].n := ⟨s.take (s.length - arV p[at'].op p[at'].n), s.drop (s.length - arV p[at'].op p[at'].n), (List.take_append_drop _ _).symm, by simp; omega⟩
                have e0 : (s0 ++ top).length - arV p[at'].op p[at'].n = s0.length := by simp; omega
                rw [e0] at hm hr
                simp only [List.drop_left, List.take_left] at hm hr
                have tk : tkV p[at'].op p[at'].n = top.length := tk_ar q1 q2 q3 ⟨m1, m2, m3⟩ hc.2 hl
                rw [tk]
                have hs' : s0.length + top.length ≤ 100000 := by simpa using hs
                have hsl' : s0.length ≤ maxLen := by simp at hsl; omega
                have hsl2 : s0.length + top.length ≤ maxLen := by simpa using hsl
                have n4 : p[at'].op ≠ [112, 117, 115, 104] := q1
                have n5 : p[at'].op ≠ [120] := q2
                have n6 : p[at'].op ≠ [101, 109, 105, 116] := q3
                have hmk := Make_spec p[at'].op p[at'].n top _ hm (by omega) (fun y hy => hw y (by simp [hy]))
                simp [List.getElem?_eq_getElem hlt, encI_eta, n1, n2, n3, n4, n5, n6, hlt, wrapLen hsl', hsl2, aSliceSl, atSize, appendable, takeFst, toNatAdd, dropTake, encV5', w3]
                refine ⟨by omega, get5 s0 top, by omega, by omega, by omega, ?_⟩
                refine aCallT_of rfl hmk rfl ?_
                simp [R.get, R.num, w3, appendable, encV5']
                refine ⟨by omega, ?_⟩
                refine hB (at' + 1, s0 ++ [v], out ++ []) _ _ hr (by simp only; omega) ?_ ?_ ?_ ?_ ?_
                all_goals simp [AV.under, AV.under1, Ob.below, AV.cellT]
            · simp at hd
    | er hi hop hs ho hw hd =>
      rename_i f i0
      obtain ⟨hlt, rfl⟩ := List.getElem?_eq_some_iff.1 hi
      obtain ⟨m1, m2, m3⟩ := hop
      have n1 : p[at'].op ≠ [114, 101, 116] := m1
      have n2 : p[at'].op ≠ [106, 109, 112] := m2
      have n3 : p[at'].op ≠ [106, 102] := m3
      have ht := takes_spec p[at']
      have w3 : IntKind.i64.wrap ((at' : Int) + 1) = (at' : Int) + 1 := IntWalk.i64_in _ (by omega)
      have hsl : s.length ≤ maxLen := Nat.le_trans hs (by simp only [maxLen]; omega)
      have hf := doesI_er hd
      simp [hlt, Nat.not_le.2 hlt, lm]
      refine aCallW_of rfl rfl ht ?_
      unfold doesI at hd
      split at hd
      · simp at hd
      · rename_i q1
        split at hd
        · simp at hd
        · rename_i q2
          split at hd
          · split at hd <;> simp at hd
          · rename_i q3
            split at hd
            · rename_i hc
              split at hd
              · simp at hd
              · rename_i f' hm
                simp only [Option.some.injEq, R.er.injEq] at hd
                subst hd
                obtain ⟨s0, top, rfl, hl⟩ : ∃ s0 top, s = s0 ++ top ∧ top.length = arV p[at'].op p[at'].n := ⟨s.take (s.length - arV p[at'].op p[at'].n), s.drop (s.length - arV p[at'].op p[at'].n), (List.take_append_drop _ _).symm, by simp; omega⟩
                have e0 : (s0 ++ top).length - arV p[at'].op p[at'].n = s0.length := by simp; omega
                rw [e0] at hm
                simp only [List.drop_left] at hm
                have tk : tkV p[at'].op p[at'].n = top.length := tk_ar q1 q2 q3 ⟨m1, m2, m3⟩ hc.2 hl
                rw [tk]
                have hs' : s0.length + top.length ≤ 100000 := by simpa using hs
                have hsl' : s0.length ≤ maxLen := by simp at hsl; omega
                have hsl2 : s0.length + top.length ≤ maxLen := by simpa using hsl
                have n4 : p[at'].op ≠ [112, 117, 115, 104] := q1
                have n5 : p[at'].op ≠ [120] := q2
                have n6 : p[at'].op ≠ [101, 109, 105, 116] := q3
                have hmk := Make_spec p[at'].op p[at'].n top _ hm (by omega) (fun y hy => hw y (by simp [hy]))
                simp [List.getElem?_eq_getElem hlt, encI_eta, n1, n2, n3, n4, n5, n6, hlt, wrapLen hsl', hsl2, aSliceSl, atSize, appendable, takeFst, toNatAdd, dropTake, encV5', w3]
                refine ⟨by omega, get5 s0 top, by omega, by omega, by omega, ?_⟩
                refine aCallT_of rfl hmk rfl ?_
                simp [R.get, R.num, hf]
                exact gives_pure (by simp [AV.pur, toTs])
              · simp at hd
            · simp at hd

end Go.Proofs.Ytondmcnmdooonaa
