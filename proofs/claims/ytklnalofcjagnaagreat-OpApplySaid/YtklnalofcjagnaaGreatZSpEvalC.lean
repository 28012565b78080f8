/- What the document's Eval answers, over trees. -/
import Derived.Test.YtklnalofcjagnaaGreatZSpEvalB
set_option linter.unusedSimpArgs false
set_option linter.unusedVariables false
namespace Go.Proofs.YtklnalofcjagnaaGreat
open Go Go.Abs

theorem V_spec (n : Int) : Abs.Fn Tryz.prog runnelref6_V_i [] [.p (.int .i64 n)] (.p (encV (intV n))) [] := by
  apply runnelref6_V_fn
  simp [runnelref6_V]
  exact gives_pure (by simp [AV.pur, intV])
theorem Yes_spec (b : Bool) : Abs.Fn Tryz.prog runnelref6_Yes_i [] [.p (.bool b)] (.p (encV (boolV b))) [] := by
  apply runnelref6_Yes_fn
  simp [runnelref6_Yes]
  exact gives_pure (by simp [AV.pur, boolV])

theorem getV (l : List Va) (i : Nat) (h : i < l.length) : (l.map encV).getD i default = encV l[i] := by
  simp [List.getD_eq_getElem?_getD, h]

theorem tdiv_neg_one (i : Int) : i.tdiv (-1) = 0 - i := by rw [Int.tdiv_neg, Int.tdiv_one]; omega
theorem tmod_neg_one (i : Int) : i.tmod (-1) = 0 := by rw [Int.tmod_neg, Int.tmod_one]

/-- The document's op of values. -/
theorem Make_spec (op : List UInt8) (n : Int) (l : List Va) (r : R Va) (h : mkE op n l = some r) (hl : l.length ≤ 1000000000) (hw : ∀ v ∈ l, Wv 1000000000 v) :
    Abs.Fn Tryz.prog runnelref6_Make_i [] [.p (.str op), .p (.int .i64 n), .p (.slice (l.map encV))] (twoR r) [] := by
  apply runnelref6_Make_fn
  simp [runnelref6_Make]
  refine ⟨fun hop => ?_, fun h1 => ⟨fun hop => ?_, fun h2 => ?_⟩⟩
  · have hop : op = oAt := hop
    subst hop
    obtain ⟨k', i', b', s', t', v, rfl, hn0, hv, rfl⟩ := mkE_at h
    obtain ⟨d1, d2, d3, d4, d5, hd⟩ := encV_agg v
    obtain ⟨hlt, hge⟩ := List.getElem?_eq_some_iff.1 hv
    simp [hv, hd]
    refine ⟨⟨hn0, by omega⟩, ?_⟩
    exact twoR_gives (by simp [R.get, R.num, hd])
  · have hop : op = oTup := hop
    subst hop
    have := mkE_tup h
    subst this
    refine ⟨⟨by simp, encV_size l, by simp; omega⟩, ?_⟩
    exact twoR_gives (by simp [R.get, R.num, tupV])
  have hat : op ≠ oAt := h1
  have htup : op ≠ oTup := h2
  simp only [mkE, hat, htup, if_false] at h
  split at h
  · rename_i k i b s t
    refine ⟨fun hop => ?_, fun h3 => ⟨fun hop => ?_, fun h4 => ⟨fun hop => ?_, fun h5 => ?_⟩⟩⟩
    · have hop : op = oNeg := hop
      subst hop; simp at h; subst h
      simp
      refine aCall_p rfl (V_spec _) ?_
      simp [intV]
      exact twoR_gives (by simp [R.get, R.num, intV])
    · have hop : op = oNot := hop
      subst hop; simp at h; subst h
      simp
      refine aCall_p rfl (Yes_spec _) ?_
      simp [boolV]
      exact twoR_gives (by simp [R.get, R.num, boolV])
    · have hop : op = oLen := hop
      subst hop; simp at h; subst h
      simp
      intro _
      refine aCall_p rfl (V_spec _) ?_
      simp [intV]
      exact twoR_gives (by simp [R.get, R.num, intV])
    · have h3 : op ≠ oNeg := h3
      have h4 : op ≠ oNot := h4
      have h5 : op ≠ oLen := h5
      simp [h3, h4, h5] at h
  · rename_i k i b s t k' i' b' s' t'
    have hs1 : s.length ≤ 1000000000 := by cases hw _ (List.mem_cons_self ..); assumption
    have hs2 : s'.length ≤ 1000000000 := by cases hw (.mk k' i' b' s' t') (by simp); assumption
    have hsm := SameR_spec (.mk k i b s t) (.mk k' i' b' s' t')
    have hcm := CompareR_spec (.mk k i b s t) (.mk k' i' b' s' t')
    simp only [encV_mk] at hsm hcm
    split at h
    · rename_i hop; subst hop; simp at h; subst h
      simp
      refine aCallT_of rfl (V_spec _) rfl ?_
      simp [intV]
      exact twoR_gives (by simp [R.get, R.num, intV])
    split at h
    · rename_i hop; subst hop; simp at h; subst h
      simp
      refine aCallT_of rfl (V_spec _) rfl ?_
      simp [intV]
      exact twoR_gives (by simp [R.get, R.num, intV])
    split at h
    · rename_i hop; subst hop; simp at h; subst h
      simp
      refine aCallT_of rfl (V_spec _) rfl ?_
      simp [intV]
      exact twoR_gives (by simp [R.get, R.num, intV])
    split at h
    · rename_i hop; subst hop; simp at h; subst h
      simp
      refine ⟨fun hz => ?_, fun hz => ⟨fun hm => ?_, fun hm => ⟨hz, ?_⟩⟩⟩
      · rw [if_pos hz]
        exact twoR_gives (by simp [R.get, R.num, zeroV])
      · rw [if_neg hz]
        refine aCall_p rfl (V_spec _) ?_
        simp [intV]
        exact twoR_gives (by simp [R.get, R.num, intV, hm, tdiv_neg_one])
      · rw [if_neg hz]
        refine aCallT_of rfl (V_spec _) rfl ?_
        simp [intV]
        exact twoR_gives (by simp [R.get, R.num, intV])
    split at h
    · rename_i hop; subst hop; simp at h; subst h
      simp
      refine ⟨fun hz => ?_, fun hz => ⟨fun hm => ?_, fun hm => ⟨hz, ?_⟩⟩⟩
      · rw [if_pos hz]
        exact twoR_gives (by simp [R.get, R.num, zeroV])
      · rw [if_neg hz]
        refine aCall_p rfl (V_spec _) ?_
        simp [intV]
        exact twoR_gives (by simp [R.get, R.num, intV, hm, tmod_neg_one])
      · rw [if_neg hz]
        refine aCallT_of rfl (V_spec _) rfl ?_
        simp [intV]
        exact twoR_gives (by simp [R.get, R.num, intV])
    split at h
    · rename_i hop; subst hop; simp at h; subst h
      simp
      refine aCallT_of rfl hsm rfl ?_
      simp
      refine aCallT_of rfl (Yes_spec _) rfl ?_
      simp [boolV]
      exact twoR_gives (by simp [R.get, R.num, boolV])
    split at h
    · rename_i hop; subst hop; simp at h; subst h
      simp
      refine aCallT_of rfl hcm rfl ?_
      simp
      refine aCallT_of rfl (Yes_spec _) rfl ?_
      simp [boolV]
      exact twoR_gives (by simp [R.get, R.num, boolV])
    split at h
    · rename_i hop; subst hop; simp at h; subst h
      simp
      refine ⟨by simp [maxLen]; omega, fun _ => ⟨fun hz => ?_, fun hz => ?_⟩⟩
      · rw [if_pos (by omega)]
        exact twoR_gives (by simp [R.get, R.num, zeroV])
      · rw [if_neg (by omega)]
        exact twoR_gives (by simp [R.get, R.num, strV])
    · simp at h
  · simp at h

/-- Every op of arguments has one at least. -/
inductive Ne : Ex → Prop where
  | leaf (op : List UInt8) (v : Va) (n : Int) (a : List Ex) (h : op = oLit ∨ op = oX) : Ne (.mk op v n a)
  | node (op : List UInt8) (v : Va) (n : Int) (a : List Ex) (h : a ≠ []) (ho : ∀ e ∈ a, Ne e) : Ne (.mk op v n a)

mutual
theorem ckE_ne : ∀ (e : Ex) (t : Ty) (d : Int) (u : Ty), ckE e t d = .ok u → Ne e
  | .mk op v n a, t, d, u, h => by
    simp only [ckE] at h
    split at h
    · simp at h
    rename_i har
    split at h
    · simp at h
    split at h
    · simp at h
    rename_i hf
    have hlen := fields_len hf
    by_cases hl : op = oLit ∨ op = oX
    · exact .leaf _ _ _ _ hl
    · have h1 : op ≠ oLit := fun h => hl (.inl h)
      have h2 : op ≠ oX := fun h => hl (.inr h)
      simp only [h1, h2, if_false] at h
      split at h
      · simp at h
      · rename_i l hl'
        refine .node _ _ _ _ ?_ (ckL_ne a t (d + 1) l hl')
        rintro rfl
        unfold arE at hlen har
        simp only [h1, h2, or_self, if_false] at hlen har
        simp at hlen
        grind
theorem ckL_ne : ∀ (a : List Ex) (t : Ty) (d : Int) (l : List Ty), ckL a t d = .ok l → ∀ e ∈ a, Ne e
  | [], t, d, l, h => by simp
  | e :: r, t, d, l, h => by
    simp only [ckL] at h
    split at h
    · simp at h
    · rename_i u hu
      split at h
      · simp at h
      · rename_i l' hl'
        intro x hx
        simp only [List.mem_cons] at hx
        rcases hx with rfl | hx
        · exact ckE_ne x t d u hu
        · exact ckL_ne r t d l' hl' x hx
end

/-- What the document's Eval answers. -/
def EvalRFn (e : Ex) (x : Va) : Prop := ∀ r, evE e x = some r → Abs.Fn Tryz.prog runnelref6_Eval_i [] [.p (encE e), .p (encV x)] (twoR r) []

theorem EvalR_spec : ∀ (e : Ex) (x : Va) (_ : Ne e) (_ : We 1000000000 e) (_ : Wv 1000000000 x), EvalRFn e x
  | .mk op w n a, x, hne, he, hx => by
    intro r hr
    have hla : a.length ≤ 1000000000 := by cases he; assumption
    have hso : ∀ e ∈ a, We 1000000000 e := by cases he; assumption
    obtain ⟨k, i, b, s, t⟩ := w
    obtain ⟨x1, x2, x3, x4, x5, hxa⟩ := encV_agg x
    apply runnelref6_Eval_fn
    rw [hxa]
    simp [runnelref6_Eval]
    have hr0 := hr
    simp only [evE] at hr
    refine ⟨fun hop => ?_, fun hlit => ⟨fun hop => ?_, fun hX => ?_⟩⟩
    · subst hop
      simp at hr
      subst hr
      exact twoR_gives (by simp [R.get, R.num])
    · subst hop
      simp at hr
      subst hr
      exact twoR_gives (by simp [R.get, R.num, hxa])
    have hlit : op ≠ oLit := hlit
    have hX : op ≠ oX := hX
    have hnode : a ≠ [] ∧ ∀ e ∈ a, Ne e := by
      cases hne with
      | leaf _ _ _ _ h => exact absurd h (by simp [hlit, hX])
      | node _ _ _ _ h ho => exact ⟨h, ho⟩
    have hsub : ∀ e ∈ a, EvalRFn e x := fun e hm => EvalR_spec e x (hnode.2 e hm) (hso e hm) hx
    simp only [hlit, hX, if_false] at hr
    obtain ⟨a0, rest, rfl⟩ : ∃ a0 rest, a = a0 :: rest := by
      cases a with
      | nil => exact absurd rfl hnode.1
      | cons a0 rest => exact ⟨_, _, rfl⟩
    obtain ⟨a1, a2, a3, a4, a5, a6, a7, a8, hab⟩ := encE_agg a0
    -- the first argument comes to something
    have h0 : ∃ r0, evE a0 x = some r0 := by
      by_cases hc : op = oAnd ∨ op = oOr ∨ op = oIf
      · obtain ⟨a0', rest', r0, e1, e2, _⟩ := evE_choose hc hr0
        simp at e1
        exact ⟨r0, by rw [e1.1]; exact e2⟩
      · have c1 : op ≠ oAnd := fun h => hc (.inl h)
        have c2 : op ≠ oOr := fun h => hc (.inr (.inl h))
        have c3 : op ≠ oIf := fun h => hc (.inr (.inr h))
        simp only [c1, c2, c3, if_false, evL] at hr
        cases h : evE a0 x with
        | none => simp [h] at hr
        | some r0 => exact ⟨r0, rfl⟩
    obtain ⟨r0, h0⟩ := h0
    have f0 := hsub a0 (by simp) r0 h0
    rw [hab, hxa] at f0
    obtain ⟨c1, c2, c3, c4, c5, hc0⟩ := encV_agg (r0.get zeroV)
    simp [hab]
    refine aCallT_of rfl (by simpa using f0) (twoR_pur r0) ?_
    simp [twoR, hc0]
    cases r0 with
    | er f =>
      have hne := evE_er _ _ _ h0
      have : r = .er f := by
        by_cases hc : op = oAnd ∨ op = oOr ∨ op = oIf
        · obtain ⟨a0', rest', r0', e1, e2, e3⟩ := evE_choose hc hr0
          simp at e1
          rw [← e1.1, h0] at e2
          simp at e2
          subst e2
          exact e3
        · have c1 : op ≠ oAnd := fun h => hc (.inl h)
          have c2 : op ≠ oOr := fun h => hc (.inr (.inl h))
          have c3 : op ≠ oIf := fun h => hc (.inr (.inr h))
          simp only [c1, c2, c3, if_false, evL, h0] at hr
          simpa using hr.symm
      subst this
      refine ⟨fun _ => ?_, fun h => absurd h hne⟩
      exact gives_pure (by simp [AV.pur, twoR, R.get, R.num, zeroV])
    | ok v0 =>
      refine ⟨fun h => absurd rfl h, fun _ => ?_⟩
      obtain ⟨k0, i0, b0, s0, t0⟩ := v0
      simp [R.get] at hc0
      obtain ⟨rfl, rfl, rfl, rfl, rfl⟩ := hc0
      -- the argument of a place
      have arg : ∀ (e : Ex) (r' : R Va), e ∈ a0 :: rest → evE e x = some r' → ∃ y1 y2 y3 y4 y5 y6 y7 y8 d1 d2 d3 d4 d5, encE e = .agg [y1, y2, y3, y4, y5, y6, y7, y8] ∧ encV (r'.get zeroV) = .agg [d1, d2, d3, d4, d5] ∧
          Abs.Fn Tryz.prog runnelref6_Eval_i [] [.p (.agg [y1, y2, y3, y4, y5, y6, y7, y8]), .p (.agg [x1, x2, x3, x4, x5])] (.tup [.p (.agg [d1, d2, d3, d4, d5]), .p (.int .i64 r'.num)]) [] := by
        intro e r' hm hev
        obtain ⟨y1, y2, y3, y4, y5, y6, y7, y8, hy⟩ := encE_agg e
        obtain ⟨d1, d2, d3, d4, d5, hd⟩ := encV_agg (r'.get zeroV)
        have := hsub e hm r' hev
        rw [hy, hxa] at this
        simp only [twoR, hd] at this
        exact ⟨y1, y2, y3, y4, y5, y6, y7, y8, d1, d2, d3, d4, d5, hy, hd, this⟩
      refine ⟨fun hop => ?_, fun hand => ⟨fun hop => ?_, fun hor => ⟨fun hop => ?_, fun hif => ?_⟩⟩⟩
      · have hop : op = oAnd := hop
        subst hop
        simp only [if_true] at hr
        match rest, hr with
        | [e1], hr =>
          simp only [ev2, h0, Va.truth] at hr
          cases b0
          · simp at hr
            subst hr
            exact gives_pure (by simp [AV.pur, twoR, R.get, R.num])
          · simp at hr
            obtain ⟨y1, y2, y3, y4, y5, y6, y7, y8, d1, d2, d3, d4, d5, hy, hd, hfn⟩ := arg e1 r (by simp) hr
            simp [hy]
            refine aCallT_of rfl (by simpa using hfn) rfl ?_
            simp
            exact gives_pure (by simp [AV.pur, twoR, hd])
      · have hop : op = oOr := hop
        subst hop
        simp at hr
        match rest, hr with
        | [e1], hr =>
          simp only [ev2, h0, Va.truth] at hr
          cases b0
          · simp at hr
            obtain ⟨y1, y2, y3, y4, y5, y6, y7, y8, d1, d2, d3, d4, d5, hy, hd, hfn⟩ := arg e1 r (by simp) hr
            simp [hy]
            refine aCallT_of rfl (by simpa using hfn) rfl ?_
            simp
            exact gives_pure (by simp [AV.pur, twoR, hd])
          · simp at hr
            subst hr
            exact gives_pure (by simp [AV.pur, twoR, R.get, R.num])
      · have hop : op = oIf := hop
        subst hop
        simp at hr
        match rest, hr with
        | [e1, e2], hr =>
          simp only [ev3, h0, Va.truth] at hr
          cases b0
          · simp at hr
            obtain ⟨y1, y2, y3, y4, y5, y6, y7, y8, d1, d2, d3, d4, d5, hy, hd, hfn⟩ := arg e2 r (by simp) hr
            simp [hy]
            refine aCallT_of rfl (by simpa using hfn) rfl ?_
            simp
            exact gives_pure (by simp [AV.pur, twoR, hd])
          · simp at hr
            obtain ⟨y1, y2, y3, y4, y5, y6, y7, y8, d1, d2, d3, d4, d5, hy, hd, hfn⟩ := arg e1 r (by simp) hr
            simp [hy]
            refine aCallT_of rfl (by simpa using hfn) rfl ?_
            simp
            exact gives_pure (by simp [AV.pur, twoR, hd])
      · have g1 : op ≠ oAnd := hand
        have g2 : op ≠ oOr := hor
        have g3 : op ≠ oIf := hif
        simp only [g1, g2, g3, if_false] at hr
        cases hl : evL (a0 :: rest) x with
        | none => simp [hl] at hr
        | some ra =>
          refine loop_by (σ := Nat × List Va) (n := 5) (fun q => [.own 4 (q.2.map encV), .p (.int .i64 q.1)])
            (fun q => [.box [.p (.str op), .p (.int .i64 k), .p (.int .i64 i), .p (.bool b), .p (.str s), .p (.slice (t.map encV)), .p (.int .i64 n), .p (.slice ((a0 :: rest).map encE))], .box [.p x1, .p x2, .p x3, .p x4, .p x5],
              .box [.p (.int .i64 0), .p (.int .i64 0), .p (.bool false), .p (.str []), .full []], .box [.p (.int .i64 k0), .p (.int .i64 i0), .p (.bool b0), .p (.str s0), .p (.slice (t0.map encV))], .row q.2.length 5])
            (fun q => q.1 ≤ (a0 :: rest).length ∧ evL ((a0 :: rest).take q.1) x = some (.ok q.2) ∧ q.2.length = q.1 ∧ 1 ≤ q.1) (fun q => (a0 :: rest).length - q.1) [.slot 0 5] (1, [.mk k0 i0 b0 s0 t0]) (fun _ => rfl) ?_ ⟨by simp, by simp [evL, h0], rfl, by simp⟩ (fun q B hq hB => ?_)
          · simp [hab, ghosts, ghost]
          · obtain ⟨j, l⟩ := q
            obtain ⟨q1, q2, q3, q4⟩ := hq
            simp only at q1 q2 q3 q4
            simp [runnelref6_Eval_L1]
            intro _
            refine ⟨fun hlt => ?_, fun hge => ?_⟩
            · have hlt' : j < (a0 :: rest).length := by simp; omega
              have hsn := evL_snoc x (a0 :: rest) j l hlt' q2
              obtain ⟨r', g4, g5⟩ := evL_take_some x (a0 :: rest) (j + 1) ra hl
              rw [hsn] at g4
              cases hev : evE (a0 :: rest)[j] x with
              | none => simp [hev] at g4
              | some u =>
                obtain ⟨y1, y2, y3, y4, y5, y6, y7, y8, d1, d2, d3, d4, d5, hy, hd, hfn⟩ := arg (a0 :: rest)[j] u (List.getElem_mem hlt') hev
                have hge : (encE a0 :: rest.map encE)[j]? = some (encE (a0 :: rest)[j]) := by
                  have : (encE a0 :: rest.map encE) = (a0 :: rest).map encE := rfl
                  rw [this, List.getElem?_map, List.getElem?_eq_getElem hlt']
                  rfl
                simp [hge, hy]
                refine ⟨by omega, aCallT_of rfl (by simpa using hfn) rfl ?_⟩
                simp
                cases u with
                | er f =>
                  have hne := evE_er _ _ _ hev
                  simp only [hev] at hsn
                  have h5 := evL_er_take x (a0 :: rest) (j + 1) f hsn
                  rw [h5] at hr
                  simp at hr
                  subst hr
                  refine ⟨fun _ => ?_, fun h => absurd h hne⟩
                  exact gives_pure (by simp [AV.pur, twoR, R.get, R.num, zeroV])
                | ok v =>
                  refine ⟨fun h => absurd rfl h, fun _ => ?_⟩
                  simp [R.get] at hd
                  simp only [hev] at hsn
                  refine ⟨⟨encV_size l, by simp, by simp at q1 ⊢; omega⟩, ?_⟩
                  rw [IntWalk.i64_in _ (by simp at q1; omega)]
                  have := hB (j + 1, l ++ [v]) [.box [.p (.str op), .p (.int .i64 k), .p (.int .i64 i), .p (.bool b), .p (.str s), .p (.slice (t.map encV)), .p (.int .i64 n), .p (.slice ((a0 :: rest).map encE))], .box [.p x1, .p x2, .p x3, .p x4, .p x5],
                    .box [.p (.int .i64 0), .p (.int .i64 0), .p (.bool false), .p (.str []), .full []], .box [.p (.int .i64 k0), .p (.int .i64 i0), .p (.bool b0), .p (.str s0), .p (.slice (t0.map encV))], .row (l ++ [v]).length 5, .box [.p d1, .p d2, .p d3, .p d4, .p d5]]
                    ⟨by simp; omega, hsn, by simp [q3], by simp⟩ (by simp; omega) (by simp) (by simp [Ob.below, AV.under1]) (by simp) (by simp [AV.under, AV.under1])
                  simpa [hd] using this
            · have hj : j = (a0 :: rest).length := by simp at q1 ⊢; omega
              rw [List.take_of_length_le (by omega), hl] at q2
              simp at q2
              subst q2
              rw [hl] at hr
              simp only at hr
              have hlw := evL_wv (by omega) (a0 :: rest) x l hso hx hl
              have hln := evL_length (a0 :: rest) x l hl
              obtain ⟨d1, d2, d3, d4, d5, hd⟩ := encV_agg (r.get zeroV)
              refine aCallW_of rfl rfl (by simpa using Make_spec op n l r hr (by omega) hlw) ?_
              simp [twoR, hd]
              exact gives_pure (by simp [AV.pur])
termination_by e => SizeOf.sizeOf e
decreasing_by
  have := List.sizeOf_lt_of_mem hm
  simp
  omega

end Go.Proofs.YtklnalofcjagnaaGreat
