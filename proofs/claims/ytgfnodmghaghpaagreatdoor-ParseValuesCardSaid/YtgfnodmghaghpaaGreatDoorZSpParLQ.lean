/- The package parse over trees: values. -/
import Derived.Test.YtgfnodmghaghpaaGreatDoorZSpParEQ
import Derived.Test.YtgfnodmghaghpaaGreatDoorZPuParse
import Derived.Test.YtgfnodmghaghpaaGreatDoorZSpExprCQ
import Derived.Test.YtgfnodmghaghpaaGreatDoorZSpItoaQ
import Derived.Test.YtgfnodmghaghpaaGreatDoorZSpJoin

section
/- The package parse over trees: values. -/
set_option linter.unusedSimpArgs false
set_option linter.unusedVariables false
namespace Go.Proofs.YtgfnodmghaghpaaGreatDoor
open Go Go.Abs

attribute [local irreducible] Abs.Fn

theorem pSomeVal (s : List UInt8) (a a2 : Nat) (bad e2 b2 : Int) (v : Va) (h : Abs.Fn Tryz.prog parse_reader_simple_i (pR s a 0 bad) [.bptr 0 0] (valR v true) (pR s a2 e2 b2)) :
    Abs.Fn Tryz.prog parse_some_val_Value_i (pR s a 0 bad) [.bptr 0 0, .bnd parse_reader_simple_i 0 0] (.p (encV v)) (pR s a2 e2 b2) := by
  simp only [encV_eta]
  apply parse_some_val_Value_fnH
  simp [parse_some_val_Value]
  refine aCallF_of [0] h rfl (by simp [renF]) (by simp) (by simp [framed, renF]) (by simp [AV.under, AV.under1]) (by simp [Ob.below, AV.under1]) ?_
  simp [renF, frameH, setAll]
  refine givesQ ?_
  exact gives_ids [0] (by simp [renF, treeQ, AV.toT, AV.cellT]) rfl (by simp) (by simp [framed, renF]) (by simp [AV.under, AV.under1]) (by simp [Ob.below, AV.under1])

/-- What may stand behind a value. -/
def okRest (v : Va) (rest : List UInt8) : Prop := (v.k = 1 → headNot isDig rest) ∧ (v.k = 2 → headNot isLet rest)

/-- Values, one behind the other, and the bracket behind them. -/
def tl : List Va → List UInt8 → List UInt8
  | [], rest => rest
  | [v], rest => textV v ++ 41 :: rest
  | v :: w :: r, rest => textV v ++ 44 :: tl (w :: r) rest

theorem tl_join : ∀ (t : List Va) (rest : List UInt8), t ≠ [] → TJ.join [44] (t.map textV) ++ 41 :: rest = tl t rest
  | [], rest, h => absurd rfl h
  | [v], rest, _ => by simp [tl, TJ.join, TJ.tail]
  | v :: w :: r, rest, _ => by
    have := tl_join (w :: r) rest (by simp)
    simp only [List.map_cons, tl, TJ.join, TJ.tail] at this ⊢
    rw [← this]
    simp

theorem textV_tup (t : List Va) (i : Int) (b : Bool) (s : List UInt8) (h : t ≠ []) (rest : List UInt8) : textV (.mk 4 i b s t) ++ rest = 40 :: tl t rest := by
  rw [← tl_join t rest h]
  simp [textV, textVs_eq]

theorem row_ne {t : List Va} {d : Int} (h : rowE t.length d = 0) : t ≠ [] := by
  rintro rfl
  simp [rowE] at h

theorem okRest_comma (v : Va) (r : List UInt8) : okRest v (44 :: r) := ⟨fun _ c q h => by injection h with h1 h2; subst h1; decide, fun _ c q h => by injection h with h1 h2; subst h1; decide⟩
theorem okRest_close (v : Va) (r : List UInt8) : okRest v (41 :: r) := ⟨fun _ c q h => by injection h with h1 h2; subst h1; decide, fun _ c q h => by injection h with h1 h2; subst h1; decide⟩

theorem nextB_eq {s : List UInt8} {a : Nat} {c : UInt8} (h : s[a]? = some c) (k : Nat) : nextB s a k = decide (c.toNat = k) := by simp [nextB, h]

theorem pValue_simple (s : List UInt8) (a a2 : Nat) (bad e2 b2 : Int) (v : Va) (hs : s.length ≤ 1000000000) (c : UInt8) (hc : s[a]? = some c) (h40 : c.toNat ≠ 40) (h : Abs.Fn Tryz.prog parse_reader_simple_i (pR s a 0 bad) [.bptr 0 0] (valR v true) (pR s a2 e2 b2)) :
    Abs.Fn Tryz.prog parse_reader_value_i (pR s a 0 bad) [.bptr 0 0] (.p (encV v)) (pR s a2 e2 b2) := by
  have hsv := pSomeVal s a a2 bad e2 b2 v h
  have ht := pTakes s a bad 40 hs
  rw [nextB_eq hc, decide_eq_false h40] at ht
  simp only [Bool.false_eq_true, if_false] at ht
  simp only [encV_eta] at hsv ⊢
  apply parse_reader_value_fnH
  simp [parse_reader_value]
  refine aCallF_of [0] ht rfl (by simp [renF]) (by simp) (by simp [framed, renF]) (by simp [AV.under, AV.under1]) (by simp [Ob.below, AV.under1]) ?_
  simp [renF, frameH, setAll]
  refine aCallF_of [0] hsv rfl (by simp [renF]) (by simp) (by simp [framed, renF]) (by simp [AV.under, AV.under1]) (by simp [Ob.below, AV.under1]) ?_
  simp [renF, frameH, setAll]
  refine givesQ ?_
  exact gives_ids [0] (by simp [renF, treeQ, AV.toT, AV.cellT]) rfl (by simp) (by simp [framed, renF]) (by simp [AV.under, AV.under1]) (by simp [Ob.below, AV.under1])

/-- A value without parts, read. -/
theorem pSimple_any {v : Va} {d : Int} (hc : checkV v d = 0) (hr : RgV v) (h4 : v.k ≠ 4) (s rest : List UInt8) (a : Nat) (bad : Int) (hs : s.length ≤ 1000000000) (h : s.drop a = textV v ++ rest) (ho : okRest v rest) :
    Abs.Fn Tryz.prog parse_reader_simple_i (pR s a 0 bad) [.bptr 0 0] (valR v true) (pR s (a + (textV v).length) 0 bad) ∧ ∃ c, s[a]? = some c ∧ c.toNat ≠ 40 := by
  obtain ⟨k, i, b, t, l⟩ := v
  rcases good_cases hc with ⟨rfl, rfl, rfl, rfl⟩ | ⟨rfl, rfl, rfl, rfl⟩ | ⟨rfl, rfl, rfl, rfl, hsl⟩ | ⟨rfl, rfl, rfl, rfl, hrow, hck⟩
  · cases hr with
    | mk _ _ _ _ _ hk hi hs' ht' ho' =>
    have e : textV (.mk 1 i false [] []) = Lib.itoa i := by simp [textV]
    rw [e] at h ⊢
    have hw := numW_itoa hi
    have hp := pSimple_num s (Lib.itoa i) rest i a bad hs hw h (ho.1 rfl)
    simp only [decide_true, if_true] at hp
    refine ⟨by simpa using hp, ?_⟩
    obtain ⟨ds, hds, hne, hdig⟩ := hw.digs
    obtain ⟨c, q, hcq⟩ := List.exists_cons_of_ne_nil hne
    rcases hds with e | e
    · rw [e, hcq] at h
      obtain ⟨_, _, _, g⟩ := dropc (by simpa using h)
      have := hdig c (by rw [hcq]; simp)
      exact ⟨c, g, by simp [isDig] at this; omega⟩
    · rw [e] at h
      obtain ⟨_, _, _, g⟩ := dropc (by simpa using h)
      exact ⟨45, g, by decide⟩
  · have e : textV (.mk 2 0 b [] []) = if b then [116, 114, 117, 101] else [102, 97, 108, 115, 101] := by simp [textV]
    rw [e] at h ⊢
    have hal : a ≤ s.length := by
      have := congrArg List.length h
      simp at this
      split at this <;> simp at this <;> omega
    cases b with
    | true =>
      simp only [if_true] at h ⊢
      have hsp := spanW_app (p := isLet) h (by decide) (ho.2 rfl)
      obtain ⟨_, _, _, g⟩ := dropc (by simpa using h)
      have hp := pSimple_word s a bad hs hal (fun c hc => by rw [g] at hc; simp at hc; subst hc; decide) [116, 114, 117, 101] (by rw [hsp, h]; simp)
      rw [hsp] at hp
      exact ⟨by simpa using hp, _, g, by decide⟩
    | false =>
      simp only [Bool.false_eq_true, if_false] at h ⊢
      have hsp := spanW_app (p := isLet) h (by decide) (ho.2 rfl)
      obtain ⟨_, _, _, g⟩ := dropc (by simpa using h)
      have hp := pSimple_word s a bad hs hal (fun c hc => by rw [g] at hc; simp at hc; subst hc; decide) [102, 97, 108, 115, 101] (by rw [hsp, h]; simp)
      rw [hsp] at hp
      exact ⟨by simpa using hp, _, g, by decide⟩
  · have e : textV (.mk 3 0 false t []) = quoteS t := by simp [textV]
    rw [e] at h ⊢
    have hp := pSimple_str s t rest a bad hs (by omega) h
    refine ⟨by simpa using hp, 34, ?_, by decide⟩
    rw [quoteS] at h
    exact (dropc (by simpa using h)).2.2.2
  · exact absurd rfl h4

end Go.Proofs.YtgfnodmghaghpaaGreatDoor
end

section
/- The package parse over trees: values, all of them. -/
set_option linter.unusedSimpArgs false
set_option linter.unusedVariables false
namespace Go.Proofs.YtgfnodmghaghpaaGreatDoor
open Go Go.Abs

attribute [local irreducible] Abs.Fn

theorem pos_eq {s : List UInt8} {x y : Nat} (hx : x ≤ s.length) (hy : y ≤ s.length) (h : s.drop x = s.drop y) : x = y := by
  have := congrArg List.length h
  simp at this
  omega
theorem pos_le {s r : List UInt8} {x : Nat} {c : UInt8} (h : s.drop x = c :: r) : x + 1 ≤ s.length := by
  obtain ⟨hl, _⟩ := dropc h
  omega
theorem drop_plus {s w r : List UInt8} {x : Nat} (h : s.drop x = w ++ r) : s.drop (x + w.length) = r := by
  rw [← List.drop_drop, h]; simp
theorem pos_plus {s w r : List UInt8} {x : Nat} (h : s.drop x = w ++ r) (hx : x ≤ s.length) : x + w.length ≤ s.length := by
  have := congrArg List.length h
  simp at this
  omega

/-- What a tuple's texts are from a place on. -/
def tlAt (t : List Va) (i : Nat) (rest : List UInt8) : List UInt8 := if i < t.length then tl (t.drop i) rest else rest

theorem tlAt_step {t : List Va} {i : Nat} (h : i < t.length) (rest : List UInt8) : tlAt t i rest = textV t[i] ++ (if i + 1 < t.length then 44 :: tlAt t (i + 1) rest else 41 :: rest) := by
  unfold tlAt
  rw [if_pos h, List.drop_eq_getElem_cons h]
  by_cases h2 : i + 1 < t.length
  · rw [if_pos h2, if_pos h2, List.drop_eq_getElem_cons h2]
    simp [tl]
  · rw [if_neg h2, List.drop_of_length_le (by omega)]
    simp [tl]

set_option maxHeartbeats 4000000 in
theorem pValue : ∀ (v : Va) (d : Int) (s rest : List UInt8) (a : Nat) (bad : Int) (_ : checkV v d = 0) (_ : RgV v) (_ : s.length ≤ 1000000000) (_ : a ≤ s.length) (_ : s.drop a = textV v ++ rest) (_ : okRest v rest) (_ : 0 ≤ d ∧ d ≤ 100),
    Abs.Fn Tryz.prog parse_reader_value_i (pR s a 0 bad) [.bptr 0 0] (.p (encV v)) (pR s (a + (textV v).length) 0 bad)
  | .mk k i b x t, d, s, rest, a, bad, hc, hi, hs, ha, h, ho, hdd => by
    by_cases h4 : k = 4
    · subst h4
      obtain ⟨rfl, rfl, rfl, hrow, hck⟩ : i = 0 ∧ b = false ∧ x = [] ∧ rowE t.length d = 0 ∧ checkVs t (d + 1) = 0 := by
        rcases good_cases hc with ⟨h, _⟩ | ⟨h, _⟩ | ⟨h, _⟩ | ⟨_, rfl, rfl, rfl, h1, h2⟩
        · omega
        · omega
        · omega
        · exact ⟨rfl, rfl, rfl, h1, h2⟩
      have hne := row_ne hrow
      have hlen : t.length ≤ 8 := by
        unfold rowE at hrow
        repeat' split at hrow
        all_goals omega
      cases hi with
      | mk _ _ _ _ _ hk hi' hx ht hov =>
      have hpos : 0 < t.length := by
        cases t with
        | nil => exact absurd rfl hne
        | cons _ _ => simp
      have h' := h
      rw [textV_tup t 0 false [] hne rest] at h'
      have e0 : tl t rest = tlAt t 0 rest := by simp [tlAt, hpos]
      rw [e0] at h'
      obtain ⟨hl, hg, hd, hg2⟩ := dropc h'
      have ht1 := pTakes s a bad 40 hs
      rw [nextB_eq hg2, decide_eq_true (by decide)] at ht1
      simp only [if_true] at ht1
      have hend : a + (textV (.mk 4 0 false [] t)).length ≤ s.length := pos_plus h ha
      have hend2 : s.drop (a + (textV (.mk 4 0 false [] t)).length) = rest := drop_plus h
      generalize (textV (.mk 4 0 false [] t)).length = L at *
      apply parse_reader_value_fnH
      simp [parse_reader_value]
      refine aCallF_of [0] ht1 rfl (by simp [renF]) (by simp) (by simp [framed, renF]) (by simp [AV.under, AV.under1]) (by simp [Ob.below, AV.under1]) ?_
      simp [renF, frameH, setAll]
      refine loop_by (σ := Nat × Nat) (n := 4) (fun q => []) (fun q => pR s q.2 0 bad ++ [.box [.p (.int .i64 0), .p (.int .i64 0), .p (.bool false), .p (.str []), .full []], .box [.p (.int .i64 4), .p (.int .i64 0), .p (.bool false), .p (.str []), .own 3 ((t.take q.1).map encV)], .row q.1 5])
        (fun q => q.1 < t.length ∧ s.drop q.2 = tlAt t q.1 rest ∧ q.2 ≤ s.length) (fun q => t.length - q.1) [.cell 2 4 5] (0, a + 1) (fun _ => rfl) (by simp [ghosts, ghost]) ⟨hpos, by simpa using hd, by simp only; omega⟩ (fun q B hq hB => ?_)
      obtain ⟨j, p⟩ := q
      obtain ⟨g1, g2, g3⟩ := hq
      simp only at g1 g2 g3
      have hm : t[j] ∈ t := by simp
      rw [tlAt_step g1] at g2
      have hrec := pValue t[j] (d + 1) s _ p bad (checkVs_zero.1 hck _ hm) (hov _ hm) hs g3 g2 (by split; exact okRest_comma _ _; exact okRest_close _ _) (by
        unfold rowE at hrow
        repeat' split at hrow
        all_goals omega)
      have g4 := pos_plus g2 g3
      have g5 := drop_plus g2
      simp only [encV_eta] at hrec
      generalize p + (textV t[j]).length = p2 at *
      have htk := pTakes s p2 bad 41 hs
      have tk : List.take (j + 1) (List.map encV t) = List.take j (List.map encV t) ++ [encV t[j]] := by
        rw [List.take_succ_eq_append_getElem (by simpa using g1)]; simp
      have hap : appendable 5 64 (List.take j (List.map encV t)) [encV t[j]] := ⟨fun e he => encV_size t e (List.mem_of_mem_take he), by simp, by simp; omega⟩
      simp only [encV_eta] at hap
      simp [parse_reader_value_L1]
      by_cases hlast : j + 1 < t.length
      · rw [if_pos hlast] at g5
        obtain ⟨k1, k2, k3, k4⟩ := dropc g5
        rw [nextB_eq k4, decide_eq_false (by decide)] at htk
        simp only [Bool.false_eq_true, if_false] at htk
        have hmu := pMust s p2 bad 44 hs (by rw [nextB_eq k4]; decide)
        have hB2 := hB (j + 1, p2 + 1)
        refine ⟨?_, ?_⟩
        · refine aCallF_of [0] hrec rfl (by simp [renF]) (by simp) (by simp [framed, renF]) (by simp [AV.under, AV.under1]) (by simp [Ob.below, AV.under1]) ?_
          simp [renF, frameH, setAll]
          refine ⟨by omega, hap, ?_⟩
          refine aCallF_of [0] htk rfl (by simp [renF]) (by simp) (by simp [framed, renF]) (by simp [AV.under, AV.under1]) (by simp [Ob.below, AV.under1]) ?_
          simp [renF, frameH, setAll]
          refine aCallF_of [0] hmu rfl (by simp [renF]) (by simp) (by simp [framed, renF]) (by simp [AV.under, AV.under1]) (by simp [Ob.below, AV.under1]) ?_
          simp [renF, frameH, setAll]
          refine hB2 _ ⟨by simp only; omega, by simp only; exact k3, by simp only; omega⟩ (by simp only; omega) ?_ ?_ ?_ (by simp [AV.under, AV.under1])
          · simp [tk]
          · simp [Ob.below, AV.under1]
          · simp
        · refine aCallF_of [0] hrec rfl (by simp [renF]) (by simp) (by simp [framed, renF]) (by simp [AV.under, AV.under1]) (by simp [Ob.below, AV.under1]) ?_
          simp [renF, frameH, setAll]
          refine ⟨by omega, hap, ?_⟩
          refine aCallF_of [0] htk rfl (by simp [renF]) (by simp) (by simp [framed, renF]) (by simp [AV.under, AV.under1]) (by simp [Ob.below, AV.under1]) ?_
          simp [renF, frameH, setAll]
          refine aCallF_of [0] hmu rfl (by simp [renF]) (by simp) (by simp [framed, renF]) (by simp [AV.under, AV.under1]) (by simp [Ob.below, AV.under1]) ?_
          simp [renF, frameH, setAll]
          refine hB2 _ ⟨by simp only; omega, by simp only; exact k3, by simp only; omega⟩ (by simp only; omega) ?_ ?_ ?_ (by simp [AV.under, AV.under1])
          · simp [tk]
          · simp [Ob.below, AV.under1]
          · simp
      · rw [if_neg hlast] at g5
        obtain ⟨k1, k2, k3, k4⟩ := dropc g5
        rw [nextB_eq k4, decide_eq_true (by decide)] at htk
        simp only [if_true] at htk
        have hfin : p2 + 1 = a + L := pos_eq (by omega) hend (by rw [k3, hend2])
        rw [hfin] at htk
        refine ⟨?_, ?_⟩
        · refine aCallF_of [0] hrec rfl (by simp [renF]) (by simp) (by simp [framed, renF]) (by simp [AV.under, AV.under1]) (by simp [Ob.below, AV.under1]) ?_
          simp [renF, frameH, setAll]
          refine ⟨by omega, hap, ?_⟩
          refine aCallF_of [0] htk rfl (by simp [renF]) (by simp) (by simp [framed, renF]) (by simp [AV.under, AV.under1]) (by simp [Ob.below, AV.under1]) ?_
          simp [renF, frameH, setAll]
          have et := ((List.take_of_length_le (i := j + 1) (l := t.map encV) (by simp; omega)).symm.trans tk).symm
          simp only [encV_eta] at et
          have el : j + 1 = t.length := by omega
          simp only [et]
          refine givesQ ?_
          exact gives_ids [0] (by simp [renF, treeQ, AV.toT, AV.cellT]) rfl (by simp) (by simp [framed, renF]) (by simp [AV.under, AV.under1]) (by simp [Ob.below, AV.under1])
        · refine aCallF_of [0] hrec rfl (by simp [renF]) (by simp) (by simp [framed, renF]) (by simp [AV.under, AV.under1]) (by simp [Ob.below, AV.under1]) ?_
          simp [renF, frameH, setAll]
          refine ⟨by omega, hap, ?_⟩
          refine aCallF_of [0] htk rfl (by simp [renF]) (by simp) (by simp [framed, renF]) (by simp [AV.under, AV.under1]) (by simp [Ob.below, AV.under1]) ?_
          simp [renF, frameH, setAll]
          have et := ((List.take_of_length_le (i := j + 1) (l := t.map encV) (by simp; omega)).symm.trans tk).symm
          simp only [encV_eta] at et
          have el : j + 1 = t.length := by omega
          simp only [et]
          refine givesQ ?_
          exact gives_ids [0] (by simp [renF, treeQ, AV.toT, AV.cellT]) rfl (by simp) (by simp [framed, renF]) (by simp [AV.under, AV.under1]) (by simp [Ob.below, AV.under1])
    · obtain ⟨h1, c, h2, h3⟩ := pSimple_any hc hi h4 s rest a bad hs h ho
      exact pValue_simple s a _ bad 0 bad _ hs c h2 h3 h1
termination_by v => SizeOf.sizeOf v
decreasing_by
  have := List.sizeOf_lt_of_mem hm
  simp
  omega

end Go.Proofs.YtgfnodmghaghpaaGreatDoor
end

section
/- The package parse over trees: what stands bare, literals, words. -/
set_option linter.unusedSimpArgs false
set_option linter.unusedVariables false
namespace Go.Proofs.YtgfnodmghaghpaaGreatDoor
open Go Go.Abs

attribute [local irreducible] Abs.Fn

theorem Known_spec (op : List UInt8) : Abs.Fn Tryz.prog expr_Known_i [] [.p (.str op)] (.p (.bool (lookS op shL).isSome)) [] := by
  have h := findSh_spec shL op
  apply expr_Known_fn
  simp [expr_Known]
  refine aCallW_of rfl rfl shapes_spec ?_
  simp
  refine aCallW_of rfl rfl h ?_
  cases lookS op shL with
  | none =>
    simp [findS, encSh]
    exact gives_p (by simp)
  | some s =>
    simp [findS, encSh]
    exact gives_p (by simp)

theorem known_of {op : List UInt8} (h : arE op ≠ -2) : (lookS op shL).isSome = true := by
  rcases lookS_cases op with ⟨_, h'⟩ | h
  · exact absurd h' h
  · rcases h with ⟨_, h⟩ | ⟨_, h⟩ | ⟨_, h⟩ | ⟨_, h⟩ | ⟨_, h⟩ | ⟨_, h⟩ | ⟨_, h⟩ | ⟨_, h⟩ | ⟨_, h⟩ | ⟨_, h⟩ | ⟨_, h⟩ | ⟨_, h⟩ <;> rw [h] <;> rfl

theorem ops_let {op : List UInt8} (h : arE op ≠ -2) : (∀ c ∈ op, isLet c = true) ∧ op ≠ [] := by
  have : ∀ op ∈ opsE, (∀ c ∈ op, isLet c = true) ∧ op ≠ [] := by decide
  exact this op (arE_mem h)

/-- A literal that stands bare. -/
theorem pBare_lit (s : List UInt8) (a a2 : Nat) (bad e2 b2 : Int) (v : Va) (h : Abs.Fn Tryz.prog parse_reader_simple_i (pR s a 0 bad) [.bptr 0 0] (valR v true) (pR s a2 e2 b2)) :
    Abs.Fn Tryz.prog parse_reader_bare_i (pR s a 0 bad) [.bptr 0 0] (.p (encE (litE v))) (pR s a2 e2 b2) := by
  simp only [litE, encE_eta]
  apply parse_reader_bare_fnH
  simp [parse_reader_bare]
  refine aCallF_of [0] h rfl (by simp [renF]) (by simp) (by simp [framed, renF]) (by simp [AV.under, AV.under1]) (by simp [Ob.below, AV.under1]) ?_
  simp [renF, frameH, setAll]
  refine givesQ ?_
  exact gives_ids [0] (by simp [renF, treeQ, AV.toT, AV.cellT]) rfl (by simp) (by simp [framed, renF]) (by simp [AV.under, AV.under1]) (by simp [Ob.below, AV.under1])

/-- x. -/
theorem pBare_x (s rest : List UInt8) (a : Nat) (bad : Int) (hs : s.length ≤ 1000000000) (h : s.drop a = 120 :: rest) (hr : headNot isLet rest) :
    Abs.Fn Tryz.prog parse_reader_bare_i (pR s a 0 bad) [.bptr 0 0] (.p (encE xE)) (pR s (a + 1) 0 bad) := by
  obtain ⟨hl, hg, hd, hg2⟩ := dropc h
  have hsp : spanW isLet s a = 1 := spanW_app (w := [120]) (by simpa using h) (by decide) hr
  have hp := pSimple_word s a bad hs (by omega) (fun c hc => by rw [hg2] at hc; simp at hc; subst hc; decide) [120] (by rw [hsp, h]; simp)
  have hw := pWhile isLet parse_letter_i letter_spec s a 0 bad hs (by omega)
  rw [hsp, h] at hw
  simp at hp hw
  simp only [xE, encE_eta]
  apply parse_reader_bare_fnH
  simp [parse_reader_bare]
  refine aCallF_of [0] hp rfl (by simp [renF]) (by simp) (by simp [framed, renF]) (by simp [AV.under, AV.under1]) (by simp [Ob.below, AV.under1]) ?_
  simp [renF, frameH, setAll]
  refine aCallF_of [0] hw rfl (by simp [renF]) (by simp) (by simp [framed, renF]) (by simp [AV.under, AV.under1]) (by simp [Ob.below, AV.under1]) ?_
  simp [renF, frameH, setAll]
  refine givesQ ?_
  exact gives_ids [0] (by simp [renF, treeQ, AV.toT, AV.cellT]) rfl (by simp) (by simp [framed, renF]) (by simp [AV.under, AV.under1]) (by simp [Ob.below, AV.under1])

/-- The word of an op. -/
theorem pOp1 (s op rest : List UInt8) (a : Nat) (bad : Int) (hs : s.length ≤ 1000000000) (h : s.drop a = op ++ rest) (ho : arE op ≠ -2) (hx : op ≠ oX) (hr : headNot isLet rest) :
    Abs.Fn Tryz.prog parse_reader_op_1_i (pR s a 0 bad ++ [.box [.bptr 0 0]]) [.bptr 1 0] (.tup [.p (.str op), .p (.bool true)]) (pR s (a + op.length) 0 bad ++ [.box [.bptr 0 0]]) := by
  obtain ⟨hlet, hne⟩ := ops_let ho
  have hsp : spanW isLet s a = op.length := spanW_app h hlet hr
  have ha : a ≤ s.length := by
    have := congrArg List.length h
    have := List.length_pos_iff.2 hne
    simp at *; omega
  have hw := pWhile isLet parse_letter_i letter_spec s a 0 bad hs ha
  rw [hsp, h] at hw
  simp at hw
  have hk := Known_spec op
  rw [known_of ho] at hk
  generalize op.length = L at *
  have hx' : ¬ op = [120] := hx
  apply parse_reader_op_1_fnH
  simp [parse_reader_op_1]
  refine aCallF_of [0] hw rfl (by simp [renF]) (by simp) (by simp [framed, renF]) (by simp [AV.under, AV.under1]) (by simp [Ob.below, AV.under1]) ?_
  simp [renF, frameH, setAll, hx']
  refine aMerge_intro true (fun _ => ?_) ?_
  · refine aCallF_of [] hk rfl (by simp [renF]) (by simp) (by simp [framed, renF]) (by simp [AV.under, AV.under1]) (by simp [Ob.below, AV.under1]) ?_
    simp [renF, frameH, setAll]
  · exact gives_ids [0, 1] (by simp [renF]) rfl (by simp) (by simp [framed, renF]) (by simp [AV.under, AV.under1]) (by simp [Ob.below, AV.under1])

/-- The number of an at. -/
theorem pOp2 (s rest : List UInt8) (n : Int) (a : Nat) (bad : Int) (hs : s.length ≤ 1000000000) (h0 : 0 ≤ n) (hn : n ≤ 2147483647) (h : s.drop a = Lib.itoa n ++ rest) (hr : headNot isDig rest) (ha : a ≤ s.length) :
    Abs.Fn Tryz.prog parse_reader_op_2_i (pR s a 0 bad ++ [.box [.bptr 0 0]]) [.bptr 1 0] (.tup [.p (.int .i64 n), .p (.bool true)]) (pR s (a + (Lib.itoa n).length) 0 bad ++ [.box [.bptr 0 0]]) := by
  have hi : I64 n := ⟨by omega, by omega⟩
  have hdig : ∀ c ∈ Lib.itoa n, isDig c = true := by
    have : Lib.itoa n = Lib.decDigits n.toNat := by unfold Lib.itoa; rw [if_neg (by omega)]
    rw [this]
    exact decDigits_dig _
  have hsp := spanW_app h hdig hr
  have hw := pWhile isDig parse_digit_i digit_spec s a 0 bad hs ha
  rw [hsp, h] at hw
  simp at hw
  have hle := pos_plus h ha
  have hnum := pNumber (Lib.itoa n) n hi (parse_itoa hi) (by have := itoa_len hi; omega)
  simp only [decide_true] at hnum
  have hsl : ((s.take (a + (Lib.itoa n).length)).drop a) = Lib.itoa n := by rw [List.drop_take, h]; simp
  apply parse_reader_op_2_fnH
  simp [parse_reader_op_2]
  refine aCallF_of [0] hw rfl (by simp [renF]) (by simp) (by simp [framed, renF]) (by simp [AV.under, AV.under1]) (by simp [Ob.below, AV.under1]) ?_
  simp [renF, frameH, setAll]
  refine ⟨by omega, ?_⟩
  rw [show ((a : Int) + (Lib.itoa n).length).toNat = a + (Lib.itoa n).length by omega, hsl]
  refine aCallT_of rfl hnum (by simp [AV.pur, toTs]; rfl) ?_
  simp [renF, frameH, setAll, hn]
  exact gives_ids [0, 1] (by simp [renF]) rfl (by simp) (by simp [framed, renF]) (by simp [AV.under, AV.under1]) (by simp [Ob.below, AV.under1])

/-- An op's word and number. -/
abbrev opR (op : List UInt8) (n : Int) : AV := .agg [.p (.str op), .p (.int .i64 0), .p (.int .i64 0), .p (.bool false), .p (.str []), .full [], .p (.int .i64 n), .full []]

/-- The word of what stands in brackets. -/
theorem pOp (s op rest : List UInt8) (a : Nat) (bad : Int) (hs : s.length ≤ 1000000000) (h : s.drop a = op ++ rest) (ho : arE op ≠ -2) (hx : op ≠ oX) (hat : op ≠ oAt) (hr : headNot isLet rest) :
    Abs.Fn Tryz.prog parse_reader_op_i (pR s a 0 bad) [.bptr 0 0] (opR op 0) (pR s (a + op.length) 0 bad) := by
  have h1 := pSomeStr parse_reader_op_1_i [(1, 0)] s op a (a + op.length) bad true [.box [.bptr 0 0]] (pOp1 s op rest a bad hs h ho hx hr)
  simp only [if_true, List.cons_append, List.nil_append] at h1
  generalize op.length = L at *
  have hat' : ¬ op = [97, 116] := hat
  apply parse_reader_op_fnH
  simp [parse_reader_op]
  refine aCallF_of [0, 1] h1 rfl (by simp [renF]) (by simp) (by simp [framed, renF]) (by simp [AV.under, AV.under1]) (by simp [Ob.below, AV.under1]) ?_
  simp [renF, frameH, setAll, hat']
  exact gives_ids [0] (by simp [renF]) rfl (by simp) (by simp [framed, renF]) (by simp [AV.under, AV.under1]) (by simp [Ob.below, AV.under1])

theorem pOp_at (s rest : List UInt8) (n : Int) (a : Nat) (bad : Int) (hs : s.length ≤ 1000000000) (h0 : 0 ≤ n) (hn : n ≤ 2147483647) (h : s.drop a = oAt ++ 32 :: (Lib.itoa n ++ rest)) (hr : headNot isDig rest) :
    Abs.Fn Tryz.prog parse_reader_op_i (pR s a 0 bad) [.bptr 0 0] (opR oAt n) (pR s (a + 3 + (Lib.itoa n).length) 0 bad) := by
  have h1 := pSomeStr parse_reader_op_1_i [(1, 0)] s oAt a (a + oAt.length) bad true [.box [.bptr 0 0]] (pOp1 s oAt _ a bad hs h (by decide) (by decide) (fun c q e => by injection e with e1 e2; subst e1; decide))
  simp only [if_true, List.cons_append, List.nil_append] at h1
  have hd : s.drop (a + 2) = 32 :: (Lib.itoa n ++ rest) := drop_plus (w := oAt) h
  obtain ⟨k1, k2, k3, k4⟩ := dropc hd
  have hm := pMust s (a + 2) bad 32 hs (by rw [nextB_eq k4]; decide)
  have h2 := pSomeI parse_reader_op_2_i [(1, 0)] s n (a + 2 + 1) (a + 2 + 1 + (Lib.itoa n).length) bad true [.box [.bptr 0 0]] (pOp2 s rest n (a + 2 + 1) bad hs h0 hn k3 hr (by omega))
  simp only [if_true, List.cons_append, List.nil_append] at h2
  rw [show a + 2 + 1 + (Lib.itoa n).length = a + 3 + (Lib.itoa n).length by omega] at h2
  rw [show a + oAt.length = a + 2 from rfl] at h1
  generalize (Lib.itoa n).length = L at *
  apply parse_reader_op_fnH
  simp [parse_reader_op]
  refine aCallF_of [0, 1] h1 rfl (by simp [renF]) (by simp) (by simp [framed, renF]) (by simp [AV.under, AV.under1]) (by simp [Ob.below, AV.under1]) ?_
  simp [renF, frameH, setAll, oAt]
  refine aCallF_of [0] hm rfl (by simp [renF]) (by simp) (by simp [framed, renF]) (by simp [AV.under, AV.under1]) (by simp [Ob.below, AV.under1]) ?_
  simp [renF, frameH, setAll]
  refine aCallF_of [0, 1] h2 rfl (by simp [renF]) (by simp) (by simp [framed, renF]) (by simp [AV.under, AV.under1]) (by simp [Ob.below, AV.under1]) ?_
  simp [renF, frameH, setAll]
  exact gives_ids [0] (by simp [renF]) rfl (by simp) (by simp [framed, renF]) (by simp [AV.under, AV.under1]) (by simp [Ob.below, AV.under1])

/-- A tuple that stands as it is. -/
theorem pLit (s rest : List UInt8) (v : Va) (a : Nat) (bad : Int) (hs : s.length ≤ 1000000000) (hc : checkV v 0 = 0) (hv : RgV v) (h4 : v.k = 4) (h : s.drop a = 32 :: (textV v ++ rest)) :
    Abs.Fn Tryz.prog parse_reader_lit_i (pR s a 0 bad) [.bptr 0 0] (.p (encE (litE v))) (pR s (a + 1 + (textV v).length) 0 bad) := by
  obtain ⟨k1, k2, k3, k4⟩ := dropc h
  have hm := pMust s a bad 32 hs (by rw [nextB_eq k4]; decide)
  have hval := pValue v 0 s rest (a + 1) bad hc hv hs (by omega) k3 ⟨fun h => by omega, fun h => by omega⟩ (by omega)
  have hck := Checkv_spec v
  rw [hc] at hck
  have hn : nextB s (a + 1) 40 = true := by
    obtain ⟨k, i, b, x, t⟩ := v
    have h4 : k = 4 := h4
    subst h4
    rcases good_cases hc with ⟨h, _⟩ | ⟨h, _⟩ | ⟨h, _⟩ | ⟨_, rfl, rfl, rfl, h1, h2⟩
    · omega
    · omega
    · omega
    · rw [textV_tup t 0 false [] (row_ne h1) rest] at k3
      obtain ⟨_, _, _, k5⟩ := dropc k3
      rw [nextB_eq k5]; decide
  have hnx := pNext s (a + 1) bad 40 hs
  rw [hn] at hnx
  generalize (textV v).length = L at *
  simp only [encV_eta] at hval hck
  simp only [litE, encE_eta]
  apply parse_reader_lit_fnH
  simp [parse_reader_lit]
  refine aCallF_of [0] hm rfl (by simp [renF]) (by simp) (by simp [framed, renF]) (by simp [AV.under, AV.under1]) (by simp [Ob.below, AV.under1]) ?_
  simp [renF, frameH, setAll]
  refine aCallF_of [0] hnx rfl (by simp [renF]) (by simp) (by simp [framed, renF]) (by simp [AV.under, AV.under1]) (by simp [Ob.below, AV.under1]) ?_
  simp [renF, frameH, setAll]
  refine aCallF_of [0] hval rfl (by simp [renF]) (by simp) (by simp [framed, renF]) (by simp [AV.under, AV.under1]) (by simp [Ob.below, AV.under1]) ?_
  simp [renF, frameH, setAll]
  refine aCallQ_of [] hck rfl (by simp [renF, treeQ, AV.toT, AV.cellT]) (by simp) (by simp [framed, renF]) (by simp [AV.under, AV.under1]) (by simp [Ob.below, AV.under1]) ?_
  simp [renF, frameH, setAll]
  refine givesQ ?_
  exact gives_ids [0] (by simp [renF, treeQ, AV.toT, AV.cellT]) rfl (by simp) (by simp [framed, renF]) (by simp [AV.under, AV.under1]) (by simp [Ob.below, AV.under1])

end Go.Proofs.YtgfnodmghaghpaaGreatDoor
end

section
/- The package parse over trees: expressions. -/
set_option linter.unusedSimpArgs false
set_option linter.unusedVariables false
namespace Go.Proofs.YtgfnodmghaghpaaGreatDoor
open Go Go.Abs

attribute [local irreducible] Abs.Fn

/-- What may stand behind an expression. -/
def okE (e : Ex) (rest : List UInt8) : Prop := (e.op = oLit → okRest e.v rest) ∧ (e.op = oX → headNot isLet rest)

theorem headNot_c {p : UInt8 → Bool} {c : UInt8} {r : List UInt8} (h : p c = false) : headNot p (c :: r) := fun x q e => by injection e with e1 e2; subst e1; exact h
theorem okE_c {e : Ex} {c : UInt8} {r : List UInt8} (h1 : isDig c = false) (h2 : isLet c = false) : okE e (c :: r) := ⟨fun _ => ⟨fun _ => headNot_c h1, fun _ => headNot_c h2⟩, fun _ => headNot_c h2⟩

/-- What stands behind a word. -/
def argsT (l : List (List UInt8)) (rest : List UInt8) : List UInt8 := l.foldr (fun t r => 32 :: (t ++ r)) (41 :: rest)

theorem argsT_cons (t : List UInt8) (l : List (List UInt8)) (rest : List UInt8) : argsT (t :: l) rest = 32 :: (t ++ argsT l rest) := rfl
theorem argsT_join : ∀ (l : List (List UInt8)) (op rest : List UInt8), TJ.join [32] (op :: l) ++ 41 :: rest = op ++ argsT l rest
  | [], op, rest => by simp [TJ.join, TJ.tail, argsT]
  | t :: l, op, rest => by
    have := argsT_join l t rest
    simp only [TJ.join, TJ.tail] at this ⊢
    rw [argsT_cons, ← this]
    simp

theorem argsT_head (l : List (List UInt8)) (rest : List UInt8) : ∃ c q, argsT l rest = c :: q ∧ isDig c = false ∧ isLet c = false := by
  cases l with
  | nil => exact ⟨41, rest, rfl, by decide, by decide⟩
  | cons t l => exact ⟨32, _, rfl, by decide, by decide⟩

theorem argsT_step {a : List Ex} {j : Nat} (h : j < a.length) (rest : List UInt8) : argsT ((a.drop j).map textE) rest = 32 :: (textE a[j] ++ argsT ((a.drop (j + 1)).map textE) rest) := by
  rw [List.drop_eq_getElem_cons h]
  rfl

theorem encE_apps (a : List Ex) (j : Nat) (x : T) (hx : x.cells.length = 8) (hj : (a.take j).length ≤ 1000) : appendable 8 112 (List.take j (List.map encE a)) [x] := by
  refine ⟨fun e he => encE_size a e (List.mem_of_mem_take he), by simpa using hx, ?_⟩
  simp at hj ⊢
  omega

set_option maxHeartbeats 4000000 in
/-- The arguments, one behind the other. -/
theorem pArgs (op : List UInt8) (n : Int) (a : List Ex) (d : Int) (s rest : List UInt8) (p0 : Nat) (bad : Int) (L : Nat) (hs : s.length ≤ 1000000000) (hp : p0 ≤ s.length) (h : s.drop p0 = argsT (a.map textE) rest) (hL : L ≤ s.length) (hL2 : s.drop L = rest) (hd : 0 ≤ d ∧ d ≤ 12) (hl : a.length ≤ 8)
    (ih : ∀ e ∈ a, ∀ (rest : List UInt8) (p : Nat), p ≤ s.length → s.drop p = textE e ++ rest → okE e rest → Abs.Fn Tryz.prog parse_reader_expr_i (pR s p 0 bad) [.bptr 0 0, .p (.int .i64 (d + 1))] (.p (encE e)) (pR s (p + (textE e).length) 0 bad)) :
    aLoopN 0 [] [.box [.p (.str s), .p (.int .i64 p0), .p (.int .i64 0), .p (.int .i64 bad)], .box [.p (.str []), .p (.int .i64 0), .p (.int .i64 0), .p (.bool false), .p (.str []), .full [], .p (.int .i64 0), .full []], .box [.p (.str op), .p (.int .i64 0), .p (.int .i64 0), .p (.bool false), .p (.str []), .full [], .p (.int .i64 n), .full []]]
      (fun xs H B1 => parse_reader_expr_L1 (.bptr 0 0) (.p (.int .i64 d)) (.bptr 1 0) (.bptr 2 0) H B1 (fun v H' => Gives 1 v H' (.p (.agg [.str op, .int .i64 0, .int .i64 0, .bool false, .str [], .slice [], .int .i64 n, .slice (a.map encE)])) (pR s L 0 bad))) := by
  refine loop_by (σ := Nat × Nat) (n := 4) (fun q => []) (fun q => pR s q.2 0 bad ++ [.box [.p (.str []), .p (.int .i64 0), .p (.int .i64 0), .p (.bool false), .p (.str []), .full [], .p (.int .i64 0), .full []], .box [.p (.str op), .p (.int .i64 0), .p (.int .i64 0), .p (.bool false), .p (.str []), .full [], .p (.int .i64 n), .own 3 ((a.take q.1).map encE)], .row q.1 8])
    (fun q => q.1 ≤ a.length ∧ s.drop q.2 = argsT ((a.drop q.1).map textE) rest ∧ q.2 ≤ s.length) (fun q => a.length - q.1) [.cell 2 7 8] (0, p0) (fun _ => rfl) (by simp [ghosts, ghost]) ⟨by simp, by simpa using h, by simpa using hp⟩ (fun q B hq hB => ?_)
  obtain ⟨j, p⟩ := q
  obtain ⟨g1, g2, g3⟩ := hq
  simp only at g1 g2 g3
  simp [parse_reader_expr_L1]
  have htk := pTakes s p bad 32 hs
  by_cases hlt : j < a.length
  · rw [argsT_step hlt] at g2
    obtain ⟨k1, k2, k3, k4⟩ := dropc g2
    rw [nextB_eq k4, decide_eq_true (by decide)] at htk
    simp only [if_true] at htk
    have hm : a[j] ∈ a := by simp
    obtain ⟨c, q, hcq, hc1, hc2⟩ := argsT_head ((a.drop (j + 1)).map textE) rest
    have hrec := ih a[j] hm _ (p + 1) (by omega) k3 (by rw [hcq]; exact okE_c hc1 hc2)
    have g4 := pos_plus k3 (by omega)
    have g5 := drop_plus k3
    have hap := encE_apps a j (encE a[j]) (by simp) (by simp; omega)
    have tk : List.take (j + 1) (List.map encE a) = List.take j (List.map encE a) ++ [encE a[j]] := by
      rw [List.take_succ_eq_append_getElem (by simpa using hlt)]; simp
    have hB2 := hB (j + 1, p + 1 + (textE a[j]).length)
    have wd : IntKind.i64.wrap (d + 1) = d + 1 := IntWalk.i64_in _ (by omega)
    simp only [encE_eta] at hrec hap
    generalize p + 1 + (textE a[j]).length = p2 at *
    refine aCallF_of [0] htk rfl (by simp [renF]) (by simp) (by simp [framed, renF]) (by simp [AV.under, AV.under1]) (by simp [Ob.below, AV.under1]) ?_
    simp [renF, frameH, setAll, wd]
    constructor
    · refine aCallF_of [0] hrec rfl (by simp [renF]) (by simp) (by simp [framed, renF]) (by simp [AV.under, AV.under1]) (by simp [Ob.below, AV.under1]) ?_
      simp [renF, frameH, setAll]
      refine ⟨by omega, hap, ?_⟩
      refine hB2 _ ⟨by simp only; omega, by simp only; exact g5, by simp only; omega⟩ (by simp only; omega) ?_ ?_ ?_ (by simp [AV.under, AV.under1])
      · simp [tk]
      · simp [Ob.below, AV.under1]
      · simp
    · refine aCallF_of [0] hrec rfl (by simp [renF]) (by simp) (by simp [framed, renF]) (by simp [AV.under, AV.under1]) (by simp [Ob.below, AV.under1]) ?_
      simp [renF, frameH, setAll]
      refine ⟨by omega, hap, ?_⟩
      refine hB2 _ ⟨by simp only; omega, by simp only; exact g5, by simp only; omega⟩ (by simp only; omega) ?_ ?_ ?_ (by simp [AV.under, AV.under1])
      · simp [tk]
      · simp [Ob.below, AV.under1]
      · simp
  · have hj : j = a.length := by omega
    subst hj
    have e0 : (a.drop a.length).map textE = [] := by simp
    rw [e0] at g2
    obtain ⟨k1, k2, k3, k4⟩ := dropc g2
    rw [nextB_eq k4, decide_eq_false (by decide)] at htk
    simp only [Bool.false_eq_true, if_false] at htk
    have hm := pMust s p bad 41 hs (by rw [nextB_eq k4]; decide)
    have hfin : p + 1 = L := pos_eq (by omega) hL (by rw [k3, hL2])
    rw [hfin] at hm
    refine aCallF_of [0] htk rfl (by simp [renF]) (by simp) (by simp [framed, renF]) (by simp [AV.under, AV.under1]) (by simp [Ob.below, AV.under1]) ?_
    simp [renF, frameH, setAll]
    refine aCallF_of [0] hm rfl (by simp [renF]) (by simp) (by simp [framed, renF]) (by simp [AV.under, AV.under1]) (by simp [Ob.below, AV.under1]) ?_
    simp [renF, frameH, setAll]
    rw [List.take_of_length_le (by simp)]
    refine givesQ ?_
    exact gives_ids [0] (by simp [renF, treeQ, AV.toT, AV.cellT]) rfl (by simp) (by simp [framed, renF]) (by simp [AV.under, AV.under1]) (by simp [Ob.below, AV.under1])

theorem pExpr_bare (s : List UInt8) (a a2 : Nat) (bad e2 b2 : Int) (e : Ex) (d : Int) (hd : d ≤ 12) (hs : s.length ≤ 1000000000) (c : UInt8) (hc : s[a]? = some c) (h40 : c.toNat ≠ 40) (h : Abs.Fn Tryz.prog parse_reader_bare_i (pR s a 0 bad) [.bptr 0 0] (.p (encE e)) (pR s a2 e2 b2)) :
    Abs.Fn Tryz.prog parse_reader_expr_i (pR s a 0 bad) [.bptr 0 0, .p (.int .i64 d)] (.p (encE e)) (pR s a2 e2 b2) := by
  have ht := pTakes s a bad 40 hs
  rw [nextB_eq hc, decide_eq_false h40] at ht
  simp only [Bool.false_eq_true, if_false] at ht
  have hd' : ¬ (12 < d) := by omega
  simp only [encE_eta] at h ⊢
  apply parse_reader_expr_fnH
  simp [parse_reader_expr, parse_reader_expr_J1, hd']
  refine aCallF_of [0] ht rfl (by simp [renF]) (by simp) (by simp [framed, renF]) (by simp [AV.under, AV.under1]) (by simp [Ob.below, AV.under1]) ?_
  simp [renF, frameH, setAll]
  refine aCallF_of [0] h rfl (by simp [renF]) (by simp) (by simp [framed, renF]) (by simp [AV.under, AV.under1]) (by simp [Ob.below, AV.under1]) ?_
  simp [renF, frameH, setAll]
  refine givesQ ?_
  exact gives_ids [0] (by simp [renF, treeQ, AV.toT, AV.cellT]) rfl (by simp) (by simp [framed, renF]) (by simp [AV.under, AV.under1]) (by simp [Ob.below, AV.under1])

theorem textE_op {op : List UInt8} (n : Int) (a : List Ex) (h2 : op ≠ oLit) (h3 : op ≠ oX) (rest : List UInt8) : textE (.mk op zeroV n a) ++ rest = 40 :: (op ++ argsT ((if op = oAt then [Lib.itoa n] else []) ++ a.map textE) rest) := by
  rw [← argsT_join]
  simp only [textE, if_neg h2, if_neg h3, textEs_eq]
  simp

set_option maxHeartbeats 4000000 in
theorem pExpr : ∀ (e : Ex) (d : Int) (s rest : List UInt8) (a : Nat) (bad : Int) (_ : OkP d e) (_ : 0 ≤ d) (_ : s.length ≤ 1000000000) (_ : a ≤ s.length) (_ : s.drop a = textE e ++ rest) (_ : okE e rest),
    Abs.Fn Tryz.prog parse_reader_expr_i (pR s a 0 bad) [.bptr 0 0, .p (.int .i64 d)] (.p (encE e)) (pR s (a + (textE e).length) 0 bad)
  | .mk op v n l, d, s, rest, a, bad, hok, hd0, hs, ha, h, ho => by
    have hend := pos_plus h ha
    have hend2 := drop_plus h
    cases hok with
    | lit _ _ hd hc hr hf hw =>
      have hd' : ¬ (12 < d) := by omega
      by_cases h4 : v.k = 4
      · have e1 : textE (.mk oLit v 0 []) = 40 :: (oLit ++ 32 :: (textV v ++ [41])) := by
          have h1 : oLit ≠ oX := by decide
          simp only [textE, if_neg h1, if_pos, h4]
          simp [oLit]
        rw [e1] at h hend hend2 ⊢
        have h' : s.drop a = 40 :: (oLit ++ (32 :: (textV v ++ (41 :: rest)))) := by rw [h]; simp
        obtain ⟨k1, k2, k3, k4⟩ := dropc h'
        have htk := pTakes s a bad 40 hs
        rw [nextB_eq k4, decide_eq_true (by decide)] at htk
        simp only [if_true] at htk
        have hop := pOp s oLit _ (a + 1) bad hs k3 (by decide) (by decide) (by decide) (headNot_c (by decide))
        have k5 := drop_plus k3
        have hlit := pLit s (41 :: rest) v (a + 1 + oLit.length) bad hs hc hr h4 k5
        obtain ⟨j1, j2, j3, j4⟩ := dropc k5
        have k6 := drop_plus j3
        obtain ⟨i1, i2, i3, i4⟩ := dropc k6
        have hm := pMust s (a + 1 + oLit.length + 1 + (textV v).length) bad 41 hs (by rw [nextB_eq i4]; decide)
        have hfin : a + 1 + oLit.length + 1 + (textV v).length + 1 = a + (40 :: (oLit ++ 32 :: (textV v ++ [41]))).length := pos_eq (by omega) hend (by rw [i3, hend2])
        rw [hfin] at hm
        generalize (40 :: (oLit ++ 32 :: (textV v ++ [41]))).length = L at *
        generalize a + 1 + oLit.length + 1 + (textV v).length = p2 at *
        generalize a + 1 + oLit.length = p1 at *
        simp only [litE, encE_eta] at hlit
        simp only [encE_eta]
        apply parse_reader_expr_fnH
        simp [parse_reader_expr, parse_reader_expr_J1, hd']
        refine aCallF_of [0] htk rfl (by simp [renF]) (by simp) (by simp [framed, renF]) (by simp [AV.under, AV.under1]) (by simp [Ob.below, AV.under1]) ?_
        simp [renF, frameH, setAll]
        refine aCallF_of [0] hop rfl (by simp [renF]) (by simp) (by simp [framed, renF]) (by simp [AV.under, AV.under1]) (by simp [Ob.below, AV.under1]) ?_
        simp [renF, frameH, setAll, oLit]
        refine aCallF_of [0] hlit rfl (by simp [renF]) (by simp) (by simp [framed, renF]) (by simp [AV.under, AV.under1]) (by simp [Ob.below, AV.under1]) ?_
        simp [renF, frameH, setAll]
        refine aCallF_of [0] hm rfl (by simp [renF]) (by simp) (by simp [framed, renF]) (by simp [AV.under, AV.under1]) (by simp [Ob.below, AV.under1]) ?_
        simp [renF, frameH, setAll]
        refine givesQ ?_
        exact gives_ids [0] (by simp [renF, treeQ, AV.toT, AV.cellT]) rfl (by simp) (by simp [framed, renF]) (by simp [AV.under, AV.under1]) (by simp [Ob.below, AV.under1])
      · have e1 : textE (.mk oLit v 0 []) = textV v := by
          have h1 : oLit ≠ oX := by decide
          simp only [textE, if_neg h1, if_pos, h4, if_false]
        rw [e1] at h ⊢
        obtain ⟨j1, c, j2, j3⟩ := pSimple_any hc hr h4 s rest a bad hs h (ho.1 rfl)
        exact pExpr_bare s a _ bad 0 bad (litE v) d hd hs c j2 j3 (pBare_lit s a _ bad 0 bad v j1)
    | x _ hd =>
      have e1 : textE (.mk oX zeroV 0 []) = [120] := by simp only [textE, if_pos]
      rw [e1] at h ⊢
      obtain ⟨k1, k2, k3, k4⟩ := dropc (by simpa using h)
      exact pExpr_bare s a _ bad 0 bad xE d hd hs 120 k4 (by decide) (pBare_x s rest a bad hs (by simpa using h) (ho.2 rfl))
    | op _ _ _ _ hd h1 h2 h3 hn hz hl ho2 =>
      have hd' : ¬ (12 < d) := by omega
      have hmem : ∀ e ∈ l, ∀ (rest : List UInt8) (p : Nat), p ≤ s.length → s.drop p = textE e ++ rest → okE e rest → Abs.Fn Tryz.prog parse_reader_expr_i (pR s p 0 bad) [.bptr 0 0, .p (.int .i64 (d + 1))] (.p (encE e)) (pR s (p + (textE e).length) 0 bad) :=
        fun e hm rest p j1 j2 j3 => pExpr e (d + 1) s rest p bad (ho2 e hm) (by omega) hs j1 j2 j3
      rw [textE_op n l h2 h3 rest] at h
      obtain ⟨k1, k2, k3, k4⟩ := dropc h
      have htk := pTakes s a bad 40 hs
      rw [nextB_eq k4, decide_eq_true (by decide)] at htk
      simp only [if_true] at htk
      obtain ⟨p0, hp0, hp1, hop⟩ : ∃ p0, p0 ≤ s.length ∧ s.drop p0 = argsT (l.map textE) rest ∧ Abs.Fn Tryz.prog parse_reader_op_i (pR s (a + 1) 0 bad) [.bptr 0 0] (opR op n) (pR s p0 0 bad) := by
        by_cases hat : op = oAt
        · subst hat
          obtain ⟨c, q, hcq, hc1, hc2⟩ := argsT_head (l.map textE) rest
          simp only [if_true, List.cons_append, List.nil_append, argsT_cons] at k3
          have k5 := drop_plus (w := oAt) (r := 32 :: (Lib.itoa n ++ argsT (l.map textE) rest)) k3
          obtain ⟨j1, j2, j3, j4⟩ := dropc k5
          have k6 := drop_plus j3
          have k7 := pos_plus j3 (by omega)
          refine ⟨_, k7, k6, ?_⟩
          have := pOp_at s _ n (a + 1) bad hs (hn rfl).1 (hn rfl).2 k3 (by rw [hcq]; exact headNot_c hc1)
          rw [show a + 1 + oAt.length + 1 + (Lib.itoa n).length = a + 1 + 3 + (Lib.itoa n).length by simp [oAt]]
          exact this
        · rw [hz hat]
          simp only [if_neg hat, List.nil_append] at k3
          obtain ⟨c, q, hcq, hc1, hc2⟩ := argsT_head (l.map textE) rest
          exact ⟨_, pos_plus k3 (by omega), drop_plus k3, pOp s op _ (a + 1) bad hs k3 h1 h3 hat (by rw [hcq]; exact headNot_c hc2)⟩
      have hA := pArgs op n l d s rest p0 bad _ hs hp0 hp1 hend hend2 ⟨hd0, hd⟩ hl hmem
      generalize a + (textE (.mk op zeroV n l)).length = L at *
      have hlit : ¬ op = [108, 105, 116] := h2
      simp only [encE_eta]
      apply parse_reader_expr_fnH
      simp [parse_reader_expr, parse_reader_expr_J1, hd']
      refine aCallF_of [0] htk rfl (by simp [renF]) (by simp) (by simp [framed, renF]) (by simp [AV.under, AV.under1]) (by simp [Ob.below, AV.under1]) ?_
      simp [renF, frameH, setAll]
      refine aCallF_of [0] hop rfl (by simp [renF]) (by simp) (by simp [framed, renF]) (by simp [AV.under, AV.under1]) (by simp [Ob.below, AV.under1]) ?_
      simp [renF, frameH, setAll, hlit]
      exact hA
termination_by e => SizeOf.sizeOf e
decreasing_by
  have := List.sizeOf_lt_of_mem hm
  simp
  omega

end Go.Proofs.YtgfnodmghaghpaaGreatDoor
end

section
/- The package parse over trees: Parse. -/
set_option linter.unusedSimpArgs false
set_option linter.unusedVariables false
namespace Go.Proofs.YtgfnodmghaghpaaGreatDoor
open Go Go.Abs

attribute [local irreducible] Abs.Fn

abbrev zeroE : Ex := .mk [] zeroV 0 []

theorem pParse_ok (s : List UInt8) (e : Ex) (a2 : Nat) (b2 : Int) (hs : s.length ≤ 1000000000) (ha : a2 = s.length) (h : Abs.Fn Tryz.prog parse_reader_expr_i (pR s 0 0 0) [.bptr 0 0, .p (.int .i64 0)] (.p (encE e)) (pR s a2 0 b2)) :
    Abs.Fn Tryz.prog parse_Parse_i [] [.p (.str s)] (.tup [.p (encE e), .p (.int .i64 0), .p (.int .i64 0)]) [] := by
  have hml : s.length ≤ maxLen := by unfold maxLen; omega
  subst ha
  simp only [encE_eta] at h ⊢
  apply parse_Parse_fn
  simp [parse_Parse]
  refine aCallF_of [1] h rfl (by simp [renF]) (by simp) (by simp [framed, renF]) (by simp [AV.under, AV.under1]) (by simp [Ob.below, AV.under1]) ?_
  simp [renF, frameH, setAll, hml]
  simp [parse_Parse_J1]
  refine givesQ_tup ?_
  exact gives_ids [] (by simp [renF, treeQ, AV.toT, AV.cellT, allT]) rfl (by simp) (by simp [framed, renF]) (by simp [AV.under, AV.under1]) (by simp [Ob.below, AV.under1])

theorem pParse_er (s : List UInt8) (e : Ex) (a2 : Nat) (e2 b2 : Int) (hs : s.length ≤ 1000000000) (ha : a2 ≤ s.length) (h : Abs.Fn Tryz.prog parse_reader_expr_i (pR s 0 0 0) [.bptr 0 0, .p (.int .i64 0)] (.p (encE e)) (pR s a2 e2 b2)) (he : e2 ≠ 0) :
    Abs.Fn Tryz.prog parse_Parse_i [] [.p (.str s)] (.tup [.p (encE zeroE), .p (.int .i64 b2), .p (.int .i64 e2)]) [] := by
  have hml : s.length ≤ maxLen := by unfold maxLen; omega
  have hf := pFail1 s a2 e2 b2 a2 2 he
  simp only [encE_eta] at h ⊢
  apply parse_Parse_fn
  simp [parse_Parse]
  refine aCallF_of [1] h rfl (by simp [renF]) (by simp) (by simp [framed, renF]) (by simp [AV.under, AV.under1]) (by simp [Ob.below, AV.under1]) ?_
  simp [renF, frameH, setAll, hml]
  refine ⟨fun hlt => ?_, fun hge => ?_⟩
  · refine aCallF_of [1] hf rfl (by simp [renF]) (by simp) (by simp [framed, renF]) (by simp [AV.under, AV.under1]) (by simp [Ob.below, AV.under1]) ?_
    simp [renF, frameH, setAll, parse_Parse_J1, he]
    refine givesQ_tup ?_
    exact gives_ids [] (by simp [renF, treeQ, AV.toT, AV.cellT, allT]) rfl (by simp) (by simp [framed, renF]) (by simp [AV.under, AV.under1]) (by simp [Ob.below, AV.under1])
  · simp [parse_Parse_J1, he]
    refine givesQ_tup ?_
    exact gives_ids [] (by simp [renF, treeQ, AV.toT, AV.cellT, allT]) rfl (by simp) (by simp [framed, renF]) (by simp [AV.under, AV.under1]) (by simp [Ob.below, AV.under1])

theorem pParse_more (s : List UInt8) (e : Ex) (a2 : Nat) (b2 : Int) (hs : s.length ≤ 1000000000) (ha : a2 < s.length) (h : Abs.Fn Tryz.prog parse_reader_expr_i (pR s 0 0 0) [.bptr 0 0, .p (.int .i64 0)] (.p (encE e)) (pR s a2 0 b2)) :
    Abs.Fn Tryz.prog parse_Parse_i [] [.p (.str s)] (.tup [.p (encE zeroE), .p (.int .i64 a2), .p (.int .i64 2)]) [] := by
  have hml : s.length ≤ maxLen := by unfold maxLen; omega
  have hf := pFail0 s a2 b2 a2 2
  simp only [encE_eta] at h ⊢
  apply parse_Parse_fn
  simp [parse_Parse]
  refine aCallF_of [1] h rfl (by simp [renF]) (by simp) (by simp [framed, renF]) (by simp [AV.under, AV.under1]) (by simp [Ob.below, AV.under1]) ?_
  simp [renF, frameH, setAll, hml, ha]
  refine aCallF_of [1] hf rfl (by simp [renF]) (by simp) (by simp [framed, renF]) (by simp [AV.under, AV.under1]) (by simp [Ob.below, AV.under1]) ?_
  simp [renF, frameH, setAll, parse_Parse_J1]
  refine givesQ_tup ?_
  exact gives_ids [] (by simp [renF, treeQ, AV.toT, AV.cellT, allT]) rfl (by simp) (by simp [framed, renF]) (by simp [AV.under, AV.under1]) (by simp [Ob.below, AV.under1])

theorem Parse_back (e : Ex) (h : OkP 0 e) (hl : (textE e).length ≤ 1000000000) : Abs.Fn Tryz.prog parse_Parse_i [] [.p (.str (textE e))] (.tup [.p (encE e), .p (.int .i64 0), .p (.int .i64 0)]) [] :=
  pParse_ok (textE e) e _ 0 hl rfl (by
    have := pExpr e 0 (textE e) [] 0 0 h (by omega) hl (by omega) (by simp) ⟨fun _ => ⟨fun _ c q h => by simp at h, fun _ c q h => by simp at h⟩, fun _ c q h => by simp at h⟩
    simpa using this)

theorem Parse_more (e : Ex) (rest : List UInt8) (h : OkP 0 e) (hl : (textE e ++ rest).length ≤ 1000000000) (hr : rest ≠ []) (ho : okE e rest) :
    Abs.Fn Tryz.prog parse_Parse_i [] [.p (.str (textE e ++ rest))] (.tup [.p (encE zeroE), .p (.int .i64 (textE e).length), .p (.int .i64 2)]) [] :=
  pParse_more (textE e ++ rest) e _ 0 hl (by have := List.length_pos_iff.2 hr; simp; omega) (by
    have := pExpr e 0 (textE e ++ rest) rest 0 0 h (by omega) hl (by omega) (by simp) ho
    simpa using this)

end Go.Proofs.YtgfnodmghaghpaaGreatDoor
end

section
/- Expressions in words, over trees. -/
set_option linter.unusedSimpArgs false
set_option linter.unusedVariables false
namespace Go.Proofs.YtgfnodmghaghpaaGreatDoor
open Go Go.Abs

attribute [local irreducible] Abs.Fn

/-- Texts, each behind a blank. -/
def blT (l : List (List UInt8)) : List UInt8 := l.flatMap (fun t => 32 :: t)

theorem join_bl : ∀ (l : List (List UInt8)) (x : List UInt8), TJ.join [32] (x :: l) = x ++ blT l
  | [], x => by simp [TJ.join, TJ.tail, blT]
  | t :: l, x => by
    have := join_bl l t
    simp only [TJ.join, TJ.tail] at this ⊢
    rw [show blT (t :: l) = 32 :: (t ++ blT l) by simp [blT], ← this]
    simp

theorem textE_eq {op : List UInt8} (n : Int) (a : List Ex) (h2 : op ≠ oLit) (h3 : op ≠ oX) : textE (.mk op zeroV n a) = 40 :: (op ++ blT ((if op = oAt then [Lib.itoa n] else []) ++ a.map textE)) ++ [41] := by
  rw [← join_bl]
  simp only [textE, if_neg h2, if_neg h3, textEs_eq]
  simp

theorem blT_take (l : List (List UInt8)) (j : Nat) : (blT (l.take j)).length ≤ (blT l).length := by
  have : blT l = blT (l.take j) ++ blT (l.drop j) := by
    rw [blT, blT, blT, ← List.flatMap_append, List.take_append_drop]
  rw [this]; simp

theorem blT_snoc (l : List (List UInt8)) (j : Nat) (h : j < l.length) : blT (l.take (j + 1)) = blT (l.take j) ++ 32 :: l[j] := by
  rw [List.take_succ_eq_append_getElem h, blT, blT, List.flatMap_append]
  simp only [List.flatMap_cons, List.flatMap_nil, List.append_nil]

theorem blT_mem (l : List (List UInt8)) (j : Nat) (h : j < l.length) : l[j].length ≤ (blT l).length := by
  have h1 := blT_take l (j + 1)
  rw [blT_snoc l j h] at h1
  simp at h1
  omega

theorem exprText_loop (op : List UInt8) (n : Int) (a : List Ex) (acc r : List UInt8) (h : acc ++ blT (a.map textE) ++ [41] = r) (hlen : r.length ≤ 1000000000) (ha : a.length ≤ 8) (ih : ∀ e ∈ a, Abs.Fn Tryz.prog runnelref6_ExprText_i [] [.p (encE e)] (.p (.str (textE e))) []) :
    runnelref6_ExprText_J1 (.bptr 0 0) (.p (.str acc)) [.box [.p (.str op), .p (.int .i64 0), .p (.int .i64 0), .p (.bool false), .p (.str []), .p (.slice []), .p (.int .i64 n), .p (.slice (a.map encE))]] (fun v H' => Gives 0 v H' (.p (.str r)) []) := by
  subst h
  simp only [List.length_append, List.length_cons, List.length_nil] at hlen
  simp only [runnelref6_ExprText_J1]
  refine loop_by (σ := Nat) (n := 1) (fun j => [.p (.str (acc ++ blT ((a.map textE).take j))), .p (.int .i64 j)]) (fun _ => [.box [.p (.str op), .p (.int .i64 0), .p (.int .i64 0), .p (.bool false), .p (.str []), .p (.slice []), .p (.int .i64 n), .p (.slice (a.map encE))]]) (fun j => j ≤ a.length) (fun j => a.length - j) [] 0 (fun _ => rfl) (by simp [ghosts, blT]) (by simp) (fun j B hj hB => ?_)
  have hb1 := blT_take (a.map textE) j
  simp [runnelref6_ExprText_L1]
  refine fun _ => ⟨fun hlt => ?_, fun hge => ?_⟩
  · have hm : a[j] ∈ a := by simp
    have hi := ih a[j] hm
    have hb2 := blT_snoc (a.map textE) j (by simpa using hlt)
    have hb3 := blT_take (a.map textE) (j + 1)
    have hB2 := hB (j + 1)
    rw [hb2] at hb3 hB2
    simp only [List.length_append, List.length_cons, List.getElem_map] at hb3 hB2
    simp only [encE_eta] at hi
    refine ⟨by unfold maxLen; omega, ?_⟩
    simp [hlt]
    refine aCallQ_of [] hi rfl (by simp [renF, treeQ, AV.toT, AV.cellT]) (by simp) (by simp [framed, renF]) (by simp [AV.under, AV.under1]) (by simp [Ob.below, AV.under1]) ?_
    simp [renF, frameH, setAll]
    rw [IntWalk.i64_in _ (by omega)]
    refine ⟨by unfold maxLen; omega, ?_⟩
    exact hB2 _ (by omega) (by omega) (by simp) (by simp [Ob.below, AV.under1]) (by simp) (by simp [AV.under, AV.under1])
  · have : j = a.length := by omega
    subst this
    rw [List.take_of_length_le (by simp)]
    exact ⟨by unfold maxLen; omega, gives_p (by simp)⟩

theorem ExprText_spec : ∀ (e : Ex) (d : Int) (_ : OkP d e) (_ : (textE e).length ≤ 1000000000), Abs.Fn Tryz.prog runnelref6_ExprText_i [] [.p (encE e)] (.p (.str (textE e))) []
  | .mk op v n a, d, hok, hlen => by
    cases hok with
    | lit _ _ hd hc hr hf hw =>
      have h1 : oLit ≠ oX := by decide
      have hv := valueText_spec v hr hw (by omega)
      have hml : (textV v).length + 6 ≤ maxLen := by unfold maxLen; omega
      simp only [encV_eta] at hv
      simp only [encE_eta]
      apply runnelref6_ExprText_fn
      simp [runnelref6_ExprText, oLit]
      refine ⟨fun h4 => ?_, fun h4 => ?_⟩
      · refine aCallQ_of [] hv rfl (by simp [renF, treeQ, AV.toT, AV.cellT, h4]) (by simp) (by simp [framed, renF]) (by simp [AV.under, AV.under1]) (by simp [Ob.below, AV.under1]) ?_
        simp [renF, frameH, setAll]
        exact ⟨by omega, by omega, gives_p (by simp [textE, h4, oLit, oX])⟩
      · refine aCallQ_of [] hv rfl (by simp [renF, treeQ, AV.toT, AV.cellT]) (by simp) (by simp [framed, renF]) (by simp [AV.under, AV.under1]) (by simp [Ob.below, AV.under1]) ?_
        simp [renF, frameH, setAll]
        exact gives_p (by simp [textE, h4, oLit, oX])
    | x _ hd =>
      simp only [encE_eta]
      apply runnelref6_ExprText_fn
      simp [runnelref6_ExprText, oX]
      exact gives_p (by simp [textE, oX])
    | op _ _ _ _ hd h1 h2 h3 hn hz hl ho2 =>
      have hmem : ∀ e ∈ a, Abs.Fn Tryz.prog runnelref6_ExprText_i [] [.p (encE e)] (.p (.str (textE e))) [] := fun e hm => ExprText_spec e (d + 1) (ho2 e hm) (by
        rw [textE_eq n a h2 h3] at hlen
        simp only [List.length_cons, List.length_append] at hlen
        obtain ⟨j, hj, he⟩ := List.getElem_of_mem hm
        subst he
        have h5 := blT_mem ((if op = oAt then [Lib.itoa n] else []) ++ a.map textE) ((if op = oAt then [Lib.itoa n] else []).length + j) (by simp; omega)
        rw [List.getElem_append_right (by omega)] at h5
        simp at h5
        omega)
      have he := textE_eq n a h2 h3
      have h2' : ¬ op = [108, 105, 116] := h2
      have h3' : ¬ op = [120] := h3
      have hol := arE_len h1
      have hml : op.length + 30 ≤ maxLen := by unfold maxLen; omega
      simp only [encE_eta]
      apply runnelref6_ExprText_fn
      simp [runnelref6_ExprText, h2', h3']
      by_cases hat : op = oAt
      · subst hat
        obtain ⟨hn0, hn1⟩ := hn rfl
        have hi64 : I64 n := ⟨by omega, by omega⟩
        have hdec := decimal_spec n hi64
        have hil := itoa_len hi64
        have hL := exprText_loop oAt n a (40 :: oAt ++ 32 :: Lib.itoa n) (textE (.mk oAt zeroV n a)) (by rw [he, if_pos rfl]; simp [blT]) hlen hl hmem
        simp [oAt]
        refine ⟨by unfold maxLen; omega, by unfold maxLen; omega, ?_⟩
        refine aCallQ_of [] hdec rfl (by simp [renF, treeQ, AV.toT, AV.cellT]) (by simp) (by simp [framed, renF]) (by simp [AV.under, AV.under1]) (by simp [Ob.below, AV.under1]) ?_
        simp [renF, frameH, setAll]
        exact ⟨by unfold maxLen; omega, hL⟩
      · have hL := exprText_loop op n a (40 :: op) (textE (.mk op zeroV n a)) (by rw [he, if_neg hat]; simp) hlen hl hmem
        have hat' : ¬ op = [97, 116] := hat
        simp [hat']
        exact ⟨by omega, hL⟩
termination_by e => SizeOf.sizeOf e
decreasing_by
  have := List.sizeOf_lt_of_mem hm
  simp
  omega

end Go.Proofs.YtgfnodmghaghpaaGreatDoor
end

section
/- parse.Text over trees. -/
set_option linter.unusedSimpArgs false
set_option linter.unusedVariables false
namespace Go.Proofs.YtgfnodmghaghpaaGreatDoor
open Go Go.Abs

attribute [local irreducible] Abs.Fn

/-- The loop over the arguments. -/
theorem text5_loop (op : List UInt8) (n : Int) (a : List Ex) (pre : List (List UInt8)) (r : List UInt8) (h : 40 :: TJ.join [32] (pre ++ a.map textE) ++ [41] = r) (hlen : r.length ≤ 1000000000) (hl : a.length ≤ 8) (hp : pre.length ≤ 2) (hp0 : 0 < pre.length) (hmem : ∀ e ∈ a, Abs.Fn Tryz.prog parse_Text_i [] [.p (encE e)] (.p (.str (textE e))) [])
    (y0 : AV) (H0 : List Ob) (gs : List Gc) (hg : ghosts gs [y0, .p (.int .i64 0)] H0 fun xs H' => xs = [.own 1 (pre.map T.str), .p (.int .i64 0)] ∧ H' = [.box [.p (.str op), .p (.int .i64 0), .p (.int .i64 0), .p (.bool false), .p (.str []), .p (.slice []), .p (.int .i64 n), .p (.slice (a.map encE))], .row pre.length 1]) :
    aLoopN 2 [y0, .p (.int .i64 0)] H0 (fun xs H B1 => parse_Text_L1 (.p (.slice (a.map encE))) (.p (.int .i64 a.length)) (xs[0]?.getD .top) (xs[1]?.getD .top) H B1 (fun v H' => Gives 0 v H' (.p (.str r)) [])) := by
  subst h
  simp only [List.length_append, List.length_cons, List.length_nil] at hlen
  refine loop_by (σ := Nat) (n := 2) (fun j => [.own 1 (((pre ++ a.map textE).map T.str).take (pre.length + j)), .p (.int .i64 j)]) (fun j => [.box [.p (.str op), .p (.int .i64 0), .p (.int .i64 0), .p (.bool false), .p (.str []), .p (.slice []), .p (.int .i64 n), .p (.slice (a.map encE))], .row (pre.length + j) 1]) (fun j => j ≤ a.length) (fun j => a.length - j) gs 0 (fun _ => rfl) (by simpa using hg) (by simp) (fun j B hj hB => ?_)
  have hX : ((pre ++ a.map textE).map T.str).length = pre.length + a.length := by simp
  have hx2 : ∀ e ∈ (pre ++ a.map textE).map T.str, e.cells.length = 1 := fun e he => by
    simp only [List.mem_map] at he
    obtain ⟨x, _, rfl⟩ := he
    rfl
  have htk : ∀ hlt : j < a.length, ((pre ++ a.map textE).map T.str).take (pre.length + j) ++ [T.str (textE a[j])] = ((pre ++ a.map textE).map T.str).take (pre.length + j + 1) := fun hlt => by
    rw [List.take_succ_eq_append_getElem (by rw [hX]; omega)]
    congr 2
    simp
  have hjn := join_spec (pre ++ a.map textE) [32] (by omega) (by simp; omega)
  generalize hXe : (pre ++ a.map textE).map T.str = X at *
  simp [parse_Text_L1]
  refine ⟨fun hlt => ?_, fun hge => ?_⟩
  · have hm : a[j] ∈ a := by simp
    have hi := hmem a[j] hm
    have hB2 := hB (j + 1)
    simp only [encE_eta] at hi
    simp [hlt]
    refine aCallQ_of [] hi rfl (by simp [renF, treeQ, AV.toT, AV.cellT]) (by simp) (by simp [framed, renF]) (by simp [AV.under, AV.under1]) (by simp [Ob.below, AV.under1]) ?_
    simp [renF, frameH, setAll, hX]
    refine ⟨by omega, ⟨fun e he => hx2 e (List.mem_of_mem_take he), by simp, by simp [hX]; omega⟩, ?_⟩
    rw [IntWalk.i64_in _ (by omega), htk hlt]
    refine hB2 _ (by omega) (by omega) ?_ (by simp [Ob.below, AV.under1]) (by simp) (by simp [AV.under, AV.under1])
    simp; try omega
  · have : j = a.length := by omega
    subst this
    rw [List.take_of_length_le (by omega)]
    refine aCallQ_of [] hjn rfl (by simp [renF, treeQ, AV.toT, AV.cellT]) (by simp) (by simp [framed, renF]) (by simp [AV.under, AV.under1]) (by simp [Ob.below, AV.under1]) ?_
    simp [renF, frameH, setAll]
    exact ⟨by unfold maxLen; omega, by unfold maxLen; omega, gives_p (by simp)⟩

theorem Text5_spec : ∀ (e : Ex) (d : Int) (_ : OkP d e) (_ : (textE e).length ≤ 1000000000), Abs.Fn Tryz.prog parse_Text_i [] [.p (encE e)] (.p (.str (textE e))) []
  | .mk op v n a, d, hok, hlen => by
    cases hok with
    | lit _ _ hd hc hr hf hw =>
      have h1 : oLit ≠ oX := by decide
      have hv := text2_spec v hr hw (by omega)
      have hml : (textV v).length + 6 ≤ maxLen := by unfold maxLen; omega
      simp only [encV_eta] at hv
      simp only [encE_eta]
      apply parse_Text_fn
      simp [parse_Text, oLit]
      refine ⟨fun h4 => ?_, fun h4 => ?_⟩
      · refine aCallQ_of [] hv rfl (by simp [renF, treeQ, AV.toT, AV.cellT, h4]) (by simp) (by simp [framed, renF]) (by simp [AV.under, AV.under1]) (by simp [Ob.below, AV.under1]) ?_
        simp [renF, frameH, setAll]
        exact ⟨by omega, by omega, gives_p (by simp [textE, h4, oLit, oX])⟩
      · refine aCallQ_of [] hv rfl (by simp [renF, treeQ, AV.toT, AV.cellT]) (by simp) (by simp [framed, renF]) (by simp [AV.under, AV.under1]) (by simp [Ob.below, AV.under1]) ?_
        simp [renF, frameH, setAll]
        exact gives_p (by simp [textE, h4, oLit, oX])
    | x _ hd =>
      simp only [encE_eta]
      apply parse_Text_fn
      simp [parse_Text, oX]
      exact gives_p (by simp [textE, oX])
    | op _ _ _ _ hd h1 h2 h3 hn hz hl ho2 =>
      have hmem : ∀ e ∈ a, Abs.Fn Tryz.prog parse_Text_i [] [.p (encE e)] (.p (.str (textE e))) [] := fun e hm => Text5_spec e (d + 1) (ho2 e hm) (by
        rw [textE_eq n a h2 h3] at hlen
        simp only [List.length_cons, List.length_append] at hlen
        obtain ⟨j, hj, he⟩ := List.getElem_of_mem hm
        subst he
        have h5 := blT_mem ((if op = oAt then [Lib.itoa n] else []) ++ a.map textE) ((if op = oAt then [Lib.itoa n] else []).length + j) (by simp; omega)
        rw [List.getElem_append_right (by omega)] at h5
        simp at h5
        omega)
      have he := textE_eq n a h2 h3
      have h2' : ¬ op = [108, 105, 116] := h2
      have h3' : ¬ op = [120] := h3
      have hol := arE_len h1
      have hml : op.length + 30 ≤ maxLen := by unfold maxLen; omega
      simp only [encE_eta]
      apply parse_Text_fn
      simp [parse_Text, h2', h3']
      by_cases hat : op = oAt
      · subst hat
        obtain ⟨hn0, hn1⟩ := hn rfl
        have hi64 : I64 n := ⟨by omega, by omega⟩
        have hit := itoa10_spec n hi64
        have hil := itoa_len hi64
        simp [oAt]
        refine aCallQ_of [] hit rfl (by simp [renF, treeQ, AV.toT, AV.cellT]) (by simp) (by simp [framed, renF]) (by simp [AV.under, AV.under1]) (by simp [Ob.below, AV.under1]) ?_
        simp [renF, frameH, setAll, parse_Text_J1]
        refine ⟨⟨by simp, by simp, by simp⟩, fun _ => ?_⟩
        refine text5_loop oAt n a [oAt, Lib.itoa n] _ ?_ hlen hl (by simp) (by simp) hmem _ _ [] ⟨rfl, rfl⟩
        rw [he, if_pos rfl]
        simp [join_bl]
      · have hat' : ¬ op = [97, 116] := hat
        simp [hat', parse_Text_J1]
        intro _
        refine text5_loop op n a [op] _ ?_ hlen hl (by simp) (by simp) hmem _ _ [.slot 0 1] (by simp [ghosts, ghost])
        rw [he, if_neg hat]
        simp [join_bl]
termination_by e => SizeOf.sizeOf e
decreasing_by
  have := List.sizeOf_lt_of_mem hm
  simp
  omega

end Go.Proofs.YtgfnodmghaghpaaGreatDoor
end
