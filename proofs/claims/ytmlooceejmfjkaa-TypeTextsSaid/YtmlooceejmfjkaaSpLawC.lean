/- The document's reading of types, what is read is told just so; the laws TypeDeep and TypeTexts. -/
import Derived.Test.YtmlooceejmfjkaaSpLawB
set_option linter.unusedSimpArgs false
set_option linter.unusedVariables false
set_option linter.unnecessarySimpa false
namespace Go.Proofs.Ytmlooceejmfjkaa
open Go Go.Abs

theorem hasPre_eq {s p : List UInt8} (h : hasPre s p = true) : s = p ++ s.drop p.length := by
  have : s.take p.length = p := by simpa [hasPre] using h
  conv => lhs; rw [← List.take_append_drop p.length s, this]

mutual
theorem readT_text : ∀ (n : Nat) (s : List UInt8) (t : Ty) (r : List UInt8), readT n s = some (t, r) → s = textT t ++ r ∧ Wd s.length t
  | 0, s, t, r, h => by simp [readT] at h
  | n + 1, s, t, r, h => by
    have hl := fun p (h : hasPre s p = true) => hasPre_eq h
    simp only [readT] at h
    split at h
    · rename_i hp; simp at h; rw [← h.1, ← h.2]; exact ⟨hl _ hp, .mk _ _ (by simp) (by simp)⟩
    split at h
    · rename_i hp; simp at h; rw [← h.1, ← h.2]; exact ⟨hl _ hp, .mk _ _ (by simp) (by simp)⟩
    split at h
    · rename_i hp; simp at h; rw [← h.1, ← h.2]; exact ⟨hl _ hp, .mk _ _ (by simp) (by simp)⟩
    split at h
    · rename_i hp
      have e1 := hl _ hp
      split at h
      · rename_i hp2
        have e2 := hasPre_eq hp2
        simp at h
        rw [← h.1, ← h.2]
        simp at e1 e2
        refine ⟨?_, .mk _ _ (by simp) (by simp)⟩
        rw [e1, e2]
        simp [textT, textTs, TJ.join]
      · obtain ⟨ps, rfl, hne, hj, hlp, hw⟩ := readL_text n _ _ _ _ h
        have hls := congrArg List.length e1
        simp at hls hj hlp e1
        refine ⟨?_, .mk _ _ (by simp; omega) (fun t ht => (hw t (by simpa using ht)).mono (by simp))⟩
        rw [e1, hj]
        simp [textT, textTs_eq]
    · simp at h
theorem readL_text : ∀ (n : Nat) (s : List UInt8) (acc : List Ty) (t : Ty) (r : List UInt8), readL n s acc = some (t, r) → ∃ ps, t = .mk 4 (acc ++ ps) ∧ ps ≠ [] ∧ s = TJ.join [44] (ps.map textT) ++ (41 :: r) ∧ ps.length ≤ s.length ∧ ∀ p ∈ ps, Wd s.length p
  | 0, s, acc, t, r, h => by simp [readL] at h
  | n + 1, s, acc, t, r, h => by
    simp only [readL] at h
    split at h
    · simp at h
    · rename_i p q hq
      obtain ⟨h1, h2⟩ := readT_text n _ _ _ hq
      have hls := congrArg List.length h1
      simp at hls
      split at h
      · rename_i hp
        have e2 := hasPre_eq hp
        have hl2 := congrArg List.length e2
        simp at h e2 hl2
        refine ⟨[p], h.1.symm, by simp, ?_, by simp; omega, by simpa using h2⟩
        rw [h1, e2, ← h.2]
        simp [TJ.join, TJ.tail]
      split at h
      · rename_i hp
        have e2 := hasPre_eq hp
        have hl2 := congrArg List.length e2
        simp at e2 hl2
        obtain ⟨ps, e3, hne, hj, hlp, hw⟩ := readL_text n _ _ _ _ h
        simp at hj hlp hw
        refine ⟨p :: ps, by simpa using e3, by simp, ?_, by simp; omega, ?_⟩
        · rw [h1, e2, hj]
          cases ps with
          | nil => exact absurd rfl hne
          | cons x y => simp [TJ.join, TJ.tail]
        · intro x hx
          simp only [List.mem_cons] at hx
          rcases hx with rfl | hx
          · exact h2
          · exact (hw x hx).mono (by omega)
      · simp at h
end

theorem rdT_text {s r : List UInt8} {t : Ty} (h : rdT s = some (t, r)) : s = textT t ++ r ∧ Wd s.length t := readT_text _ _ _ _ h

theorem hasPre_nil (s : List UInt8) : hasPre s [] = true := by simp [hasPre]

theorem front_spec (s : List UInt8) (i : Nat) (p : List UInt8) (hi : i ≤ s.length) (hs : s.length ≤ 1000000) (hp : p.length ≤ 1000000) :
    Abs.Fn Try.prog runnelref6_front_i [] [.p (.str s), .p (.int .i64 i), .p (.str p)] (.p (.bool (hasPre (s.drop i) p))) [] := by
  apply runnelref6_front_fn
  simp [runnelref6_front]
  rw [IntWalk.i64_in _ (by omega)]
  refine ⟨fun h => ⟨by omega, by omega⟩, gives_p ?_⟩
  simp only [hasPre, T.bool.injEq]
  have e : (((i : Int) + (p.length : Int)).toNat) = i + p.length := by omega
  simp only [e, List.drop_take, Nat.add_sub_cancel_left, Int.toNat_natCast]
  rw [Bool.eq_iff_iff]
  simp only [Bool.and_eq_true, decide_eq_true_eq, and_iff_right_iff_imp]
  intro h
  have := congrArg List.length h
  simp at this
  omega

/-- What typeAt answers. -/
def atR (s : List UInt8) (o : Option (Ty × List UInt8)) : AV :=
  match o with
  | some (t, r) => .tup [.p (encT t), .p (.int .i64 (s.length - r.length))]
  | none => .tup [.p (encT (.mk 0 [])), .p (.int .i64 (-1))]

theorem atR_gives {s : List UInt8} {t : Ty} {r : List UInt8} {vs : List AV} {H : List Ob} (h : toTs vs = some [encT t, .int .i64 (s.length - r.length)]) : Gives 0 (.tup vs) H (atR s (some (t, r))) [] := gives_pure (pur_tup h)
theorem atR_none {s : List UInt8} {vs : List AV} {H : List Ob} (h : toTs vs = some [encT (.mk 0 []), .int .i64 (-1)]) : Gives 0 (.tup vs) H (atR s none) [] := gives_pure (pur_tup h)

theorem hasPre_cons {s p : List UInt8} {c : UInt8} : hasPre s (c :: p) = (hasPre s [c] && hasPre (s.drop 1) p) := by
  cases s with
  | nil => simp [hasPre]
  | cons a r =>
    simp only [hasPre, List.length_cons, List.take_succ_cons, List.cons.injEq, List.length_nil, List.take_zero, and_true, List.drop_succ_cons, List.drop_zero]
    rw [Bool.eq_iff_iff]
    simp

theorem typeAt_spec (s : List UInt8) (hs : s.length ≤ 1000000) : ∀ (n i : Nat), i ≤ s.length → s.length - i ≤ n → Abs.Fn Try.prog runnelref6_typeAt_i [] [.p (.str s), .p (.int .i64 i)] (atR s (rdT (s.drop i))) [] := by
  intro n
  induction n using Nat.strongRecOn with
  | ind n ih =>
    intro i hi hn
    apply runnelref6_typeAt_fn
    simp [runnelref6_typeAt]
    rw [rdT_eq]
    have hlen := fun {p : List UInt8} (h : hasPre (s.drop i) p = true) => hasPre_length h
    simp only [List.length_drop] at hlen
    refine aCall_p rfl (front_spec s i _ hi hs (by simp)) ?_
    simp
    refine ⟨fun h1 => ?_, fun h1 => ?_⟩
    · have := hlen h1
      simp at this
      simp only [h1, if_true]
      rw [IntWalk.i64_in _ (by omega)]
      exact atR_gives (by simp; omega)
    refine aCall_p rfl (front_spec s i _ hi hs (by simp)) ?_
    simp
    refine ⟨fun h2 => ?_, fun h2 => ?_⟩
    · have := hlen h2
      simp at this
      simp only [h1, h2, if_true]
      rw [IntWalk.i64_in _ (by omega)]
      exact atR_gives (by simp; omega)
    refine aCall_p rfl (front_spec s i _ hi hs (by simp)) ?_
    simp
    refine ⟨fun h3 => ?_, fun h3 => ?_⟩
    · have := hlen h3
      simp at this
      simp only [h1, h2, h3, if_true]
      rw [IntWalk.i64_in _ (by omega)]
      exact atR_gives (by simp; omega)
    refine aCall_p rfl (front_spec s i _ hi hs (by simp)) ?_
    simp only [h1, h2, h3]
    simp
    refine ⟨fun h4 => ?_, fun h4 => ?_⟩
    · have := hlen h4
      simp at this
      rw [hasPre_cons] at h4
      simp only [Bool.and_eq_true, List.drop_drop] at h4
      simp only [h4.1, h4.2, if_true]
      rw [IntWalk.i64_in _ (by omega)]
      exact atR_gives (by simp; omega)
    refine aCall_p rfl (front_spec s i _ hi hs (by simp)) ?_
    simp
    refine ⟨fun h5 => ?_, fun h5 => ?_⟩
    · simp only [h5]
      exact atR_none (by simp)
    have hlt := hlen h5
    simp at hlt
    rw [hasPre_cons, h5] at h4
    simp only [Bool.true_and, List.drop_drop] at h4
    simp only [h5, h4, if_true]
    simp (disch := omega) only [IntWalk.i64_in]
    refine loop_by (σ := Nat × List Ty) (n := 3) (fun q => [.p (.int .i64 q.1)]) (fun q => [.box [.p (.int .i64 0), .full []], .box [.p (.int .i64 4), .own 2 (q.2.map encT)], .row q.2.length 2])
      (fun q => i < q.1 ∧ q.1 ≤ s.length ∧ q.2.length ≤ q.1 ∧ rdL (s.drop q.1) q.2 = rdL (s.drop (i + 1)) []) (fun q => s.length - q.1) [.cell 1 1 2] (i + 1, []) (fun _ => rfl) ⟨rfl, rfl⟩ ⟨by simp, by simp; omega, by simp, rfl⟩ (fun q B hq hB => ?_)
    obtain ⟨j, acc⟩ := q
    obtain ⟨g1, g2, g3, g4⟩ := hq
    simp only at g1 g2 g3 g4
    rw [← g4, rdL_eq]
    simp [runnelref6_typeAt_L1]
    refine aCallW_of rfl rfl (ih (s.length - j) (by omega) j (by omega) (by omega)) ?_
    cases hr : rdT (s.drop j) with
    | none =>
      simp [atR]
      exact gives_pure (by simp [AV.pur])
    | some x =>
      obtain ⟨⟨k, of⟩, r⟩ := x
      have hsh := rdT_short hr
      simp at hsh
      have hdrop : s.drop (s.length - r.length) = r := by
        have hx := congrArg List.length (rdT_text hr).1
        have : s = (s.take j ++ textT (.mk k of)) ++ r := by
          rw [List.append_assoc, ← (rdT_text hr).1, List.take_append_drop]
        conv => lhs; rw [this]
        rw [List.drop_append_of_le_length (by simp at hx ⊢; omega), List.drop_of_length_le (by simp at hx ⊢; omega)]
        simp
      simp [atR]
      refine ⟨by omega, fun _ => ?_⟩
      refine ⟨⟨encT_size acc, by simp, by simp; omega⟩, ?_⟩
      have e0 : (s.length : Int) - (r.length : Int) = ((s.length - r.length : Nat) : Int) := by omega
      rw [e0]
      refine aCall_p rfl (front_spec s _ _ (by omega) hs (by simp)) ?_
      rw [hdrop]
      simp
      have hrl := fun {p : List UInt8} (h : hasPre r p = true) => hasPre_length h
      refine ⟨fun hc => ?_, fun hc => ?_⟩
      · simp only [hc, if_true]
        have := hrl hc
        simp at this
        rw [IntWalk.i64_in _ (by omega)]
        exact atR_gives (by simp; omega)
      · refine aCall_p rfl (front_spec s _ _ (by omega) hs (by simp)) ?_
        rw [hdrop]
        simp [hc]
        refine ⟨fun hd => ?_, fun hd => ?_⟩
        · simp only [hd]
          exact atR_none (by simp)
        · have := hrl hd
          simp at this
          rw [IntWalk.i64_in _ (by omega)]
          refine hB (s.length - r.length + 1, acc ++ [Ty.mk k of]) _ ⟨by simp; omega, by simp; omega, by simp; omega, ?_⟩ (by simp; omega) (by simp) (by simp [Ob.below, AV.under1]) (by simp) (by simp [AV.under, AV.under1])
          have hq := rdL_eq (s.drop j) acc
          rw [hr] at hq
          simp only [hc, hd, if_true] at hq
          show rdL (s.drop (s.length - r.length + 1)) (acc ++ [Ty.mk k of]) = _
          rw [← g4, hq, ← List.drop_drop, hdrop]
          simp

theorem parseType_spec (s : List UInt8) (hs : s.length ≤ 1000000) : Abs.Fn Try.prog runnelref6_ParseType_i [] [.p (.str s)] (.tup [.p (encT (parseT s).1), .p (.int .i64 (parseT s).2)]) [] := by
  apply runnelref6_ParseType_fn
  simp [runnelref6_ParseType]
  have h0 := typeAt_spec s hs s.length 0 (by omega) (by omega)
  simp only [List.drop_zero] at h0
  refine aCallW_of rfl rfl (by simpa using h0) ?_
  unfold parseT
  cases hr : rdT s with
  | none =>
    simp [atR]
    intro _
    exact gives_pure (by simp [AV.pur])
  | some x =>
    obtain ⟨⟨k, of⟩, r⟩ := x
    have hc := CheckType_spec (.mk k of)
    have hsh := rdT_short hr
    simp [atR]
    intro _
    refine ⟨fun h => ?_, fun h => ?_⟩
    · cases r with
      | nil => simp at h
      | cons a r => exact gives_pure (by simp [AV.pur])
    · have : r = [] := by
        have : r.length = 0 := by omega
        simpa using this
      subst this
      refine aCall_p rfl (by simpa using hc) ?_
      simp
      refine ⟨fun h => gives_pure (by simp [AV.pur, h]), fun h => gives_pure (by simp [AV.pur, h])⟩

theorem texts_spec (s : List UInt8) : Abs.Fn Try.prog runnellaw1_TypeTexts_i [] [.p (.str s)] (.p (.bool true)) [] := by
  apply runnellaw1_TypeTexts_fn
  simp [runnellaw1_TypeTexts]
  refine aCall_p rfl known1_spec ?_
  simp
  intro _
  refine ⟨fun _ => gives_p rfl, fun hs => ?_⟩
  refine aCallW_of rfl rfl (parse_spec s (by omega)) ?_
  have hw : Wd 1000000000 (parseT s).1 := by
    unfold parseT
    split
    · rename_i t h
      split
      · exact (rdT_text h).2.mono (by omega)
      · exact .mk _ _ (by simp) (by simp)
    · exact .mk _ _ (by simp) (by simp)
  have ht : (parseT s).2 = 0 → textT (parseT s).1 = s := by
    unfold parseT
    split
    · rename_i t h
      split
      · intro _; simpa using (rdT_text h).1.symm
      · rename_i hne; intro h0; exact absurd h0 hne
    · simp
  obtain ⟨a, b, hab⟩ := encT_agg (parseT s).1
  have ho := of1_spec hw
  have hsm := sameType_spec (parseT s).1 (parseT s).1
  rw [hab] at ho hsm
  simp [hab]
  refine aCallW_of rfl rfl (parseType_spec s (by omega)) ?_
  simp [hab]
  refine aCallT_of rfl ho rfl ?_
  simp
  refine aCallT_of rfl hsm rfl ?_
  simp
  refine ⟨fun h => ?_, fun _ => ?_⟩
  · rw [(sameT_iff _ _).2 rfl] at h
    simp at h
  · by_cases h0 : (parseT s).2 = 0
    · have hx := text_spec (parseT s).1 (by rw [ht h0]; omega)
      rw [hab, ht h0] at hx
      refine aMerge_intro true (fun _ => ?_) (gives_p (by simp))
      refine aCall_p rfl hx ?_
      simp
    · exact aMerge_intro true (fun h => by simp [h0] at h) (gives_p (by simp))

/-- Tuples in tuples. -/
def nestT : Nat → Ty
  | 0 => .mk 1 []
  | n + 1 => .mk 4 [nestT n]
def nestS : Nat → List UInt8
  | 0 => [105, 110, 116]
  | n + 1 => 40 :: (nestS n ++ [41])
def nestC : Nat → List AV
  | 0 => [.p (.int .i64 1), .full []]
  | n + 1 => [.p (.int .i64 4), .full [encT (nestT n)]]

theorem nestC_len (i : Nat) : (nestC i).length = 2 := by cases i <;> rfl
theorem nestC_T (i : Nat) : allT (nestC i) = some (encT (nestT i)).cells := by cases i <;> simp [nestC, nestT]
theorem nest_agg (i : Nat) : encT (nestT i) = .agg (encT (nestT i)).cells := by cases i <;> simp [nestT]
theorem nestS_len (i : Nat) : (nestS i).length = 2 * i + 3 := by
  induction i with
  | zero => rfl
  | succ i ih => simp [nestS, ih]; omega

theorem allT_p : ∀ ts : List T, allT (ts.map .p) = some ts
  | [] => rfl
  | t :: r => by simp [allT_p r]

theorem nest_text (i : Nat) : textT (nestT i) = nestS i := by
  induction i with
  | zero => rfl
  | succ i ih => simp [nestT, nestS, textT, textTs, TJ.join, TJ.tail, ih]

theorem nest_known (i : Nat) (h : i < 10) : parseT (nestS i) = (if 5 < i then (.mk 0 [], 9) else (nestT i, 0)) ∧ checkT (nestT i) 0 = if 5 < i then 9 else 0 := by
  rcases (by omega : i = 0 ∨ i = 1 ∨ i = 2 ∨ i = 3 ∨ i = 4 ∨ i = 5 ∨ i = 6 ∨ i = 7 ∨ i = 8 ∨ i = 9) with rfl | rfl | rfl | rfl | rfl | rfl | rfl | rfl | rfl | rfl <;> exact ⟨by rfl, by rfl⟩

theorem deep_spec (n : Int) (hn : 0 ≤ n) : Abs.Fn Try.prog runnellaw1_TypeDeep_i [] [.p (.int .u8 n)] (.p (.bool true)) [] := by
  apply runnellaw1_TypeDeep_fn
  simp [runnellaw1_TypeDeep]
  refine aCall_p rfl known1_spec ?_
  obtain ⟨m, hm, em⟩ := tmod_nat (m := 10) hn (by omega)
  simp at em
  simp [em]
  rw [IntWalk.i64_in _ (by omega)]
  refine loop_by (σ := Nat) (n := 1) (fun i => [.p (.str (nestS i)), .p (.int .i64 i)]) (fun i => [.box (nestC i)]) (fun i => i ≤ m) (fun i => m - i) [] 0 (fun _ => rfl) ⟨rfl, rfl⟩ (by simp) (fun i B hi hB => ?_)
  simp [runnellaw1_TypeDeep_L1, nestC_len, nestC_T]
  refine ⟨fun hlt => ?_, fun hge => ?_⟩
  · rw [IntWalk.i64_in _ (by omega)]
    have hl := nestS_len i
    have := hB (i + 1) [.box (nestC (i + 1))] (by omega) (by omega) (by simp) (by simp [nestC, Ob.below, AV.under1]) (by simp) (by simp [AV.under, AV.under1])
    cases i with
    | zero =>
      simp [nestC, nestT, nestS, maxLen] at this ⊢
      exact this
    | succ i =>
      simp [nestC, nestT, nestS, maxLen] at this hl ⊢
      exact ⟨by omega, by omega, this⟩
  · have : i = m := by omega
    subst this
    have hl := nestS_len i
    obtain ⟨hp, hc⟩ := nest_known i hm
    have hck := Check_spec (nestT i)
    rw [nest_agg, hc] at hck
    refine aCallW_of rfl rfl (parse_spec (nestS i) (by omega)) ?_
    rw [hp]
    have htake : (nestC i).take 2 = nestC i := List.take_of_length_le (by rw [nestC_len]; omega)
    by_cases h5 : 5 < i
    · simp [h5, nestC_len, htake]
      refine aCall_p (by simp [nestC_T]; rfl) (by simpa [h5] using hck) ?_
      have hi5 : (5 : Int) < i := by omega
      simp [hi5]
      exact gives_p rfl
    · have hi5 : (i : Int) ≤ 5 := by omega
      have hs := same_spec (nestT i) (nestT i)
      have ht := text_spec (nestT i) (by rw [nest_text]; omega)
      rw [nest_agg] at hs ht
      rw [(sameT_iff _ _).2 rfl] at hs
      rw [nest_text] at ht
      simp only [h5, if_false]
      rw [nest_agg]
      simp [nestC_len, htake]
      have hcl : (encT (nestT i)).cells.length = 2 := encT_cells _
      refine aCall_p (by simp [nestC_T]; rfl) (by simpa [h5] using hck) ?_
      have hn5 : ¬ (5 : Int) < i := by omega
      simp [hn5, nestC_len, htake, hcl]
      have ht2 : ((encT (nestT i)).cells.map AV.p).take 2 = (encT (nestT i)).cells.map AV.p := List.take_of_length_le (by simp [hcl])
      refine aMerge_intro true (fun _ => ?_) ?_
      · rw [ht2]
        exact aCall_p (ts := [.agg (encT (nestT i)).cells, .agg (encT (nestT i)).cells]) (by simp [nestC_T, allT_p]) hs (by simp)
      · refine aMerge_intro true (fun _ => ?_) (gives_p (by simp; rfl))
        exact aCall_p (ts := [.agg (encT (nestT i)).cells]) (by simp [nestC_T]) ht (by simp)

end Go.Proofs.Ytmlooceejmfjkaa
