/- What typ.read and typ.Parse answer, over trees. -/
import Derived.Test.YtmlooceejmfjkaaSpTypB
namespace Go.Proofs.Ytmlooceejmfjkaa
open Go Go.Abs

mutual
/-- A type at a text's front, and what is behind it. -/
def readT : Nat → List UInt8 → Option (Ty × List UInt8)
  | 0, _ => none
  | n + 1, s =>
    if hasPre s [105, 110, 116] then some (.mk 1 [], s.drop 3)
    else if hasPre s [98, 111, 111, 108] then some (.mk 2 [], s.drop 4)
    else if hasPre s [116, 101, 120, 116] then some (.mk 3 [], s.drop 4)
    else if hasPre s [40] then
      if hasPre (s.drop 1) [41] then some (.mk 4 [], s.drop 2) else readL n (s.drop 1) []
    else none
def readL : Nat → List UInt8 → List Ty → Option (Ty × List UInt8)
  | 0, _, _ => none
  | n + 1, s, acc => match readT n s with
    | none => none
    | some (p, r) => if hasPre r [41] then some (.mk 4 (acc ++ [p]), r.drop 1) else if hasPre r [44] then readL n (r.drop 1) (acc ++ [p]) else none
end

theorem hasPre_length {s p : List UInt8} (h : hasPre s p = true) : p.length ≤ s.length := by
  have : s.take p.length = p := by simpa [hasPre] using h
  have := congrArg List.length this
  simp at this
  omega

mutual
theorem readT_short : ∀ (n : Nat) (s : List UInt8) (t : Ty) (r : List UInt8), readT n s = some (t, r) → r.length < s.length
  | 0, s, t, r, h => by simp [readT] at h
  | n + 1, s, t, r, h => by
    have hl := fun p (h : hasPre s p = true) => hasPre_length h
    have hl' := fun p (h : hasPre (s.drop 1) p = true) => hasPre_length h
    simp only [readT] at h
    split at h
    · rename_i hp; have := hl _ hp; simp at h this; rw [← h.2]; simp; omega
    split at h
    · rename_i hp; have := hl _ hp; simp at h this; rw [← h.2]; simp; omega
    split at h
    · rename_i hp; have := hl _ hp; simp at h this; rw [← h.2]; simp; omega
    split at h
    · rename_i hp
      have h1 := hl _ hp
      split at h
      · rename_i hp; have := hl' _ hp; simp at h this h1; rw [← h.2]; simp; omega
      · have := readL_short n _ _ _ _ h; simp at this h1; omega
    · simp at h
theorem readL_short : ∀ (n : Nat) (s : List UInt8) (acc : List Ty) (t : Ty) (r : List UInt8), readL n s acc = some (t, r) → r.length < s.length
  | 0, s, acc, t, r, h => by simp [readL] at h
  | n + 1, s, acc, t, r, h => by
    simp only [readL] at h
    split at h
    · simp at h
    · rename_i p q hq
      have h1 := readT_short n _ _ _ hq
      split at h
      · simp at h; rw [← h.2]; simp; omega
      split at h
      · have := readL_short n _ _ _ _ h; simp at this; omega
      · simp at h
end

mutual
theorem readT_fuel : ∀ (n m : Nat) (s : List UInt8), 2 * s.length < n → 2 * s.length < m → readT n s = readT m s
  | 0, _, _, h, _ => by omega
  | _ + 1, 0, _, _, h => by omega
  | n + 1, m + 1, s, hn, hm => by
    simp only [readT]
    by_cases hp : hasPre s [40] = true
    · have := hasPre_length hp
      simp at this
      rw [readL_fuel n m (s.drop 1) [] (by simp; omega) (by simp; omega)]
    · simp [hp]
theorem readL_fuel : ∀ (n m : Nat) (s : List UInt8) (acc : List Ty), 2 * s.length + 1 < n → 2 * s.length + 1 < m → readL n s acc = readL m s acc
  | 0, _, _, _, h, _ => by omega
  | _ + 1, 0, _, _, _, h => by omega
  | n + 1, m + 1, s, acc, hn, hm => by
    simp only [readL]
    rw [readT_fuel n m s (by omega) (by omega)]
    split
    · rfl
    · rename_i p r hr
      have := readT_short _ _ _ _ hr
      by_cases hp : hasPre r [44] = true
      · have h2 := hasPre_length hp
        simp at h2
        rw [readL_fuel n m (r.drop 1) (acc ++ [p]) (by simp; omega) (by simp; omega)]
      · simp [hp]
end

/-- With as much as it takes. -/
def rdT (s : List UInt8) : Option (Ty × List UInt8) := readT (2 * s.length + 1) s
def rdL (s : List UInt8) (acc : List Ty) : Option (Ty × List UInt8) := readL (2 * s.length + 2) s acc

theorem rdT_eq (s : List UInt8) : rdT s = if hasPre s [105, 110, 116] then some (.mk 1 [], s.drop 3)
    else if hasPre s [98, 111, 111, 108] then some (.mk 2 [], s.drop 4)
    else if hasPre s [116, 101, 120, 116] then some (.mk 3 [], s.drop 4)
    else if hasPre s [40] then
      if hasPre (s.drop 1) [41] then some (.mk 4 [], s.drop 2) else rdL (s.drop 1) []
    else none := by
  simp only [rdT, readT, rdL]
  by_cases hp : hasPre s [40] = true
  · have := hasPre_length hp
    simp at this
    rw [readL_fuel (2 * s.length) (2 * (s.drop 1).length + 2) (s.drop 1) [] (by simp; omega) (by simp)]
  · simp [hp]

theorem rdL_eq (s : List UInt8) (acc : List Ty) : rdL s acc = match rdT s with
    | none => none
    | some (p, r) => if hasPre r [41] then some (.mk 4 (acc ++ [p]), r.drop 1) else if hasPre r [44] then rdL (r.drop 1) (acc ++ [p]) else none := by
  rw [rdL, readL]
  simp only [rdT, rdL]
  split
  · rfl
  · rename_i p r hr
    have := readT_short _ _ _ _ hr
    by_cases hp : hasPre r [44] = true
    · have h2 := hasPre_length hp
      simp at h2
      rw [readL_fuel (2 * s.length + 1) (2 * (r.drop 1).length + 2) (r.drop 1) (acc ++ [p]) (by simp; omega) (by simp)]
    · simp [hp]

theorem rdT_short {s r : List UInt8} {t : Ty} (h : rdT s = some (t, r)) : r.length < s.length := readT_short _ _ _ _ h

/-- What typ.read answers. -/
def readR (o : Option (Ty × List UInt8)) : AV :=
  match o with
  | some (t, r) => .tup [.p (encT t), .p (.str r), .p (.bool true)]
  | none => .tup [.p (encT (.mk 0 [])), .p (.str []), .p (.bool false)]

theorem pur_tup {vs : List AV} {ts : List T} (h : toTs vs = some ts) : (AV.tup vs).pur = some (.tup (ts.map .p)) := by simp [AV.pur, h]

theorem cutPre_le (s p : List UInt8) : (cutPre s p).length ≤ s.length := by
  unfold cutPre
  split <;> simp

theorem cutPre_of {s p : List UInt8} (h : hasPre s p = true) : cutPre s p = s.drop p.length := by simp [cutPre, h]

theorem encT_size (l : List Ty) : ∀ e ∈ l.map encT, e.cells.length = 2 := by
  intro e he
  simp at he
  obtain ⟨t, _, rfl⟩ := he
  exact encT_cells t

theorem readR_gives {t : Ty} {r : List UInt8} {vs : List AV} {H : List Ob} (h : toTs vs = some [encT t, .str r, .bool true]) : Gives 0 (.tup vs) H (readR (some (t, r))) [] := gives_pure (pur_tup h)

theorem readR_none {vs : List AV} {H : List Ob} (h : toTs vs = some [encT (.mk 0 []), .str [], .bool false]) : Gives 0 (.tup vs) H (readR none) [] := gives_pure (pur_tup h)

theorem read_aux (s : List UInt8) (hs : s.length ≤ 1000000) (ih : ∀ r : List UInt8, r.length < s.length → Abs.Fn Try.prog typ_read_i [] [.p (.str r)] (readR (rdT r)) []) : Abs.Fn Try.prog typ_read_i [] [.p (.str s)] (readR (rdT s)) [] := by
  apply typ_read_fn
  simp [typ_read]
  intro _
  refine loop_by (σ := Nat) (n := 1) (fun i => [.p (.int .i64 i)]) (fun _ => [.box [.p (.int .i64 0), .full []]]) (fun i => i ≤ 3 ∧ ∀ j : Nat, 1 ≤ j → j ≤ i → hasPre s (wordS j) = false) (fun i => 3 - i) [] 0 (fun _ => rfl) ⟨rfl, rfl⟩ ⟨by omega, fun j h1 h2 => by omega⟩ (fun i B hi hB => ?_)
  obtain ⟨h1, h2⟩ := hi
  have hJ : ∀ (ok : Bool) (rest : List UInt8), (ok = true → rest.length < s.length ∧ rdL rest [] = rdT s) → (ok = false → rdT s = none) →
      aLoopN 2 [.p (.str rest), .p (.bool ok)] [.box [.p (.int .i64 0), .full []], .box [.p (.int .i64 4), .full []]] fun xs H B2 => typ_read_L2 (.bptr 0 0) (.bptr 1 0) (xs.getD 0 .top) (xs.getD 1 .top) H B2 fun v H' => Gives 0 v H' (readR (rdT s)) [] := by
    intro ok rest hok hno
    refine loop_by (σ := Bool × List UInt8 × List Ty) (n := 3) (fun q => [.p (.str q.2.1), .p (.bool q.1)]) (fun q => [.box [.p (.int .i64 0), .full []], .box [.p (.int .i64 4), .own 2 (q.2.2.map encT)], .row q.2.2.length 2])
      (fun q => (q.1 = true → q.2.1.length + q.2.2.length < s.length ∧ rdL q.2.1 q.2.2 = rdT s) ∧ (q.1 = false → rdT s = none)) (fun q => q.2.1.length) [.cell 1 1 2] (ok, rest, []) (fun _ => rfl) ⟨rfl, rfl⟩ ⟨by simpa using hok, hno⟩ (fun q B hi hB => ?_)
    obtain ⟨ok, rest, acc⟩ := q
    obtain ⟨g1, g2⟩ := hi
    simp [typ_read_L2]
    constructor
    · intro hk
      obtain ⟨g3, g4⟩ := g1 hk
      simp at g3 g4
      refine aCallW_of rfl rfl (ih rest (by omega)) ?_
      rw [rdL_eq] at g4
      cases hr : rdT rest with
      | none =>
        rw [hr] at g4
        simp [readR]
        rw [← g4]
        exact readR_none (by simp)
      | some x =>
        obtain ⟨⟨k, of⟩, r⟩ := x
        have hsh := rdT_short hr
        simp only [hr] at g4
        simp [readR]
        refine ⟨⟨encT_size acc, by simp, by simp; omega⟩, ?_⟩
        refine aCallW_of rfl rfl (cutPrefix_spec r _) ?_
        simp
        constructor
        · intro hc
          simp only [hc, if_true] at g4
          rw [← g4]
          exact readR_gives (by simp [cutPre_of hc])
        · intro hc
          simp only [hc] at g4
          refine aCallW_of rfl rfl (cutPrefix_spec r _) ?_
          simp
          have hle := cutPre_le r [44]
          refine hB (hasPre r [44], cutPre r [44], acc ++ [.mk k of]) _ ⟨fun hd => ?_, fun hd => ?_⟩ ?_ (by simp) (by simp [Ob.below, AV.under1]) (by simp) (by simp [AV.under, AV.under1])
          · simp at hd
            simp only [hd, if_true] at g4
            have := hasPre_length hd
            simp [cutPre_of hd] at this ⊢
            exact ⟨by omega, by simpa using g4⟩
          · simp at hd
            simp only [hd] at g4
            simpa using g4.symm
          · simp
            omega
    · intro hk
      rw [g2 hk]
      exact readR_none (by simp)
  rcases (by omega : i = 0 ∨ i = 1 ∨ i = 2 ∨ i = 3) with rfl | rfl | rfl | rfl
  · simp [typ_read_L1]
    refine aCall_p rfl (word_spec _) ?_
    simp
    refine aCallW_of rfl rfl (cutPrefix_spec s _) ?_
    simp [wordS]
    refine ⟨fun hc => ?_, fun hc => hB 1 _ ⟨by omega, fun j h1 h2 => ?_⟩ (by omega) rfl rfl (by simp) rfl⟩
    · rw [rdT_eq]
      simp only [hc, if_true]
      exact readR_gives (by simp [cutPre_of hc])
    · have : j = 1 := by omega
      subst this
      simpa [wordS] using hc
  · have e1 := h2 1 (by omega) (by omega)
    simp [wordS] at e1
    simp [typ_read_L1]
    refine aCall_p rfl (word_spec _) ?_
    simp
    refine aCallW_of rfl rfl (cutPrefix_spec s _) ?_
    simp [wordS]
    refine ⟨fun hc => ?_, fun hc => hB 2 _ ⟨by omega, fun j h3 h4 => ?_⟩ (by omega) rfl rfl (by simp) rfl⟩
    · rw [rdT_eq]
      simp only [hc, e1, if_true]
      exact readR_gives (by simp [cutPre_of hc])
    · rcases (by omega : j = 1 ∨ j = 2) with rfl | rfl
      · exact h2 1 (by omega) (by omega)
      · simpa [wordS] using hc
  · have e1 := h2 1 (by omega) (by omega)
    have e2 := h2 2 (by omega) (by omega)
    simp [wordS] at e1 e2
    simp [typ_read_L1]
    refine aCall_p rfl (word_spec _) ?_
    simp
    refine aCallW_of rfl rfl (cutPrefix_spec s _) ?_
    simp [wordS]
    refine ⟨fun hc => ?_, fun hc => hB 3 _ ⟨by omega, fun j h3 h4 => ?_⟩ (by omega) rfl rfl (by simp) rfl⟩
    · rw [rdT_eq]
      simp only [hc, e1, e2, if_true]
      exact readR_gives (by simp [cutPre_of hc])
    · rcases (by omega : j = 1 ∨ j = 2 ∨ j = 3) with rfl | rfl | rfl
      · exact h2 1 (by omega) (by omega)
      · exact h2 2 (by omega) (by omega)
      · simpa [wordS] using hc
  · simp [typ_read_L1]
    refine aCallW_of rfl rfl (cutPrefix_spec s _) ?_
    simp
    refine aCallW_of rfl rfl (cutPrefix_spec _ _) ?_
    simp
    have e1 := h2 1 (by omega) (by omega)
    have e2 := h2 2 (by omega) (by omega)
    have e3 := h2 3 (by omega) (by omega)
    simp [wordS] at e1 e2 e3
    have hrd := rdT_eq s
    simp only [e1, e2, e3] at hrd
    refine ⟨fun hc hd => ?_, fun h => hJ _ _ (fun hc => ?_) (fun hc => by simpa [hc] using hrd)⟩
    · rw [cutPre_of hc] at hd ⊢
      rw [hrd]
      have hd' : hasPre (s.drop 1) [41] = true := hd
      simp only [hc, hd', if_true]
      exact readR_gives (by rw [cutPre_of hd]; simp)
    · have hd := h hc
      rw [cutPre_of hc] at hd ⊢
      have := hasPre_length hc
      simp at this hd
      simp [hc, hd] at hrd
      exact ⟨by simp; omega, by simp [hrd]⟩

theorem read_spec (s : List UInt8) (hs : s.length ≤ 1000000) : Abs.Fn Try.prog typ_read_i [] [.p (.str s)] (readR (rdT s)) [] := by
  generalize hn : s.length = n
  induction n using Nat.strongRecOn generalizing s with
  | ind n ih => exact read_aux s hs fun r hr => ih r.length (by omega) r (by omega) rfl

/-- What typ.Parse answers. -/
def parseT (s : List UInt8) : Ty × Int :=
  match rdT s with
  | some (t, []) => if checkT t 0 = 0 then (t, 0) else (.mk 0 [], checkT t 0)
  | _ => (.mk 0 [], 2)

theorem parse_spec (s : List UInt8) (hs : s.length ≤ 1000000) : Abs.Fn Try.prog typ_Parse_i [] [.p (.str s)] (.tup [.p (encT (parseT s).1), .p (.int .i64 (parseT s).2)]) [] := by
  apply typ_Parse_fn
  simp [typ_Parse]
  refine aCallW_of rfl rfl (read_spec s hs) ?_
  unfold parseT
  cases hr : rdT s with
  | none =>
    simp [readR]
    exact gives_pure (by simp [AV.pur])
  | some x =>
    obtain ⟨⟨k, of⟩, r⟩ := x
    have hc := Check_spec (.mk k of)
    simp [readR]
    refine ⟨fun h => ?_, fun h => ?_⟩
    · cases r with
      | nil => exact absurd rfl h
      | cons a r => exact gives_pure (by simp [AV.pur])
    · subst h
      refine aCall_p rfl (by simpa using hc) ?_
      simp
      refine ⟨fun h => gives_pure (by simp [AV.pur, h]), fun h => gives_pure (by simp [AV.pur, h])⟩

end Go.Proofs.Ytmlooceejmfjkaa
