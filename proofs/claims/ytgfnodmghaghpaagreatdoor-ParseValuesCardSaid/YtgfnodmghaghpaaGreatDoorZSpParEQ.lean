/- The package parse over trees: a reader's small steps. -/
import Derived.Test.YtgfnodmghaghpaaGreatDoorZSpText
import Derived.Test.YtgfnodmghaghpaaGreatDoorZSpItoaQ
import Derived.Test.YtgfnodmghaghpaaGreatDoorZSpExpr
import Derived.Test.YtgfnodmghaghpaaGreatDoorS1

section
/- The package parse over trees: a reader's small steps. -/
set_option linter.unusedSimpArgs false
set_option linter.unusedVariables false
namespace Go.Proofs.YtgfnodmghaghpaaGreatDoor
open Go Go.Abs

attribute [local irreducible] Abs.Fn

/-- The reader's object. -/
abbrev pR (s : List UInt8) (at' : Nat) (e bad : Int) : List Ob := [.box [.p (.str s), .p (.int .i64 at'), .p (.int .i64 e), .p (.int .i64 bad)]]

theorem pz_refl {n : Nat} {v : AV} {H : List Ob} : Gives n v H v H := fun w G u hi hr => ⟨G, hi, hr, Move.refl n w G⟩

def nextB (s : List UInt8) (at' : Nat) (c : Nat) : Bool := decide (s[at']?.map UInt8.toNat = some c)

theorem pFail0 (s : List UInt8) (at' : Nat) (bad a f : Int) : Abs.Fn Tryz.prog parse_reader_fail_i (pR s at' 0 bad) [.bptr 0 0, .p (.int .i64 a), .p (.int .i64 f)] (.tup []) (pR s at' f a) := by
  apply parse_reader_fail_fnH
  simp [parse_reader_fail]
  exact pz_refl

theorem pFail1 (s : List UInt8) (at' : Nat) (e bad a f : Int) (he : e ≠ 0) : Abs.Fn Tryz.prog parse_reader_fail_i (pR s at' e bad) [.bptr 0 0, .p (.int .i64 a), .p (.int .i64 f)] (.tup []) (pR s at' e bad) := by
  apply parse_reader_fail_fnH
  simp [parse_reader_fail, he]
  exact pz_refl

theorem pNext (s : List UInt8) (at' : Nat) (bad : Int) (c : Nat) (hs : s.length ≤ 1000000000) : Abs.Fn Tryz.prog parse_reader_next_i (pR s at' 0 bad) [.bptr 0 0, .p (.int .u8 c)] (.p (.bool (nextB s at' c))) (pR s at' 0 bad) := by
  apply parse_reader_next_fnH
  simp [parse_reader_next]
  refine ⟨by unfold maxLen; omega, fun h => ?_, fun h => ?_⟩
  · have hb : nextB s at' c = decide ((s[at'].toNat : Int) = c) := by
      simp [nextB, h]; omega
    simp [h, byteT]
    rw [hb]
    exact pz_refl
  · have hb : nextB s at' c = false := by simp [nextB, List.getElem?_eq_none h]
    rw [hb]
    exact pz_refl

theorem pNext1 (s : List UInt8) (at' : Nat) (e bad : Int) (c : Nat) (he : e ≠ 0) : Abs.Fn Tryz.prog parse_reader_next_i (pR s at' e bad) [.bptr 0 0, .p (.int .u8 c)] (.p (.bool false)) (pR s at' e bad) := by
  apply parse_reader_next_fnH
  simp [parse_reader_next, he]
  exact pz_refl

theorem nextB_lt {s : List UInt8} {at' c : Nat} (h : nextB s at' c = true) : at' < s.length := by
  simp [nextB] at h
  obtain ⟨a, h, _⟩ := h
  exact (List.getElem?_eq_some_iff.1 h).1

theorem pTakes (s : List UInt8) (at' : Nat) (bad : Int) (c : Nat) (hs : s.length ≤ 1000000000) : Abs.Fn Tryz.prog parse_reader_takes_i (pR s at' 0 bad) [.bptr 0 0, .p (.int .u8 c)] (.p (.bool (nextB s at' c))) (pR s (if nextB s at' c then at' + 1 else at') 0 bad) := by
  apply parse_reader_takes_fnH
  simp [parse_reader_takes]
  refine aCallF_of [0] (pNext s at' bad c hs) rfl (by simp [renF]) (by simp) (by simp [framed, renF]) (by simp [AV.under, AV.under1]) (by simp [Ob.below, AV.under1]) ?_
  simp [renF, frameH, setAll]
  refine ⟨fun h => ?_, fun h => ?_⟩
  · have := nextB_lt h
    rw [IntWalk.i64_in _ (by omega), h]
    simp
    exact pz_refl
  · rw [h]
    simp
    exact pz_refl

theorem pTakes1 (s : List UInt8) (at' : Nat) (e bad : Int) (c : Nat) (he : e ≠ 0) : Abs.Fn Tryz.prog parse_reader_takes_i (pR s at' e bad) [.bptr 0 0, .p (.int .u8 c)] (.p (.bool false)) (pR s at' e bad) := by
  apply parse_reader_takes_fnH
  simp [parse_reader_takes]
  refine aCallF_of [0] (pNext1 s at' e bad c he) rfl (by simp [renF]) (by simp) (by simp [framed, renF]) (by simp [AV.under, AV.under1]) (by simp [Ob.below, AV.under1]) ?_
  simp [renF, frameH, setAll]
  exact pz_refl

theorem pMust (s : List UInt8) (at' : Nat) (bad : Int) (c : Nat) (hs : s.length ≤ 1000000000) (h : nextB s at' c = true) : Abs.Fn Tryz.prog parse_reader_must_i (pR s at' 0 bad) [.bptr 0 0, .p (.int .u8 c)] (.tup []) (pR s (at' + 1) 0 bad) := by
  have ht := pTakes s at' bad c hs
  rw [h] at ht
  apply parse_reader_must_fnH
  simp [parse_reader_must]
  refine aCallF_of [0] ht rfl (by simp [renF]) (by simp) (by simp [framed, renF]) (by simp [AV.under, AV.under1]) (by simp [Ob.below, AV.under1]) ?_
  simp [renF, frameH, setAll]
  exact pz_refl

theorem pMust1 (s : List UInt8) (at' : Nat) (e bad : Int) (c : Nat) (he : e ≠ 0) : Abs.Fn Tryz.prog parse_reader_must_i (pR s at' e bad) [.bptr 0 0, .p (.int .u8 c)] (.tup []) (pR s at' e bad) := by
  have ht := pTakes1 s at' e bad c he
  have hf := pFail1 s at' e bad at' 2 he
  apply parse_reader_must_fnH
  simp [parse_reader_must]
  refine aCallF_of [0] ht rfl (by simp [renF]) (by simp) (by simp [framed, renF]) (by simp [AV.under, AV.under1]) (by simp [Ob.below, AV.under1]) ?_
  simp [renF, frameH, setAll]
  refine aCallF_of [0] hf rfl (by simp [renF]) (by simp) (by simp [framed, renF]) (by simp [AV.under, AV.under1]) (by simp [Ob.below, AV.under1]) ?_
  simp [renF, frameH, setAll]
  exact pz_refl

def isLet (c : UInt8) : Bool := decide (97 ≤ c.toNat) && decide (c.toNat ≤ 122)
def isDig (c : UInt8) : Bool := decide (48 ≤ c.toNat) && decide (c.toNat ≤ 57)

theorem letter_spec (c : UInt8) : Abs.Fn Tryz.prog parse_letter_i [] [.p (byteT c)] (.p (.bool (isLet c))) [] := by
  apply parse_letter_fn
  simp [parse_letter, byteT]
  exact gives_p (by simp [isLet]; congr 1 <;> (apply decide_eq_decide.2; omega))
theorem digit_spec (c : UInt8) : Abs.Fn Tryz.prog parse_digit_i [] [.p (byteT c)] (.p (.bool (isDig c))) [] := by
  apply parse_digit_fn
  simp [parse_digit, byteT]
  exact gives_p (by simp [isDig]; congr 1 <;> (apply decide_eq_decide.2; omega))
theorem plainP_spec (c : UInt8) : Abs.Fn Tryz.prog parse_plain_i [] [.p (byteT c)] (.p (.bool (plainC c))) [] := by
  apply parse_plain_fn
  simp [parse_plain, byteT]
  exact gives_p (by simp [plainC]; grind)

/-- As long as they are so. -/
def spanW (p : UInt8 → Bool) (s : List UInt8) (at' : Nat) : Nat := ((s.drop at').takeWhile p).length

theorem spanW_step {p : UInt8 → Bool} {s : List UInt8} {i : Nat} (h : i < s.length) : spanW p s i = if p s[i] then spanW p s (i + 1) + 1 else 0 := by
  unfold spanW
  rw [List.drop_eq_getElem_cons h, List.takeWhile_cons]
  split <;> simp
theorem spanW_end {p : UInt8 → Bool} {s : List UInt8} {i : Nat} (h : s.length ≤ i) : spanW p s i = 0 := by
  unfold spanW
  rw [List.drop_of_length_le h]; simp
theorem spanW_le (p : UInt8 → Bool) (s : List UInt8) (i : Nat) (h : i ≤ s.length) : i + spanW p s i ≤ s.length := by
  have := (List.takeWhile_sublist p (l := s.drop i)).length_le
  simp at this
  unfold spanW
  omega

theorem pWhile (p : UInt8 → Bool) (F : Nat) (hF : ∀ c, Abs.Fn Tryz.prog F [] [.p (byteT c)] (.p (.bool (p c))) []) (s : List UInt8) (at' : Nat) (e bad : Int) (hs : s.length ≤ 1000000000) (ha : at' ≤ s.length) :
    Abs.Fn Tryz.prog parse_reader_while_i (pR s at' e bad) [.bptr 0 0, .p (.func F [])] (.p (.str ((s.drop at').take (spanW p s at')))) (pR s (at' + spanW p s at') e bad) := by
  have hle := spanW_le p s at' ha
  apply parse_reader_while_fnH
  simp [parse_reader_while]
  refine loop_by (σ := Nat) (n := 1) (fun _ => []) (fun i => pR s i e bad) (fun i => at' ≤ i ∧ i ≤ s.length ∧ i + spanW p s i = at' + spanW p s at') (fun i => s.length - i) [] at' (fun _ => rfl) (by simp [ghosts]) ⟨by simp, ha, rfl⟩ (fun i B hi hB => ?_)
  obtain ⟨g0, g1, g2⟩ := hi
  have fin : spanW p s i = 0 → (s.take i).drop at' = (s.drop at').take (spanW p s at') ∧ i = at' + spanW p s at' := by
    intro h
    have : i = at' + spanW p s at' := by omega
    refine ⟨?_, this⟩
    rw [List.drop_take, this]
    congr 1
    omega
  simp [parse_reader_while_L1]
  refine ⟨by unfold maxLen; omega, fun hlt => ?_, fun hge => ?_⟩
  · have hst := spanW_step (p := p) hlt
    simp [hlt]
    refine aCallT_of rfl (hF s[i]) rfl ?_
    simp
    refine ⟨fun hp => ?_, fun hp => ?_⟩
    · rw [if_pos hp] at hst
      rw [IntWalk.i64_in _ (by omega)]
      exact hB (i + 1) _ ⟨by omega, by omega, by omega⟩ (by omega) (by simp) (by simp [Ob.below, AV.under1]) (by simp) (by simp [AV.under, AV.under1])
    · rw [if_neg (by simp [hp])] at hst
      obtain ⟨f1, f2⟩ := fin hst
      refine ⟨by omega, ?_⟩
      rw [f1, ← f2]
      exact pz_refl
  · have hst := spanW_end (p := p) hge
    obtain ⟨f1, f2⟩ := fin hst
    refine ⟨by omega, ?_⟩
    rw [f1, ← f2]
    exact pz_refl

end Go.Proofs.YtgfnodmghaghpaaGreatDoor
end

section
/- The package parse over trees: numbers, texts in quotes. -/
set_option linter.unusedSimpArgs false
set_option linter.unusedVariables false
namespace Go.Proofs.YtgfnodmghaghpaaGreatDoor
open Go Go.RowKit Go.Abs

attribute [local irreducible] Abs.Fn

theorem aNilI_eqlT {K : AV → Prop} : aNilI true .eql (.p (.raw .nilIface)) K = K (.p (.bool true)) := by simp [aNilI]

theorem pParseInt (t : List UInt8) (n : Int) (h : Lib.parseIntB 64 t = .ok n) (hl : t.length ≤ 1000000000) : Abs.Fn Tryz.prog 155 [] [.p (.str t), .p (.int .i64 10), .p (.int .i64 64)] (.tup [.p (.int .i64 n), .p (.raw .nilIface)]) [] := by
  refine fn_below (by kernel_rfl) (fun w G vs hi hv => ?_)
  obtain ⟨hsz, hv⟩ := hv
  have h0 := repA_p.1 (hv 0 _ rfl)
  have h1 := repA_p.1 (hv 1 _ rfl)
  have h2 := repA_p.1 (hv 2 _ rfl)
  obtain ⟨v0, v1, v2, rfl⟩ : ∃ v0 v1 v2, vs = #[v0, v1, v2] := by
    obtain ⟨l⟩ := vs
    match l, hsz with
    | [a, b, c], _ => exact ⟨a, b, c, rfl⟩
  replace h0 : RepT G.rd _ v0 := h0
  replace h1 : RepT G.rd _ v1 := h1
  replace h2 : RepT G.rd _ v2 := h2
  obtain ⟨rfl, _⟩ := repT_str.1 h0
  obtain rfl := repT_int.1 h1
  obtain rfl := repT_int.1 h2
  have hsz : ByteArray.size ⟨t.toArray⟩ = t.length := by simp [ByteArray.size]
  refine (Any.strconv_ParseInt_10_at64_ok Tryz.laysParse ⟨t.toArray⟩ (by rw [hsz]; omega) n (by simpa using h) w).mono ?_
  rintro e w' ⟨rfl, hw⟩
  have hout : RepA G (.tup [.p (.int .i64 n), .p (.raw .nilIface)]) (.tuple #[.int .i64 n, .nilIface]) := by
    refine .tup _ _ rfl (fun j c hj => ?_)
    match j, hj with
    | 0, hj => simp at hj; subst hj; exact .p _ _ (.int _ _)
    | 1, hj => simp at hj; subst hj; exact .p _ _ (.raw _ rfl)
    | j + 2, hj => simp at hj
  refine ⟨_, rfl, hout, ?_⟩
  rcases hw with rfl | ⟨ty, rfl⟩
  · exact ⟨rfl, rfl, rfl, Nat.le_refl _, fun _ _ => rfl⟩
  · exact ⟨rfl, rfl, rfl, by rw [Lib.bytesWorld_size]; omega, fun b hb => Lib.bytesWorld_at_old w _ _ b hb⟩

theorem pu_dec (M : Nat) (hM : M ≤ 18446744073709551615) : ∀ (u : Nat), u ≤ M → ∀ r, Lib.parseUintM M 0 (Lib.decDigits u ++ r) = Lib.parseUintM M u r := by
  intro u
  induction u using Nat.strongRecOn with
  | ind u ih =>
    intro hu r
    have hd : ∀ d : Nat, d < 10 → (UInt8.ofNat (48 + d)).toNat = 48 + d := fun d h => by simp; omega
    rw [Lib.decDigits]
    split
    · rename_i h
      simp only [List.cons_append, List.nil_append, Lib.parseUintM, hd u h]
      rw [if_pos (by omega), if_neg (by omega), if_neg (by omega)]
      congr 1
      omega
    · rename_i h
      rw [List.append_assoc, ih (u / 10) (by omega) (by omega)]
      simp only [List.cons_append, List.nil_append, Lib.parseUintM, hd (u % 10) (by omega)]
      rw [if_pos (by omega), if_neg (by omega), if_neg (by omega)]
      congr 1
      omega

theorem decDigits_dig (u : Nat) : ∀ c ∈ Lib.decDigits u, isDig c = true := by
  induction u using Nat.strongRecOn with
  | ind u ih =>
    have hd : ∀ d : Nat, d < 10 → isDig (UInt8.ofNat (48 + d)) = true := fun d h => by
      have : (UInt8.ofNat (48 + d)).toNat = 48 + d := by simp; omega
      simp [isDig, this]; omega
    intro c hc
    rw [Lib.decDigits] at hc
    split at hc
    · rename_i h
      rw [List.mem_singleton] at hc; subst hc
      exact hd u h
    · rename_i h
      rcases List.mem_append.1 hc with hc | hc
      · exact ih (u / 10) (by omega) c hc
      · simp only [List.mem_singleton] at hc; subst hc
        exact hd _ (by omega)

theorem decDigits_cons (u : Nat) : ∃ c r, Lib.decDigits u = c :: r ∧ isDig c = true := by
  cases h : Lib.decDigits u with
  | nil => have := Lib.decDigits_length u; rw [h] at this; have := Lib.nDigits_pos u; simp at *; omega
  | cons c r => exact ⟨c, r, rfl, decDigits_dig u c (by rw [h]; simp)⟩

theorem parse_itoa {n : Int} (h : I64 n) : Lib.parseIntB 64 (Lib.itoa n) = .ok n := by
  obtain ⟨h0, h1⟩ := h
  have hu : ∀ u : Nat, u ≤ 18446744073709551615 → Lib.parseUintB 64 (Lib.decDigits u) = .ok u := by
    intro u hu
    obtain ⟨c, r, hc, _⟩ := decDigits_cons u
    have := pu_dec 18446744073709551615 (Nat.le_refl _) u hu []
    rw [List.append_nil] at this
    unfold Lib.parseUintB
    rw [if_neg (by rw [hc]; simp), show 2 ^ 64 - 1 = 18446744073709551615 by decide, this]
    rfl
  unfold Lib.itoa
  split
  · rename_i hn
    simp only [Lib.parseIntB]
    rw [if_pos (by decide), hu _ (by omega)]
    simp only
    rw [if_neg (by simp), if_neg (by simp; omega), if_pos (by decide)]
    congr 1
    omega
  · rename_i hn
    obtain ⟨c, r, hc, hd⟩ := decDigits_cons n.toNat
    have hcc : ¬ (c.toNat = 43 ∨ c.toNat = 45) ∧ ¬ c.toNat = 45 := by simp [isDig] at hd; omega
    rw [hc]
    simp only [Lib.parseIntB]
    rw [if_neg hcc.1, ← hc, hu _ (by omega)]
    simp only
    rw [if_neg (by simp [hcc.2]; omega), if_neg (by simp [hcc.2]), if_neg hcc.2]
    congr 1
    omega

theorem pNumber (t : List UInt8) (n : Int) (hn : I64 n) (h : Lib.parseIntB 64 t = .ok n) (hl : t.length ≤ 1000000000) : Abs.Fn Tryz.prog parse_number_i [] [.p (.str t)] (.tup [.p (.int .i64 n), .p (.bool (decide (Lib.itoa n = t)))]) [] := by
  apply parse_number_fn
  simp [parse_number]
  refine aCallW_of rfl rfl (pParseInt t n h hl) ?_
  simp [aNilI_eqlT]
  refine aMerge_intro (decide (Lib.itoa n = t)) (fun _ => ?_) ?_
  · refine aCallW_of rfl rfl (fmt10_spec n hn) ?_
    simp
  simp
  exact gives_pure (by simp [AV.pur, toTs])

theorem pHalf (n : Nat) (h : n < 16) : Abs.Fn Tryz.prog parse_half_i [] [.p (byteT (hexC n))] (.p (.int .i64 n)) [] := by
  have hb : Abs.Fn Tryz.prog 172 [] [.p (.str [48, 49, 50, 51, 52, 53, 54, 55, 56, 57, 97, 98, 99, 100, 101, 102]), .p (byteT (hexC n))] (.p (.int .i64 n)) [] := by
    refine fn_below (by kernel_rfl) (fun w G vs hi hv => ?_)
    obtain ⟨hsz, hv⟩ := hv
    have h0 := repA_p.1 (hv 0 _ rfl)
    have h1 := repA_p.1 (hv 1 _ rfl)
    obtain ⟨v0, v1, rfl⟩ : ∃ v0 v1, vs = #[v0, v1] := by
      obtain ⟨l⟩ := vs
      match l, hsz with
      | [a, b], _ => exact ⟨a, b, rfl⟩
    replace h0 : RepT G.rd _ v0 := h0
    replace h1 : RepT G.rd _ v1 := h1
    obtain ⟨rfl, _⟩ := repT_str.1 h0
    obtain rfl := repT_int.1 h1
    refine (Any.strings_IndexByte Tryz.laysIndexByte _ _ w).mono ?_
    rintro e w' ⟨rfl, rfl⟩
    refine ⟨_, rfl, ?_, ⟨rfl, rfl, rfl, Nat.le_refl _, fun _ _ => rfl⟩⟩
    have : ∀ m : Fin 16, Lib.indexByte [48, 49, 50, 51, 52, 53, 54, 55, 56, 57, 97, 98, 99, 100, 101, 102] ((hexC m.val).toNat : Int).toNat.toUInt8 = (m.val : Int) := by decide
    rw [show (ByteArray.mk (List.toArray [48, 49, 50, 51, 52, 53, 54, 55, 56, 57, 97, 98, 99, 100, 101, 102])).data.toList = [48, 49, 50, 51, 52, 53, 54, 55, 56, 57, 97, 98, 99, 100, 101, 102] from rfl, this ⟨n, h⟩]
    exact .p _ _ (.int _ _)
  apply parse_half_fn
  simp [parse_half]
  refine aCallW_of rfl rfl hb ?_
  simp
  exact gives_p rfl

end Go.Proofs.YtgfnodmghaghpaaGreatDoor
end

section
/- The package parse over trees: a text in quotes; a value without parts. -/
set_option linter.unusedSimpArgs false
set_option linter.unusedVariables false
namespace Go.Proofs.YtgfnodmghaghpaaGreatDoor
open Go Go.Abs

attribute [local irreducible] Abs.Fn

theorem half_byte (c : UInt8) : IntKind.u8.wrap (IntKind.i64.wrap ↑((IntKind.i64.wrap ((c.toNat : Int) / 16 * 2 ^ min 4 IntKind.i64.bits) % 2 ^ IntKind.i64.bits).toNat ||| ((c.toNat : Int) % 16 % 2 ^ IntKind.i64.bits).toNat)) = (c.toNat : Int) := by
  have : ∀ m : Fin 256, IntKind.u8.wrap (IntKind.i64.wrap ↑((IntKind.i64.wrap ((m.val : Int) / 16 * 2 ^ min 4 IntKind.i64.bits) % 2 ^ IntKind.i64.bits).toNat ||| ((m.val : Int) % 16 % 2 ^ IntKind.i64.bits).toNat)) = (m.val : Int) := by decide +kernel
  exact this ⟨c.toNat, c.toNat_lt⟩

theorem dropc {s : List UInt8} {a : Nat} {c : UInt8} {r : List UInt8} (h : s.drop a = c :: r) : ∃ hl : a < s.length, s[a] = c ∧ s.drop (a + 1) = r ∧ s[a]? = some c := by
  have hl : a < s.length := by
    have := congrArg List.length h
    simp at this; omega
  rw [List.drop_eq_getElem_cons hl] at h
  injection h with h1 h2
  exact ⟨hl, h1, h2, by rw [List.getElem?_eq_getElem hl, h1]⟩

theorem byte_apps (t : List UInt8) (i : Nat) (c : UInt8) (hl : (t.take i).length ≤ 1000000) : appendable 1 1 (List.take i (List.map byteT t)) [byteT c] := by
  refine ⟨fun e he => ?_, by simp [byteT], by simp at hl ⊢; omega⟩
  rw [← List.map_take] at he
  obtain ⟨x, _, rfl⟩ := List.mem_map.1 he
  rfl

theorem pQuoted (s t rest : List UInt8) (at' : Nat) (bad : Int) (hs : s.length ≤ 1000000000) (ht : t.length ≤ 1000000) (h : s.drop at' = t.flatMap escC ++ 34 :: rest) :
    Abs.Fn Tryz.prog parse_reader_quoted_i (pR s at' 0 bad) [.bptr 0 0] (.tup [.p (.str t), .p (.bool true)]) (pR s (at' + (t.flatMap escC).length + 1) 0 bad) := by
  obtain ⟨L0, hL0⟩ : ∃ n, n = (t.flatMap escC).length := ⟨_, rfl⟩
  have hall : at' + L0 + 1 + rest.length = s.length := by
    have := congrArg List.length h
    rw [List.length_append, ← hL0] at this
    simp at this; omega
  rw [← hL0]
  apply parse_reader_quoted_fnH
  simp [parse_reader_quoted]
  refine loop_by (σ := Nat × Nat) (n := 2) (fun q => [.own 1 ((t.take q.1).map byteT)]) (fun q => pR s q.2 0 bad ++ [.row q.1 1]) (fun q => q.1 ≤ t.length ∧ s.drop q.2 = (t.drop q.1).flatMap escC ++ 34 :: rest ∧ q.2 + ((t.drop q.1).flatMap escC).length = at' + L0) (fun q => t.length - q.1 + (1 - 0)) [.slot 0 1] (0, at') (fun _ => rfl) (by simp [ghosts, ghost]) ⟨by simp, by simpa using h, by rw [hL0]; simp⟩ (fun q B hq hB => ?_)
  obtain ⟨i, a⟩ := q
  obtain ⟨g1, g2, g3⟩ := hq
  simp only at g1 g2 g3
  have hml : s.length ≤ maxLen := by unfold maxLen; omega
  have hal : a < s.length := by
    have := congrArg List.length g2
    simp at this; omega
  have w1 : IntKind.i64.wrap ((a : Int) + 1) = ((a + 1 : Nat) : Int) := by rw [IntWalk.i64_in _ (by omega)]; omega
  have w2 : IntKind.i64.wrap (((a + 1 : Nat) : Int) + 2) = ((a + 3 : Nat) : Int) := by rw [IntWalk.i64_in _ (by omega)]; omega
  have w3 : IntKind.i64.wrap (((a + 1 : Nat) : Int) + 1) = ((a + 2 : Nat) : Int) := by rw [IntWalk.i64_in _ (by omega)]; omega
  have w1' : IntKind.i64.wrap ((a : Int) + 1) = (a : Int) + 1 := by rw [IntWalk.i64_in _ (by omega)]
  have w2' : IntKind.i64.wrap ((a : Int) + 1 + 2) = (a : Int) + 3 := by rw [IntWalk.i64_in _ (by omega)]; omega
  have w3' : IntKind.i64.wrap ((a : Int) + 1 + 1) = (a : Int) + 2 := by rw [IntWalk.i64_in _ (by omega)]; omega
  have hmin : min i t.length = i := by omega
  simp [parse_reader_quoted_L1, hal, w1']
  refine ⟨hml, ?_⟩
  by_cases hi : i = t.length
  · subst hi
    simp at g2 g3
    obtain ⟨_, ha, _, ga⟩ := dropc g2
    have tk : List.take t.length (List.map byteT t) = List.map byteT t := List.take_of_length_le (by simp)
    have hb := bytesOf_byteT t
    simp [ha, byteT]
    rw [tk]
    simp [aBytesStr, AV.elems, hb]
    exact gives_ids [0] (by simp [renF]) rfl (by simp) (by simp [framed, renF]; omega) (by simp [AV.under, AV.under1]) (by simp [Ob.below, AV.under1])
  · have hlt : i < t.length := by omega
    have tk : List.take (i + 1) (List.map byteT t) = List.take i (List.map byteT t) ++ [byteT t[i]] := by
      rw [List.take_succ_eq_append_getElem (by simpa using hlt)]; simp
    have hap := byte_apps t i t[i] (by simp; omega)
    rw [List.drop_eq_getElem_cons hlt] at g2 g3
    simp only [List.flatMap_cons, List.append_assoc, List.length_append] at g2 g3
    by_cases hp : plainC t[i] = true
    · have he : escC t[i] = [t[i]] := by simp [escC, hp]
      rw [he] at g2 g3
      simp only [List.cons_append, List.nil_append] at g2
      simp at g3
      obtain ⟨_, ha, hd, ga⟩ := dropc g2
      have h34 : ¬ t[i].toNat = 34 := by simp [plainC] at hp; omega
      have h34' : ¬ (t[i].toNat : Int) = 34 := by omega
      have hpl := plainP_spec t[i]
      rw [hp] at hpl
      simp only [byteT] at hpl hap tk
      simp [ha, byteT, h34']
      refine aCallW_of rfl rfl hpl ?_
      simp [ga, byteT]
      refine ⟨by omega, hap, ?_⟩
      refine cast (congrArg (fun x => B x _) ?_) (hB (i + 1, a + 1) _ ⟨by simp only; omega, hd, by simp only; simp; omega⟩ (by simp only; omega) ?_ ?_ ?_ (by simp [AV.under, AV.under1]))
      · simp only [List.map_take]; rw [tk]
      · simp
      · simp [Ob.below, AV.under1]
      · simp
    · have he : escC t[i] = [92, hexC (t[i].toNat / 16), hexC (t[i].toNat % 16)] := by simp [escC, hp]
      rw [he] at g2 g3
      simp only [List.cons_append, List.nil_append] at g2
      simp at g3
      obtain ⟨_, ha, hd, ga⟩ := dropc g2
      obtain ⟨hl1, ha1, hd1, ga1⟩ := dropc hd
      obtain ⟨hl2, ha2, hd2, ga2⟩ := dropc hd1
      have h256 := t[i].toNat_lt
      have hh1 := pHalf (t[i].toNat / 16) (by omega)
      have hh2 := pHalf (t[i].toNat % 16) (by omega)
      have hp92 := plainP_spec 92
      rw [show plainC 92 = false by decide] at hp92
      have hpl := plainP_spec t[i]
      rw [show plainC t[i] = false by simpa using hp] at hpl
      have hbb := half_byte t[i]
      simp only [byteT] at hpl hap tk hh1 hh2 hp92
      simp [ha, byteT]
      refine aCallW_of rfl rfl hp92 ?_
      simp [ga, byteT, w2', w3']
      refine ⟨hml, fun hh => by omega, fun _ => ?_⟩
      simp [parse_reader_quoted_J1, w2', w3']
      refine ⟨by omega, ?_⟩
      simp only [ga1, Option.getD_some, byteT]
      refine aCallT_of rfl hh1 rfl ?_
      simp [w2', w3', show ((a : Int) + 2).toNat = a + 2 by omega, ga2, byteT]
      refine ⟨by omega, ?_⟩
      refine aCallT_of rfl hh2 rfl ?_
      simp [w2', w3', ga2, byteT]
      rw [hbb]
      rw [show decide ((t[i].toNat : Int) / 16 < 0) = false from decide_eq_false (by omega), show decide ((t[i].toNat : Int) % 16 < 0) = false from decide_eq_false (by omega)]
      refine aMerge_intro false (fun _ => ?_) ?_
      · refine aCallW_of rfl rfl hpl ?_
        simp
      simp
      refine ⟨by omega, hap, ?_⟩
      refine cast (congrArg (fun x => B x _) ?_) (hB (i + 1, a + 3) _ ⟨by simp only; omega, hd2, by simp only; simp; omega⟩ (by simp only; omega) ?_ ?_ ?_ (by simp [AV.under, AV.under1]))
      · simp only [List.map_take]; rw [tk]
      · simp
      · simp [Ob.below, AV.under1]
      · simp

end Go.Proofs.YtgfnodmghaghpaaGreatDoor
end

section
/- The package parse over trees: values without parts. -/
set_option linter.unusedSimpArgs false
set_option linter.unusedVariables false
namespace Go.Proofs.YtgfnodmghaghpaaGreatDoor
open Go Go.Abs

attribute [local irreducible] Abs.Fn

/-- Nothing of a kind stands ahead. -/
def headNot (p : UInt8 → Bool) (r : List UInt8) : Prop := ∀ c q, r = c :: q → p c = false

theorem spanW_app {p : UInt8 → Bool} {s w rest : List UInt8} {a : Nat} (h : s.drop a = w ++ rest) (hw : ∀ c ∈ w, p c = true) (hr : headNot p rest) : spanW p s a = w.length := by
  unfold spanW
  rw [h, List.takeWhile_append_of_pos hw]
  cases rest with
  | nil => simp
  | cons c q => simp [hr c q rfl]

theorem pSomeStr (F : Nat) (ids : List (Nat × Nat)) (s t : List UInt8) (a a2 : Nat) (bad : Int) (b : Bool) (tail : List Ob) (h : Abs.Fn Tryz.prog F (pR s a 0 bad ++ tail) (ids.map fun c => .bptr c.1 c.2) (.tup [.p (.str t), .p (.bool b)]) (pR s a2 0 bad ++ tail)) :
    Abs.Fn Tryz.prog parse_some_string_i (pR s a 0 bad ++ tail) [.bptr 0 0, .mclo F ids] (.p (.str t)) (pR s a2 (if b then 0 else 2) (if b then bad else a) ++ tail) := by
  apply parse_some_string_fnH
  simp [parse_some_string]
  simp at h
  refine aCallM_of (caps := ids.map fun c => .bptr c.1 c.2) rfl (by simpa using h) ?_
  simp
  refine ⟨fun hb => ?_, fun hb => ?_⟩
  · subst hb
    refine aCallF_of [0] (pFail0 s a2 bad a 2) rfl (by simp [renF]) (by simp) (by simp [framed, renF]) (by simp [AV.under, AV.under1]) (by simp [Ob.below, AV.under1]) ?_
    simp [renF, frameH, setAll]
    exact pz_refl
  · subst hb
    simp
    exact pz_refl

theorem pSome64 (F : Nat) (ids : List (Nat × Nat)) (s : List UInt8) (n : Int) (a a2 : Nat) (bad : Int) (b : Bool) (tail : List Ob) (h : Abs.Fn Tryz.prog F (pR s a 0 bad ++ tail) (ids.map fun c => .bptr c.1 c.2) (.tup [.p (.int .i64 n), .p (.bool b)]) (pR s a2 0 bad ++ tail)) :
    Abs.Fn Tryz.prog parse_some_int64_i (pR s a 0 bad ++ tail) [.bptr 0 0, .mclo F ids] (.p (.int .i64 n)) (pR s a2 (if b then 0 else 2) (if b then bad else a) ++ tail) := by
  apply parse_some_int64_fnH
  simp [parse_some_int64]
  simp at h
  refine aCallM_of (caps := ids.map fun c => .bptr c.1 c.2) rfl (by simpa using h) ?_
  simp
  refine ⟨fun hb => ?_, fun hb => ?_⟩
  · subst hb
    refine aCallF_of [0] (pFail0 s a2 bad a 2) rfl (by simp [renF]) (by simp) (by simp [framed, renF]) (by simp [AV.under, AV.under1]) (by simp [Ob.below, AV.under1]) ?_
    simp [renF, frameH, setAll]
    exact pz_refl
  · subst hb
    simp
    exact pz_refl

theorem pSomeI (F : Nat) (ids : List (Nat × Nat)) (s : List UInt8) (n : Int) (a a2 : Nat) (bad : Int) (b : Bool) (tail : List Ob) (h : Abs.Fn Tryz.prog F (pR s a 0 bad ++ tail) (ids.map fun c => .bptr c.1 c.2) (.tup [.p (.int .i64 n), .p (.bool b)]) (pR s a2 0 bad ++ tail)) :
    Abs.Fn Tryz.prog parse_some_int_i (pR s a 0 bad ++ tail) [.bptr 0 0, .mclo F ids] (.p (.int .i64 n)) (pR s a2 (if b then 0 else 2) (if b then bad else a) ++ tail) := by
  apply parse_some_int_fnH
  simp [parse_some_int]
  simp at h
  refine aCallM_of (caps := ids.map fun c => .bptr c.1 c.2) rfl (by simpa using h) ?_
  simp
  refine ⟨fun hb => ?_, fun hb => ?_⟩
  · subst hb
    refine aCallF_of [0] (pFail0 s a2 bad a 2) rfl (by simp [renF]) (by simp) (by simp [framed, renF]) (by simp [AV.under, AV.under1]) (by simp [Ob.below, AV.under1]) ?_
    simp [renF, frameH, setAll]
    exact pz_refl
  · subst hb
    simp
    exact pz_refl

theorem pSimple1 (s t rest : List UInt8) (a : Nat) (bad : Int) (hs : s.length ≤ 1000000000) (ht : t.length ≤ 1000000) (h : s.drop a = quoteS t ++ rest) :
    Abs.Fn Tryz.prog parse_reader_simple_1_i (pR s a 0 bad ++ [.box [.bptr 0 0]]) [.bptr 1 0] (.tup [.p (.str t), .p (.bool true)]) (pR s (a + (quoteS t).length) 0 bad ++ [.box [.bptr 0 0]]) := by
  have h' : s.drop a = 34 :: (t.flatMap escC ++ 34 :: rest) := by rw [h]; simp [quoteS]
  obtain ⟨hl, _, hd, _⟩ := dropc h'
  have hq := pQuoted s t rest (a + 1) bad hs ht hd
  have e : a + 1 + (t.flatMap escC).length + 1 = a + (quoteS t).length := by simp only [quoteS, List.length_cons, List.length_append, List.length_nil]; omega
  rw [e] at hq
  generalize (quoteS t).length = L at *
  apply parse_reader_simple_1_fnH
  simp [parse_reader_simple_1]
  rw [IntWalk.i64_in _ (by omega)]
  refine aCallF_of [0] hq rfl (by simp [renF]) (by simp) (by simp [framed, renF]) (by simp [AV.under, AV.under1]) (by simp [Ob.below, AV.under1]) ?_
  simp [renF, frameH, setAll]
  exact gives_ids [0, 1] (by simp [renF]) rfl (by simp) (by simp [framed, renF]) (by simp [AV.under, AV.under1]) (by simp [Ob.below, AV.under1])

/-- A number's word: a sign or none, digits. -/
structure NumW (w : List UInt8) (n : Int) : Prop where
  digs : ∃ ds : List UInt8, (w = ds ∨ w = 45 :: ds) ∧ ds ≠ [] ∧ ∀ c ∈ ds, isDig c = true
  val : Lib.parseIntB 64 w = .ok n
  i64 : I64 n
  len : w.length ≤ 1000000

theorem numW_itoa {n : Int} (h : I64 n) : NumW (Lib.itoa n) n := by
  have hl := itoa_len h
  refine ⟨?_, parse_itoa h, h, by omega⟩
  unfold Lib.itoa
  split
  · obtain ⟨c, r, hc, _⟩ := decDigits_cons n.natAbs
    exact ⟨Lib.decDigits n.natAbs, .inr rfl, by rw [hc]; simp, decDigits_dig _⟩
  · obtain ⟨c, r, hc, _⟩ := decDigits_cons n.toNat
    exact ⟨Lib.decDigits n.toNat, .inl rfl, by rw [hc]; simp, decDigits_dig _⟩

theorem pSimple2 (s w rest : List UInt8) (n : Int) (a : Nat) (bad : Int) (hs : s.length ≤ 1000000000) (hw : NumW w n) (h : s.drop a = w ++ rest) (hr : headNot isDig rest) (H2 : Ob) :
    Abs.Fn Tryz.prog parse_reader_simple_2_i (pR s a 0 bad ++ [.box [.bptr 0 0], .box [.p (.int .i64 a)]]) [.bptr 1 0, .bptr 2 0] (.tup [.p (.int .i64 n), .p (.bool (decide (Lib.itoa n = w)))]) (pR s (a + w.length) 0 bad ++ [.box [.bptr 0 0], .box [.p (.int .i64 a)]]) := by
  obtain ⟨ds, hds, hne, hdig⟩ := hw.digs
  have hlen : a + w.length + rest.length = s.length := by
    have := congrArg List.length h
    obtain ⟨c, q, hcq⟩ := List.exists_cons_of_ne_nil hne
    have : 0 < w.length := by rcases hds with rfl | rfl <;> simp [hcq]
    simp at *; omega
  have htk : nextB s a 45 = decide (w = 45 :: ds) := by
    rcases hds with e | e
    · obtain ⟨c, q, hcq⟩ := List.exists_cons_of_ne_nil hne
      rw [e, hcq] at h
      obtain ⟨hl, hg, _, hg2⟩ := dropc (by simpa using h)
      have hc := hdig c (by rw [hcq]; simp)
      have h1 : ¬ c.toNat = 45 := by simp [isDig] at hc; omega
      have h2 : ¬ w = 45 :: ds := fun e2 => by rw [e] at e2; have := congrArg List.length e2; simp at this
      simp [nextB, hg2, h1, h2]
    · rw [e] at h
      obtain ⟨hl, hg, _, hg2⟩ := dropc (by simpa using h)
      simp [nextB, hg2, e]
  have ht := pTakes s a bad 45 hs
  rw [htk] at ht
  have hd2 : s.drop (if decide (w = 45 :: ds) = true then a + 1 else a) = ds ++ rest ∧ (if decide (w = 45 :: ds) = true then a + 1 else a) + ds.length = a + w.length := by
    rcases hds with e | e
    · have h2 : ¬ w = 45 :: ds := fun e2 => by rw [e] at e2; have := congrArg List.length e2; simp at this
      simp only [h2, decide_false, Bool.false_eq_true, if_false]
      exact ⟨by rw [h, e], by rw [e]⟩
    · simp only [e, decide_true, if_true]
      rw [e] at h
      obtain ⟨hl, hg, hd, _⟩ := dropc (by simpa using h)
      exact ⟨hd, by simp; omega⟩
  obtain ⟨hd3, hd4⟩ := hd2
  generalize (if decide (w = 45 :: ds) = true then a + 1 else a) = a1 at *
  have hsp := spanW_app hd3 hdig hr
  have hwh := pWhile isDig parse_digit_i digit_spec s a1 0 bad hs (by omega)
  rw [hsp, hd4] at hwh
  have hnum := pNumber w n hw.i64 hw.val (by have := hw.len; omega)
  have hsl : ((s.take (a + w.length)).drop a) = w := by rw [List.drop_take, h]; simp
  generalize decide (w = 45 :: ds) = B1 at *
  apply parse_reader_simple_2_fnH
  simp [parse_reader_simple_2]
  refine aCallF_of [0] ht rfl (by simp [renF]) (by simp) (by simp [framed, renF]) (by simp [AV.under, AV.under1]) (by simp [Ob.below, AV.under1]) ?_
  simp [renF, frameH, setAll]
  refine aCallF_of [0] hwh rfl (by simp [renF]) (by simp) (by simp [framed, renF]) (by simp [AV.under, AV.under1]) (by simp [Ob.below, AV.under1]) ?_
  simp [renF, frameH, setAll]
  refine ⟨by omega, ?_⟩
  rw [show ((a : Int) + w.length).toNat = a + w.length by omega, hsl]
  refine aCallT_of rfl hnum (by simp [AV.pur, toTs]; rfl) ?_
  simp [renF, frameH, setAll]
  exact gives_ids [0, 1, 2] (by simp [renF]) rfl (by simp) (by simp [framed, renF]) (by simp [AV.under, AV.under1]) (by simp [Ob.below, AV.under1])

end Go.Proofs.YtgfnodmghaghpaaGreatDoor
end

section
/- The package parse over trees: values without parts, all of them. -/
set_option linter.unusedSimpArgs false
set_option linter.unusedVariables false
namespace Go.Proofs.YtgfnodmghaghpaaGreatDoor
open Go Go.Abs

/-- A slot as a tree. -/
def treeQ (x : AV) : AV := match x.toT with
  | some t => .p t
  | none => x
theorem treeQ_rep {G : Gh} {x : AV} {v : Value} (h : RepA G x v) : RepA G (treeQ x) v := by
  unfold treeQ
  split
  · rename_i t ht
    exact .p _ _ (h.toT ht)
  · exact h
theorem callDoes_treeQ {P : Program} {fv : AV} {args : List AV} {r : AV} {H H' : List Ob} (h : CallDoes P fv (args.map treeQ) r H H') : CallDoes P fv args r H H' := by
  intro w G u vs hi rf rl
  refine h w G u vs hi rf ⟨by simpa using rl.1, fun j x hj => ?_⟩
  simp only [List.getElem?_map, Option.map_eq_some_iff] at hj
  obtain ⟨y, hy, rfl⟩ := hj
  exact treeQ_rep (rl.2 j y hy)
/-- A call over a few objects; its arguments are trees where they may be. -/
theorem aCallQ_of {P : Program} {H : List Ob} {c : Cont} {fv : AV} {args caps args0 : List AV} {f : Nat} {r : AV} {Hin Hout : List Ob} (ids : List Nat) (h : Abs.Fn P f Hin args0 r Hout) (hc : capsOf fv = some (f, caps)) (ha : firstsOf fv ++ args.map treeQ ++ caps = args0.map (AV.ren (renF H ids))) (hnd : ids.Nodup)
    (hf : framed (renF H ids) H ids Hin) (hu : args0.all (AV.under ids.length) = true) (hb : Hin.all (Ob.below ids.length) = true) (hk : c.k (r.ren (renF H ids)) (frameH H ids (Hout.map (Ob.ren (renF H ids))))) : aCallW P fv args H :=
  ⟨_, _, callDoes_treeQ (callDoes_frame ids hc h ha hnd hf hu hb), hk⟩
theorem givesQ_tup {n : Nat} {vs : List AV} {r : AV} {H Ho : List Ob} (h : Gives n (.tup (vs.map treeQ)) H r Ho) : Gives n (.tup vs) H r Ho := by
  intro w G u hi hr
  refine h w G u hi ?_
  cases hr with
  | tup _ us hn hv =>
    refine .tup _ us (by simpa using hn) (fun j x hj => ?_)
    simp only [List.getElem?_map, Option.map_eq_some_iff] at hj
    obtain ⟨y, hy, rfl⟩ := hj
    exact treeQ_rep (hv j y hy)
theorem givesQ {n : Nat} {v r : AV} {H Ho : List Ob} (h : Gives n (treeQ v) H r Ho) : Gives n v H r Ho := fun w G u hi hr => h w G u hi (treeQ_rep hr)

attribute [local irreducible] Abs.Fn

abbrev valR (v : Va) (b : Bool) : AV := .tup [.p (.agg [.int .i64 v.k, .int .i64 v.i, .bool v.b, .str v.s, .slice (v.t.map encV)]), .p (.bool b)]

theorem pSimple_str (s t rest : List UInt8) (a : Nat) (bad : Int) (hs : s.length ≤ 1000000000) (ht : t.length ≤ 255) (h : s.drop a = quoteS t ++ rest) :
    Abs.Fn Tryz.prog parse_reader_simple_i (pR s a 0 bad) [.bptr 0 0] (valR (strV t) true) (pR s (a + (quoteS t).length) 0 bad) := by
  have h' : s.drop a = 34 :: (t.flatMap escC ++ 34 :: rest) := by rw [h]; simp [quoteS]
  obtain ⟨hl, hg, hd, hg2⟩ := dropc h'
  have hn := pNext s a bad 34 hs
  rw [show nextB s a 34 = true by simp [nextB, hg2]] at hn
  have hs1 := pSomeStr parse_reader_simple_1_i [(1, 0)] s t a (a + (quoteS t).length) bad true [.box [.bptr 0 0]] (pSimple1 s t rest a bad hs (by omega) h)
  simp only [if_true, List.cons_append, List.nil_append] at hs1
  generalize (quoteS t).length = L at *
  have hml : t.length ≤ maxLen := by unfold maxLen; omega
  apply parse_reader_simple_fnH
  simp [parse_reader_simple]
  refine aCallF_of [0] hn rfl (by simp [renF]) (by simp) (by simp [framed, renF]) (by simp [AV.under, AV.under1]) (by simp [Ob.below, AV.under1]) ?_
  simp [renF, frameH, setAll]
  refine aCallF_of [0, 1] hs1 rfl (by simp [renF]) (by simp) (by simp [framed, renF]) (by simp [AV.under, AV.under1]) (by simp [Ob.below, AV.under1]) ?_
  simp [renF, frameH, setAll]
  intro _
  refine ⟨fun hh => by omega, fun _ => ?_⟩
  refine aCallQ_of [] (Str_spec t) rfl (by simp [renF, treeQ, AV.toT, AV.cellT]) (by simp) (by simp [framed, renF]) (by simp [AV.under, AV.under1]) (by simp [Ob.below]) ?_
  simp [renF, frameH, setAll]
  refine givesQ_tup ?_
  exact gives_ids [0] (by simp [renF, treeQ, AV.toT, AV.cellT]) rfl (by simp) (by simp [framed, renF]) (by simp [AV.under, AV.under1]) (by simp [Ob.below, AV.under1])

theorem pSimple_num (s w rest : List UInt8) (n : Int) (a : Nat) (bad : Int) (hs : s.length ≤ 1000000000) (hw : NumW w n) (h : s.drop a = w ++ rest) (hr : headNot isDig rest) :
    Abs.Fn Tryz.prog parse_reader_simple_i (pR s a 0 bad) [.bptr 0 0] (valR (intV n) true) (pR s (a + w.length) (if decide (Lib.itoa n = w) then 0 else 2) (if decide (Lib.itoa n = w) then bad else a)) := by
  obtain ⟨c, q, hcq, hc⟩ : ∃ c q, w = c :: q ∧ (c = 45 ∨ isDig c = true) := by
    obtain ⟨ds, hds, hne, hdig⟩ := hw.digs
    rcases hds with e | e
    · obtain ⟨c, q, hcq⟩ := List.exists_cons_of_ne_nil hne
      exact ⟨c, q, by rw [e, hcq], .inr (hdig c (by rw [hcq]; simp))⟩
    · exact ⟨45, ds, e, .inl rfl⟩
  have h' := h
  rw [hcq] at h'
  obtain ⟨hl, hg, hd, hg2⟩ := dropc (by simpa using h')
  have hn := pNext s a bad 34 hs
  have hc34 : ¬ c.toNat = 34 := by
    rcases hc with rfl | hc
    · decide
    · simp [isDig] at hc; omega
  rw [show nextB s a 34 = false by simp [nextB, hg2, hc34]] at hn
  have hs1 := pSome64 parse_reader_simple_2_i [(1, 0), (2, 0)] s n a (a + w.length) bad (decide (Lib.itoa n = w)) [.box [.bptr 0 0], .box [.p (.int .i64 a)]] (pSimple2 s w rest n a bad hs hw h hr .mode)
  simp only [List.cons_append, List.nil_append] at hs1
  have hdg := digit_spec c
  have hml : s.length ≤ maxLen := by unfold maxLen; omega
  generalize w.length = L at *
  generalize decide (Lib.itoa n = w) = b at *
  apply parse_reader_simple_fnH
  simp [parse_reader_simple]
  refine aCallF_of [0] hn rfl (by simp [renF]) (by simp) (by simp [framed, renF]) (by simp [AV.under, AV.under1]) (by simp [Ob.below, AV.under1]) ?_
  simp [renF, frameH, setAll, hl, hg, hml]
  rcases hc with rfl | hc
  · simp [byteT, hg, hg2]
    refine aCallF_of [0, 1, 3] hs1 rfl (by simp [renF]) (by simp) (by simp [framed, renF]) (by simp [AV.under, AV.under1]) (by simp [Ob.below, AV.under1]) ?_
    simp [renF, frameH, setAll]
    refine aCallQ_of [] (Int_spec n) rfl (by simp [renF, treeQ, AV.toT, AV.cellT]) (by simp) (by simp [framed, renF]) (by simp [AV.under, AV.under1]) (by simp [Ob.below]) ?_
    simp [renF, frameH, setAll]
    refine givesQ_tup ?_
    exact gives_ids [0] (by simp [renF, treeQ, AV.toT, AV.cellT]) rfl (by simp) (by simp [framed, renF]) (by simp [AV.under, AV.under1]) (by simp [Ob.below, AV.under1])
  · have hc45 : ¬ (c.toNat : Int) = 45 := by simp [isDig] at hc; omega
    rw [hc] at hdg
    simp only [byteT] at hdg
    simp [byteT, hc45, hg, hg2]
    refine aCallT_of rfl hdg rfl ?_
    simp [renF, frameH, setAll]
    refine aCallF_of [0, 1, 3] hs1 rfl (by simp [renF]) (by simp) (by simp [framed, renF]) (by simp [AV.under, AV.under1]) (by simp [Ob.below, AV.under1]) ?_
    simp [renF, frameH, setAll]
    refine aCallQ_of [] (Int_spec n) rfl (by simp [renF, treeQ, AV.toT, AV.cellT]) (by simp) (by simp [framed, renF]) (by simp [AV.under, AV.under1]) (by simp [Ob.below]) ?_
    simp [renF, frameH, setAll]
    refine givesQ_tup ?_
    exact gives_ids [0] (by simp [renF, treeQ, AV.toT, AV.cellT]) rfl (by simp) (by simp [framed, renF]) (by simp [AV.under, AV.under1]) (by simp [Ob.below, AV.under1])

/-- Neither a quote, a sign nor a digit stands there. -/
def noSim (s : List UInt8) (a : Nat) : Prop := ∀ c, s[a]? = some c → ¬ c.toNat = 34 ∧ ¬ c.toNat = 45 ∧ isDig c = false

theorem pSimple_word (s : List UInt8) (a : Nat) (bad : Int) (hs : s.length ≤ 1000000000) (ha : a ≤ s.length) (hn0 : noSim s a) (w : List UInt8) (hw : (s.drop a).take (spanW isLet s a) = w) :
    Abs.Fn Tryz.prog parse_reader_simple_i (pR s a 0 bad) [.bptr 0 0] (if w = [116, 114, 117, 101] then valR (boolV true) true else if w = [102, 97, 108, 115, 101] then valR (boolV false) true else valR zeroV false)
      (pR s (if w = [116, 114, 117, 101] ∨ w = [102, 97, 108, 115, 101] then a + spanW isLet s a else a) 0 bad) := by
  have hwh := pWhile isLet parse_letter_i letter_spec s a 0 bad hs ha
  rw [hw] at hwh
  have hn := pNext s a bad 34 hs
  rw [show nextB s a 34 = false by
    simp only [nextB]
    rw [decide_eq_false]
    intro e
    cases h : s[a]? with
    | none => rw [h] at e; simp at e
    | some c => rw [h] at e; simp at e; exact (hn0 c h).1 e] at hn
  generalize spanW isLet s a = L at *
  have hml : s.length ≤ maxLen := by unfold maxLen; omega
  have hJ : parse_reader_simple_J1 (.bptr 1 0) (.bptr 2 0) (.bptr 3 0) [.box [.p (.str s), .p (.int .i64 a), .p (.int .i64 0), .p (.int .i64 bad)], .box [.bptr 0 0], .box [.p (.int .i64 0), .p (.int .i64 0), .p (.bool false), .p (.str []), .full []], .box [.p (.int .i64 a)]] (fun v H' => Gives 1 v H' (if w = [116, 114, 117, 101] then valR (boolV true) true else if w = [102, 97, 108, 115, 101] then valR (boolV false) true else valR zeroV false)
      (pR s (if w = [116, 114, 117, 101] ∨ w = [102, 97, 108, 115, 101] then a + L else a) 0 bad)) := by
    simp [parse_reader_simple_J1]
    refine aCallF_of [0] hwh rfl (by simp [renF]) (by simp) (by simp [framed, renF]) (by simp [AV.under, AV.under1]) (by simp [Ob.below, AV.under1]) ?_
    simp [renF, frameH, setAll]
    refine ⟨fun h1 h2 => ?_, fun h1 => ?_⟩
    · rw [if_neg h1, if_neg h2, if_neg (by simp [h1, h2])]
      refine givesQ_tup ?_
      exact gives_ids [0] (by simp [renF, treeQ, AV.toT, AV.cellT]) rfl (by simp) (by simp [framed, renF]) (by simp [AV.under, AV.under1]) (by simp [Ob.below, AV.under1])
    · refine aCallQ_of [] (Bool_spec (decide (w = [116, 114, 117, 101]))) rfl (by simp [renF, treeQ, AV.toT, AV.cellT]) (by simp) (by simp [framed, renF]) (by simp [AV.under, AV.under1]) (by simp [Ob.below]) ?_
      simp [renF, frameH, setAll]
      by_cases h2 : w = [116, 114, 117, 101]
      · subst h2
        simp
        refine givesQ_tup ?_
        exact gives_ids [0] (by simp [renF, treeQ, AV.toT, AV.cellT]) rfl (by simp) (by simp [framed, renF]) (by simp [AV.under, AV.under1]) (by simp [Ob.below, AV.under1])
      · have h3 := h1 h2
        subst h3
        simp
        refine givesQ_tup ?_
        exact gives_ids [0] (by simp [renF, treeQ, AV.toT, AV.cellT]) rfl (by simp) (by simp [framed, renF]) (by simp [AV.under, AV.under1]) (by simp [Ob.below, AV.under1])
  apply parse_reader_simple_fnH
  simp [parse_reader_simple]
  refine aCallF_of [0] hn rfl (by simp [renF]) (by simp) (by simp [framed, renF]) (by simp [AV.under, AV.under1]) (by simp [Ob.below, AV.under1]) ?_
  simp [renF, frameH, setAll, hml]
  refine ⟨fun hl => ?_, fun hl => ?_⟩
  · obtain ⟨n1, n2, n3⟩ := hn0 s[a] (List.getElem?_eq_getElem hl)
    have hdg := digit_spec s[a]
    rw [n3] at hdg
    have n2' : ¬ (s[a].toNat : Int) = 45 := by omega
    simp only [byteT] at hdg
    simp [hl, byteT, n2']
    refine aCallT_of rfl hdg rfl ?_
    simp [renF, frameH, setAll]
    exact hJ
  · exact hJ

end Go.Proofs.YtgfnodmghaghpaaGreatDoor
end
