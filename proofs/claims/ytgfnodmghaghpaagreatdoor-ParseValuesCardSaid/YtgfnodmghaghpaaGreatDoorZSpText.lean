/- What val.Text, and the document's, answer, over trees. -/
import Derived.Test.YtgfnodmghaghpaaGreatDoorZSpItoaQ
import Derived.Test.YtgfnodmghaghpaaGreatDoorZSpTypD
set_option linter.unusedVariables false
set_option linter.unusedSimpArgs false
namespace Go.Proofs.YtgfnodmghaghpaaGreatDoor
open Go Go.Abs
attribute [local irreducible] Abs.Fn

theorem fmtB_spec (b : Bool) : Abs.Fn Tryz.prog internal_strconv_FormatBool_i [] [.p (.bool b)] (.p (.str (if b then [116, 114, 117, 101] else [102, 97, 108, 115, 101]))) [] := by
  apply internal_strconv_FormatBool_fn
  simp [internal_strconv_FormatBool]
  exact ⟨fun h => gives_p (by simp [h]), fun h => gives_p (by simp [h])⟩

theorem fmtBool_spec (b : Bool) : Abs.Fn Tryz.prog strconv_FormatBool_i [] [.p (.bool b)] (.p (.str (if b then [116, 114, 117, 101] else [102, 97, 108, 115, 101]))) [] := by
  apply strconv_FormatBool_fn
  simp [strconv_FormatBool]
  exact aCall_p rfl (fmtB_spec b) (gives_p rfl)


theorem decW_len : ∀ (n : Nat) (r : List UInt8), r.length ≤ (decW n r).length := by
  intro n
  induction n using Nat.strongRecOn with
  | ind n ih =>
    intro r
    rw [decW]
    split
    · omega
    · have := ih (n / 10) (by omega) (UInt8.ofNat (48 + n / 10 % 10) :: r)
      rw [List.length_cons] at this
      omega

theorem bytesOf_byteT : ∀ l : List UInt8, bytesOf (l.map byteT) = some l
  | [] => rfl
  | c :: r => by
    simp only [List.map_cons, byteT, bytesOf, bytesOf_byteT r]
    simp

theorem hexTake : ∀ n : Nat, n < 16 → ((([48, 49, 50, 51, 52, 53, 54, 55, 56, 57, 97, 98, 99, 100, 101, 102] : List UInt8).take (n + 1)).drop n) = [hexC n] := by decide

theorem hex_ok {n : Nat} (h : n < 16) : ([48, 49, 50, 51, 52, 53, 54, 55, 56, 57, 97, 98, 99, 100, 101, 102] : List UInt8)[n]?.getD 0 = hexC n := by simp [hexC]

def escTo (s : List UInt8) (i : Nat) : List UInt8 := (s.take i).flatMap escC

theorem escTo_len (s : List UInt8) (i : Nat) : (escTo s i).length ≤ 3 * s.length := by
  have h1 := esc_len (s.take i)
  have h2 : (s.take i).length ≤ s.length := by simp; omega
  unfold escTo
  omega

theorem escTo_snoc {s : List UInt8} {i : Nat} (h : i < s.length) : escTo s (i + 1) = escTo s i ++ escC s[i] := by
  unfold escTo
  rw [← take_snoc h, List.flatMap_append]
  show _ ++ (escC s[i] ++ []) = _
  rw [List.append_nil]

theorem shr4 (c : UInt8) : ((c.toNat : Int)).fdiv (2 ^ min 4 IntKind.u8.bits) = ((c.toNat / 16 : Nat) : Int) := by
  have : (2 : Int) ^ min 4 IntKind.u8.bits = 16 := by decide
  rw [this, Int.fdiv_eq_ediv_of_nonneg _ (by omega)]
  omega

theorem and15 (c : UInt8) : IntKind.u8.wrap ((c.toNat % 2 ^ IntKind.u8.bits &&& 15 % 2 ^ IntKind.u8.bits : Nat) : Int) = ((c.toNat % 16 : Nat) : Int) := by
  have h0 : c.toNat < 256 := c.toNat_lt
  have h1 : c.toNat % 2 ^ IntKind.u8.bits = c.toNat := Nat.mod_eq_of_lt h0
  have h2 : 15 % 2 ^ IntKind.u8.bits = 2 ^ 4 - 1 := by decide
  rw [h1, h2, Nat.and_two_pow_sub_one_eq_mod, IntWalk.u8_in _ (by omega)]

theorem byteT_one (l : List UInt8) : ∀ e ∈ l.map byteT, e.cells.length = 1 := by
  intro e he
  obtain ⟨x, _, rfl⟩ := List.mem_map.1 he
  rfl

theorem quote_spec (s : List UInt8) (hs : s.length ≤ 1000000) : Abs.Fn Tryz.prog val_quote_i [] [.p (.str s)] (.p (.str (quoteS s))) [] := by
  apply val_quote_fn
  simp [val_quote, aStrBytes]
  intro _
  refine loop_by (σ := Nat) (n := 1) (fun i => [.own 0 ((34 :: escTo s i).map byteT), .p (.int .i64 i)]) (fun i => [.row ((escTo s i).length + 1) 1]) (fun i => i ≤ s.length) (fun i => s.length - i) [.slot 0 1] 0 (fun _ => rfl) ?_ ?_ (fun i B hi hB => ?_)
  · refine ⟨fun e he => ?_, rfl, rfl⟩
    simp at he; subst he; rfl
  · simp
  have hle := escTo_len s i
  simp [val_quote_L1]
  constructor
  · intro hlt
    have he := escTo_snoc hlt
    have hc := s[i].toNat_lt
    have hb := hB (i + 1) [.row ((escTo s (i + 1)).length + 1) 1] (by omega) (by omega) (by simp) (by simp [Ob.below]) (by simp) (by simp [AV.under, AV.under1])
    rw [he] at hb
    simp only [hlt, List.getElem?_eq_getElem, Option.getD_some, List.getElem?_map, Option.map_some, byteT]
    simp [shr4, and15]
    rw [IntWalk.i64_in _ (by omega)]
    constructor
    · intro hbad
      have hp : plainC s[i] = false := by simp [plainC]; omega
      rw [escC, hp] at hb
      have e5 : ((s[i].toNat : Int) % 16).toNat = s[i].toNat % 16 := by omega
      have e6 : ((s[i].toNat : Int) / 16).toNat = s[i].toNat / 16 := by omega
      rw [e5, e6, hex_ok (by omega), hex_ok (by omega)]
      refine ⟨⟨by omega, by omega⟩, ⟨by omega, by omega⟩, rfl, rfl, ⟨?_, ?_, by simp; omega⟩, ?_⟩
      · intro e he
        simp at he
        rcases he with rfl | ⟨x, _, rfl⟩ <;> rfl
      · intro e he
        simp at he
        rcases he with rfl | rfl | rfl <;> rfl
      · rw [show (escTo s i).length + 1 + 3 = (escTo s i).length + 3 + 1 by omega]
        simpa [byteT] using hb
    · intro h1 h2 h3 h4
      have hp : plainC s[i] = true := by simp [plainC]; omega
      rw [escC, hp] at hb
      refine ⟨⟨?_, by simp, by simp; omega⟩, ?_⟩
      · intro e he
        simp at he
        rcases he with rfl | ⟨x, _, rfl⟩ <;> rfl
      · simpa [byteT] using hb
  · intro hge
    have hi2 : escTo s i = s.flatMap escC := by unfold escTo; rw [List.take_of_length_le hge]
    refine ⟨⟨?_, by simp, by simp; omega⟩, ?_⟩
    · intro e he
      simp at he
      rcases he with rfl | ⟨x, _, rfl⟩ <;> rfl
    · have := bytesOf_byteT (34 :: (escTo s i ++ [34]))
      simp [byteT] at this
      simp [aBytesStr, AV.elems, byteT, this]
      exact gives_p (by simp [quoteS, hi2])

theorem plain_spec (c : UInt8) : Abs.Fn Tryz.prog runnelref6_plain_i [] [.p (byteT c)] (.p (.bool (plainC c))) [] := by
  apply runnelref6_plain_fn
  simp [runnelref6_plain, byteT]
  refine gives_p ?_
  simp only [plainC]
  congr 4 <;> simp <;> omega

theorem decimal_nat (n : Nat) (h : n ≤ 9223372036854775807) : Abs.Fn Tryz.prog runnelref6_Decimal_i [] [.p (.int .i64 n)] (.p (.str (Lib.decDigits n))) [] := by
  apply runnelref6_Decimal_fn
  simp [runnelref6_Decimal]
  refine ⟨fun h => by omega, ?_⟩
  have hm : ∀ k : Nat, k ≤ 9223372036854775807 → IntKind.u8.wrap (IntKind.i64.wrap (48 + ((k : Int)).tmod 10)) = ((48 + k % 10 : Nat) : Int) := by
    intro k hk
    rw [show ((k : Int)).tmod 10 = ((k % 10 : Nat) : Int) by rw [Int.tmod_eq_emod_of_nonneg (by omega)]; omega, IntWalk.i64_in _ (by omega), IntWalk.u8_in _ (by omega)]
    omega
  rw [hm n h]
  simp [aBytesStr, AV.elems, bytesOf]
  have hlen : (Lib.decDigits n).length ≤ 19 := decDigits_len 19 n (by omega) (by have : (10:Nat)^19 = 10000000000000000000 := by decide
                                                                                 omega)
  have hd : decW n [UInt8.ofNat (48 + n % 10)] = Lib.decDigits n := by rw [decW_eq]; simp
  refine loop_by (σ := Nat × List UInt8) (n := 0) (fun q => [.p (.int .i64 q.1), .p (.str q.2)]) (fun _ => []) (fun q => q.1 ≤ 9223372036854775807 ∧ decW q.1 q.2 = Lib.decDigits n) (fun q => q.1) [] (n, [UInt8.ofNat (48 + n % 10)]) (fun _ => rfl) ?_ ⟨by simpa using h, hd⟩ (fun q B hq hB => ?_)
  · have e : (48 + (n : Int) % 10).toNat = 48 + n % 10 := by omega
    rw [e]
    exact ⟨rfl, rfl⟩
  obtain ⟨m, acc⟩ := q
  obtain ⟨h1, h2⟩ := hq
  simp only at h1 h2
  have hl := decW_len m acc
  simp [runnelref6_Decimal_L1]
  constructor
  · intro hge
    rw [decW, dif_neg (by omega)] at h2
    have e1 : IntKind.i64.wrap ((m : Int) / 10) = ((m / 10 : Nat) : Int) := by rw [IntWalk.i64_in _ (by omega)]; omega
    rw [e1, hm _ (by omega)]
    simp [aBytesStr, AV.elems, bytesOf]
    have hl2 := decW_len (m / 10) (UInt8.ofNat (48 + m / 10 % 10) :: acc)
    rw [h2, List.length_cons] at hl2
    have e : (48 + (m : Int) / 10 % 10).toNat = 48 + m / 10 % 10 := by omega
    rw [e]
    refine ⟨by unfold maxLen; omega, ?_⟩
    have := hB (m / 10, UInt8.ofNat (48 + m / 10 % 10) :: acc) [] ⟨by simp only; omega, h2⟩ (by simp only; omega) rfl rfl (Nat.zero_le _) rfl
    simpa using this
  · intro hlt
    rw [decW, dif_pos (by omega)] at h2
    exact gives_p (by simp [h2])

theorem decimal_spec (n : Int) (h : I64 n) : Abs.Fn Tryz.prog runnelref6_Decimal_i [] [.p (.int .i64 n)] (.p (.str (Lib.itoa n))) [] := by
  rcases Int.lt_or_le n 0 with hn | hn
  · apply runnelref6_Decimal_fn
    obtain ⟨h0, h1⟩ := h
    simp [runnelref6_Decimal]
    refine ⟨fun hl => gives_p ?_, fun hl => ⟨fun _ => ?_, fun hx => by omega⟩⟩
    · subst hl
      have : Lib.decDigits 9223372036854775808 = [57, 50, 50, 51, 51, 55, 50, 48, 51, 54, 56, 53, 52, 55, 55, 53, 56, 48, 56] := by
        simp [Lib.decDigits]
      simp [Lib.itoa, this]
    · rw [IntWalk.i64_in _ (by omega)]
      have e : -n = ((n.natAbs : Nat) : Int) := by omega
      have hd := decDigits_len 19 n.natAbs (by omega) (by have : (10:Nat)^19 = 10000000000000000000 := by decide
                                                          omega)
      rw [e]
      refine aCall_p rfl (decimal_nat n.natAbs (by omega)) ?_
      simp
      refine ⟨by unfold maxLen; omega, gives_p ?_⟩
      simp [Lib.itoa, hn]
  · have := decimal_nat n.toNat (by have := h.2; omega)
    rw [show ((n.toNat : Nat) : Int) = n by omega] at this
    rw [show Lib.itoa n = Lib.decDigits n.toNat by unfold Lib.itoa; rw [if_neg (by omega)]]
    exact this

theorem text2_spec : ∀ (v : Va) (_ : RgV v) (_ : Wv 1000000 v) (_ : (textV v).length ≤ 1000000000), Abs.Fn Tryz.prog val_Text_i [] [.p (encV v)] (.p (.str (textV v))) []
  | .mk k i b s t, hr, hw, h => by
    obtain ⟨_, _, _, _, _, hk, hi, hs0, ht0, ho⟩ := hr
    obtain ⟨_, _, _, _, _, hs1, ht1, hw1⟩ := hw
    apply val_Text_fn
    simp [val_Text]
    refine ⟨fun h1 => aCall_p rfl (fmt10_spec i hi) (gives_p (by simp [textV, h1])), fun h1 => ⟨fun h2 => aCall_p rfl (fmtBool_spec b) (gives_p (by simp [textV, h2])), fun h2 => ⟨fun h3 => aCall_p rfl (quote_spec s (by omega)) (gives_p (by simp [textV, h3])), fun h3 hl => ?_⟩⟩⟩
    simp only [textV, h1, h2, h3, if_false, textVs_eq, List.length_cons, List.length_append, List.length_nil] at h
    have hle : t.length ≤ (TJ.join [44] (t.map textV)).length + 1 := by simpa using TJ.length_join (c := 44) (l := t.map textV)
    refine loop_by (σ := Nat) (n := 2) (fun j => [.own 1 ((t.map fun v => .str (textV v)).take j), .p (.int .i64 j)]) (fun j => [.box [.p (.int .i64 k), .p (.int .i64 i), .p (.bool b), .p (.str s), .p (.slice (t.map encV))], .row j 1]) (fun j => j ≤ t.length) (fun j => t.length - j) [.slot 0 1] 0 (fun _ => rfl) ⟨rfl, rfl⟩ (by simp) (fun j B hj hB => ?_)
    simp [val_Text_L1]
    constructor
    · intro hlt
      have hm : t[j] ∈ t := by simp
      have ih := text2_spec t[j] (ho _ hm) (hw1 _ hm) (by
        have := TJ.mem_join (sep := [44]) (List.mem_map_of_mem (f := textV) hm)
        omega)
      simp [hlt]
      refine aCall_p rfl (by simpa using ih) ?_
      simp
      have hmin : min j t.length = j := by omega
      refine ⟨by omega, ⟨fun e he => by have := List.mem_of_mem_take he; simp at this; obtain ⟨x, _, rfl⟩ := this; rfl, by simp, by simp; omega⟩, ?_⟩
      rw [IntWalk.i64_in _ (by omega)]
      have ht : (t.map fun v => T.str (textV v)).take j ++ [T.str (textV t[j])] = (t.map fun v => T.str (textV v)).take (j + 1) := by
        rw [List.take_succ_eq_append_getElem (by simpa using hlt)]; simp
      rw [ht]
      exact hB (j + 1) _ (by omega) (by omega) (by simp) (by simp [Ob.below, AV.under1]) (by simp) (by simp [AV.under, AV.under1])
    · intro hge
      have : j = t.length := by omega
      subst this
      rw [List.take_of_length_le (by simp)]
      refine aCall_p rfl (by simpa [Function.comp_def] using join_spec (t.map textV) [44] (by omega) (by simp; omega)) ?_
      simp [maxLen]
      exact ⟨by omega, by omega, gives_p (by simp [textV, textVs_eq, h1, h2, h3])⟩
termination_by v => SizeOf.sizeOf v
decreasing_by
  have := List.sizeOf_lt_of_mem hm
  simp
  omega

theorem join_take_le (sep : List UInt8) (l : List (List UInt8)) (i : Nat) : (TJ.join sep (l.take i)).length ≤ (TJ.join sep l).length := by
  cases l with
  | nil => simp
  | cons x r =>
    cases i with
    | zero => simp [TJ.join]
    | succ i =>
      simp only [List.take_succ_cons, TJ.join, List.length_append]
      have := TJ.tail_le sep r i
      omega

theorem join_snoc (sep : List UInt8) (l : List (List UInt8)) (i : Nat) (h : i < l.length) : TJ.join sep (l.take (i + 1)) = if i = 0 then l[i] else TJ.join sep (l.take i) ++ sep ++ l[i] := by
  cases l with
  | nil => simp at h
  | cons x r =>
    cases i with
    | zero => simp [TJ.join, TJ.tail]
    | succ i =>
      simp only [List.length_cons] at h
      rw [if_neg (by omega)]
      simp only [List.take_succ_cons, TJ.join]
      rw [TJ.tail_step sep r i r[i] (by simp)]
      simp

theorem valueText_spec : ∀ (v : Va) (_ : RgV v) (_ : Wv 1000000 v) (_ : (textV v).length ≤ 1000000000), Abs.Fn Tryz.prog runnelref6_ValueText_i [] [.p (encV v)] (.p (.str (textV v))) []
  | .mk k i b s t, hr, hw, h => by
    obtain ⟨_, _, _, _, _, hk, hi, hs0, ht0, ho⟩ := hr
    obtain ⟨_, _, _, _, _, hs1, ht1, hw1⟩ := hw
    apply runnelref6_ValueText_fn
    simp [runnelref6_ValueText]
    refine ⟨fun h1 => aCall_p rfl (decimal_spec i hi) (gives_p (by simp [textV, h1])), fun h1 => ⟨fun h2 => ⟨fun hb => gives_p (by simp [textV, h2, hb]), fun hb => gives_p (by simp [textV, h2, hb])⟩, fun h2 => ⟨fun h3 => ?_, fun h3 => ?_⟩⟩⟩
    · refine loop_by (σ := Nat) (n := 1) (fun j => [.p (.str (34 :: escTo s j)), .p (.int .i64 j)]) (fun _ => [.box [.p (.int .i64 k), .p (.int .i64 i), .p (.bool b), .p (.str s), .p (.slice (t.map encV))]]) (fun j => j ≤ s.length) (fun j => s.length - j) [] 0 (fun _ => rfl) ⟨rfl, rfl⟩ (by simp) (fun j B hj hB => ?_)
      have hle := escTo_len s j
      simp [runnelref6_ValueText_L1]
      intro _
      constructor
      · intro hlt
        have he := escTo_snoc hlt
        have hc := s[j].toNat_lt
        have hle2 := escTo_len s (j + 1)
        have hb := hB (j + 1) [.box [.p (.int .i64 k), .p (.int .i64 i), .p (.bool b), .p (.str s), .p (.slice (t.map encV))]] (by omega) (by omega) (by simp) (by simp [Ob.below, AV.under1]) (by simp) (by simp [AV.under, AV.under1])
        rw [he] at hb hle2
        simp [hlt]
        refine aCall_p rfl (by simpa [byteT] using plain_spec s[j]) ?_
        have e1 : ((j : Int) + 1).toNat = j + 1 := by omega
        have e2 : (s.take (j + 1)).drop j = [s[j]] := by
          rw [← take_snoc hlt]
          exact List.drop_left' (by simp; omega)
        simp
        constructor
        · intro hp
          rw [escC, if_pos hp] at hb hle2
          rw [IntWalk.i64_in _ (by omega), e1, e2]
          refine ⟨⟨by omega, by omega⟩, by unfold maxLen; omega, ?_⟩
          simpa using hb
        · intro hp
          rw [escC, hp] at hb hle2
          simp at hle2
          simp only [List.getElem?_eq_getElem hlt, Option.getD_some, byteT]
          refine ⟨by unfold maxLen; omega, ?_⟩
          simp
          have e3 : IntKind.u8.wrap ((s[j].toNat : Int) / 16) = ((s[j].toNat / 16 : Nat) : Int) := by rw [IntWalk.u8_in _ (by omega)]; omega
          have e4 : (s[j].toNat : Int).tmod 16 = ((s[j].toNat % 16 : Nat) : Int) := by rw [Int.tmod_eq_emod_of_nonneg (by omega)]; omega
          have q1 : s[j].toNat / 16 < 16 := by omega
          have q2 : s[j].toNat % 16 < 16 := by omega
          simp only [e3, e4]
          generalize s[j].toNat / 16 = q at *
          generalize s[j].toNat % 16 = r at *
          rw [IntWalk.u8_in ((q : Int) + 1) (by omega), IntWalk.u8_in ((r : Int) + 1) (by omega), IntWalk.i64_in _ (by omega)]
          have e5 : ((q : Int) + 1).toNat = q + 1 := by omega
          have e6 : ((r : Int) + 1).toNat = r + 1 := by omega
          rw [e5, e6, Int.toNat_natCast, Int.toNat_natCast, hexTake q q1, hexTake r q2]
          refine ⟨⟨by omega, by omega, by omega⟩, by unfold maxLen; omega, ⟨by omega, by omega, by omega⟩, by unfold maxLen; omega, ?_⟩
          simpa using hb
      · intro hge
        have hi2 : escTo s j = s.flatMap escC := by unfold escTo; rw [List.take_of_length_le hge]
        refine ⟨by unfold maxLen; omega, gives_p ?_⟩
        simp [textV, h1, h2, h3, quoteS, hi2]
    · refine loop_by (σ := Nat) (n := 1) (fun j => [.p (.str (40 :: TJ.join [44] ((t.map textV).take j))), .p (.int .i64 j)]) (fun _ => [.box [.p (.int .i64 k), .p (.int .i64 i), .p (.bool b), .p (.str s), .p (.slice (t.map encV))]]) (fun j => j ≤ t.length) (fun j => t.length - j) [] 0 (fun _ => rfl) ⟨rfl, rfl⟩ (by simp) (fun j B hj hB => ?_)
      simp [runnelref6_ValueText_L2]
      intro _
      simp only [textV, h1, h2, h3, if_false, textVs_eq, List.length_cons, List.length_append, List.length_nil] at h
      constructor
      · intro hlt
        have hm : t[j] ∈ t := by simp
        have hmj := TJ.mem_join (sep := [44]) (List.mem_map_of_mem (f := textV) hm)
        have ih := valueText_spec t[j] (ho _ hm) (hw1 _ hm) (by omega)
        have hb := hB (j + 1) [.box [.p (.int .i64 k), .p (.int .i64 i), .p (.bool b), .p (.str s), .p (.slice (t.map encV))]] (by omega) (by omega) (by simp) (by simp [Ob.below, AV.under1]) (by simp) (by simp [AV.under, AV.under1])
        have hjl := join_take_le [44] (t.map textV) j
        have hjl2 := join_take_le [44] (t.map textV) (j + 1)
        have hsn := join_snoc [44] (t.map textV) j (by simpa using hlt)
        simp [hlt]
        constructor
        · intro hpos
          rw [if_neg (by omega)] at hsn
          rw [hsn] at hb hjl2
          simp at hjl2
          refine ⟨by unfold maxLen; omega, aCall_p rfl (by simpa using ih) ?_⟩
          simp
          refine ⟨by unfold maxLen; omega, ?_⟩
          rw [IntWalk.i64_in _ (by omega)]
          simpa using hb
        · intro h0
          subst h0
          rw [if_pos rfl] at hsn
          rw [hsn] at hb hjl2
          simp at hjl2
          refine aCall_p rfl (by simpa using ih) ?_
          simp [TJ.join]
          refine ⟨by unfold maxLen; omega, ?_⟩
          rw [IntWalk.i64_in _ (by omega)]
          simpa [TJ.join] using hb
      · intro hge
        rw [List.take_of_length_le (by simpa using hge)]
        refine ⟨by unfold maxLen; omega, gives_p ?_⟩
        simp [textV, h1, h2, h3, textVs_eq]
termination_by v => SizeOf.sizeOf v
decreasing_by
  have := List.sizeOf_lt_of_mem hm
  simp
  omega

end Go.Proofs.YtgfnodmghaghpaaGreatDoor
