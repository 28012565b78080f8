/- What val.Text, and the document's, answer, over trees. -/
import Derived.Test.YtijnpcociedigaaGreatDoorZSpItoaQ
import Derived.Test.YtijnpcociedigaaGreatDoorZSpTypD
set_option linter.unusedVariables false
set_option linter.unusedSimpArgs false
namespace Go.Proofs.YtijnpcociedigaaGreatDoor
open Go Go.Abs
attribute [local irreducible] Abs.Fn

theorem fmtB_spec (b : Bool) : Abs.Fn Tryz.prog internal_strconv_FormatBool_i [] [.p (.bool b)] (.p (.str (if b then [116, 114, 117, 101] else [102, 97, 108, 115, 101]))) [] := by
  apply internal_strconv_FormatBool_fn
  simp [internal_strconv_FormatBool]
  exact ⟨fun h => gives_p (by simp [h]), fun h => gives_p (by simp [h])⟩

theorem fmtBool_spec (b : Bool) : Abs.Fn Tryz.prog strconv_FormatBool_i [] [.p (.bool b)] (.p (.str (if b then [116, 114, 117, 101] else [102, 97, 108, 115, 101]))) [] := by
  apply strconv_FormatBool_fn
  simp [strconv_FormatBool]
  exact aCall_p rfl (fmtB_spec b) (gives_p rfl)

theorem bytesOf_byteT : ∀ l : List UInt8, bytesOf (l.map byteT) = some l
  | [] => rfl
  | c :: r => by
    simp only [List.map_cons, byteT, bytesOf, bytesOf_byteT r]
    simp

theorem hex_ok {n : Nat} (h : n < 16) : ([48, 49, 50, 51, 52, 53, 54, 55, 56, 57, 97, 98, 99, 100, 101, 102] : List UInt8)[n]?.getD 0 = hexC n := by simp [hexC]

def escTo (s : List UInt8) (i : Nat) : List UInt8 := (s.take i).flatMap escC

theorem escTo_len (s : List UInt8) (i : Nat) : (escTo s i).length ≤ 3 * s.length := by
  have h1 := esc_len (s.take i)
  have h2 : (s.take i).length ≤ s.length := by simp; omega
  unfold escTo
  omega

theorem escTo_snoc {s : List UInt8} {i : Nat} (h : i < s.length) : escTo s (i + 1) = escTo s i ++ escC s[i] := by
  unfold escTo
  rw [← take_snoc h, List.flatMap_append]
  show _ ++ (escC s[i] ++ []) = _
  rw [List.append_nil]

theorem shr4 (c : UInt8) : ((c.toNat : Int)).fdiv (2 ^ min 4 IntKind.u8.bits) = ((c.toNat / 16 : Nat) : Int) := by
  have : (2 : Int) ^ min 4 IntKind.u8.bits = 16 := by decide
  rw [this, Int.fdiv_eq_ediv_of_nonneg _ (by omega)]
  omega

theorem and15 (c : UInt8) : IntKind.u8.wrap ((c.toNat % 2 ^ IntKind.u8.bits &&& 15 % 2 ^ IntKind.u8.bits : Nat) : Int) = ((c.toNat % 16 : Nat) : Int) := by
  have h0 : c.toNat < 256 := c.toNat_lt
  have h1 : c.toNat % 2 ^ IntKind.u8.bits = c.toNat := Nat.mod_eq_of_lt h0
  have h2 : 15 % 2 ^ IntKind.u8.bits = 2 ^ 4 - 1 := by decide
  rw [h1, h2, Nat.and_two_pow_sub_one_eq_mod, IntWalk.u8_in _ (by omega)]

theorem quote_spec (s : List UInt8) (hs : s.length ≤ 1000000) : Abs.Fn Tryz.prog val_quote_i [] [.p (.str s)] (.p (.str (quoteS s))) [] := by
  apply val_quote_fn
  simp [val_quote, aStrBytes]
  intro _
  refine loop_by (σ := Nat) (n := 1) (fun i => [.own 0 ((34 :: escTo s i).map byteT), .p (.int .i64 i)]) (fun i => [.row ((escTo s i).length + 1) 1]) (fun i => i ≤ s.length) (fun i => s.length - i) [.slot 0 1] 0 (fun _ => rfl) ?_ ?_ (fun i B hi hB => ?_)
  · refine ⟨fun e he => ?_, rfl, rfl⟩
    simp at he; subst he; rfl
  · simp
  have hle := escTo_len s i
  simp [val_quote_L1]
  constructor
  · intro hlt
    have he := escTo_snoc hlt
    have hc := s[i].toNat_lt
    have hb := hB (i + 1) [.row ((escTo s (i + 1)).length + 1) 1] (by omega) (by omega) (by simp) (by simp [Ob.below]) (by simp) (by simp [AV.under, AV.under1])
    rw [he] at hb
    simp only [hlt, List.getElem?_eq_getElem, Option.getD_some, List.getElem?_map, Option.map_some, byteT]
    simp [shr4, and15]
    rw [IntWalk.i64_in _ (by omega)]
    constructor
    · intro hbad
      have hp : plainC s[i] = false := by simp [plainC]; omega
      rw [escC, hp] at hb
      have e5 : ((s[i].toNat : Int) % 16).toNat = s[i].toNat % 16 := by omega
      have e6 : ((s[i].toNat : Int) / 16).toNat = s[i].toNat / 16 := by omega
      rw [e5, e6, hex_ok (by omega), hex_ok (by omega)]
      refine ⟨⟨by omega, by omega⟩, ⟨by omega, by omega⟩, rfl, rfl, ⟨?_, ?_, by simp; omega⟩, ?_⟩
      · intro e he
        simp at he
        rcases he with rfl | ⟨x, _, rfl⟩ <;> rfl
      · intro e he
        simp at he
        rcases he with rfl | rfl | rfl <;> rfl
      · rw [show (escTo s i).length + 1 + 3 = (escTo s i).length + 3 + 1 by omega]
        simpa [byteT] using hb
    · intro h1 h2 h3 h4
      have hp : plainC s[i] = true := by simp [plainC]; omega
      rw [escC, hp] at hb
      refine ⟨⟨?_, by simp, by simp; omega⟩, ?_⟩
      · intro e he
        simp at he
        rcases he with rfl | ⟨x, _, rfl⟩ <;> rfl
      · simpa [byteT] using hb
  · intro hge
    have hi2 : escTo s i = s.flatMap escC := by unfold escTo; rw [List.take_of_length_le hge]
    refine ⟨⟨?_, by simp, by simp; omega⟩, ?_⟩
    · intro e he
      simp at he
      rcases he with rfl | ⟨x, _, rfl⟩ <;> rfl
    · have := bytesOf_byteT (34 :: (escTo s i ++ [34]))
      simp [byteT] at this
      simp [aBytesStr, AV.elems, byteT, this]
      exact gives_p (by simp [quoteS, hi2])

theorem text2_spec : ∀ (v : Va) (_ : RgV v) (_ : Wv 1000000 v) (_ : (textV v).length ≤ 1000000000), Abs.Fn Tryz.prog val_Text_i [] [.p (encV v)] (.p (.str (textV v))) []
  | .mk k i b s t, hr, hw, h => by
    obtain ⟨_, _, _, _, _, hk, hi, hs0, ht0, ho⟩ := hr
    obtain ⟨_, _, _, _, _, hs1, ht1, hw1⟩ := hw
    apply val_Text_fn
    simp [val_Text]
    refine ⟨fun h1 => aCall_p rfl (fmt10_spec i hi) (gives_p (by simp [textV, h1])), fun h1 => ⟨fun h2 => aCall_p rfl (fmtBool_spec b) (gives_p (by simp [textV, h2])), fun h2 => ⟨fun h3 => aCall_p rfl (quote_spec s (by omega)) (gives_p (by simp [textV, h3])), fun h3 hl => ?_⟩⟩⟩
    simp only [textV, h1, h2, h3, if_false, textVs_eq, List.length_cons, List.length_append, List.length_nil] at h
    have hle : t.length ≤ (TJ.join [44] (t.map textV)).length + 1 := by simpa using TJ.length_join (c := 44) (l := t.map textV)
    refine loop_by (σ := Nat) (n := 2) (fun j => [.own 1 ((t.map fun v => .str (textV v)).take j), .p (.int .i64 j)]) (fun j => [.box [.p (.int .i64 k), .p (.int .i64 i), .p (.bool b), .p (.str s), .p (.slice (t.map encV))], .row j 1]) (fun j => j ≤ t.length) (fun j => t.length - j) [.slot 0 1] 0 (fun _ => rfl) ⟨rfl, rfl⟩ (by simp) (fun j B hj hB => ?_)
    simp [val_Text_L1]
    constructor
    · intro hlt
      have hm : t[j] ∈ t := by simp
      have ih := text2_spec t[j] (ho _ hm) (hw1 _ hm) (by
        have := TJ.mem_join (sep := [44]) (List.mem_map_of_mem (f := textV) hm)
        omega)
      simp [hlt]
      refine aCall_p rfl (by simpa using ih) ?_
      simp
      have hmin : min j t.length = j := by omega
      refine ⟨by omega, ⟨fun e he => by have := List.mem_of_mem_take he; simp at this; obtain ⟨x, _, rfl⟩ := this; rfl, by simp, by simp; omega⟩, ?_⟩
      rw [IntWalk.i64_in _ (by omega)]
      have ht : (t.map fun v => T.str (textV v)).take j ++ [T.str (textV t[j])] = (t.map fun v => T.str (textV v)).take (j + 1) := by
        rw [List.take_succ_eq_append_getElem (by simpa using hlt)]; simp
      rw [ht]
      exact hB (j + 1) _ (by omega) (by omega) (by simp) (by simp [Ob.below, AV.under1]) (by simp) (by simp [AV.under, AV.under1])
    · intro hge
      have : j = t.length := by omega
      subst this
      rw [List.take_of_length_le (by simp)]
      refine aCall_p rfl (by simpa [Function.comp_def] using join_spec (t.map textV) [44] (by omega) (by simp; omega)) ?_
      simp [maxLen]
      exact ⟨by omega, by omega, gives_p (by simp [textV, textVs_eq, h1, h2, h3])⟩
termination_by v => SizeOf.sizeOf v
decreasing_by
  have := List.sizeOf_lt_of_mem hm
  simp
  omega

end Go.Proofs.YtijnpcociedigaaGreatDoor

