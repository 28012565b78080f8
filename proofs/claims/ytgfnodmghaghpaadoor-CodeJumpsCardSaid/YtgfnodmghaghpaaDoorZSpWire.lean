/- The package wire over trees: what writes. -/
import Derived.Test.YtgfnodmghaghpaaDoorZPuBits
import Derived.Test.YtgfnodmghaghpaaDoorZSpNorm
import Derived.Test.YtgfnodmghaghpaaDoorZSpVal
import Derived.Test.YtgfnodmghaghpaaDoorZSpDec
import Derived.Test.YtgfnodmghaghpaaDoorA3
import Derived.Test.YtgfnodmghaghpaaDoorS1
set_option linter.unusedSimpArgs false
set_option linter.unusedVariables false
namespace Go.Proofs.YtgfnodmghaghpaaDoor
open Go Go.Abs

attribute [local irreducible] Abs.Fn

/-- Bytes. -/
def byT (l : List Nat) : List T := l.map fun n : Nat => T.int .u8 (n : Int)
@[simp] theorem byT_nil : byT [] = [] := id rfl
@[simp] theorem byT_cons {n : Nat} {l : List Nat} : byT (n :: l) = T.int .u8 (n : Int) :: byT l := id rfl
@[simp] theorem byT_append {a b : List Nat} : byT (a ++ b) = byT a ++ byT b := by simp [byT]
@[simp] theorem byT_length {a : List Nat} : (byT a).length = a.length := by simp [byT]
theorem byT_size (a : List Nat) : ∀ e ∈ byT a, e.cells.length = 1 := fun e he => by
  simp only [byT, List.mem_map] at he
  obtain ⟨x, _, rfl⟩ := he
  rfl
theorem byT_str (s : List UInt8) : byT (s.map UInt8.toNat) = s.map byteT := by
  simp [byT, byteT, Function.comp_def]

theorem take_byT (k : List Nat) : List.take k.length (byT k) = byT k := List.take_of_length_le (by simp)
theorem lo_byte (m : Nat) : IntKind.u8.wrap ↑((IntKind.u8.wrap ↑m % 2 ^ IntKind.u8.bits).toNat ||| 128 % 2 ^ IntKind.u8.bits) = ((m % 128 + 128 : Nat) : Int) := by
  have h8 : (2 : Int) ^ IntKind.u8.bits = 256 := by rfl
  have h8' : (128 : Nat) % 2 ^ IntKind.u8.bits = 128 := by rfl
  rw [h8, h8', u8_nat]
  have : (IntKind.u8.wrap ↑m % 256).toNat = m % 256 := by rw [u8_nat]; omega
  rw [this, or128 (by omega)]
  omega
theorem hi_byte {m : Nat} (h : m < 128) : IntKind.u8.wrap ↑m = ((m : Nat) : Int) := by rw [u8_nat]; omega
theorem shr7 (m : Nat) : ((m : Int)).fdiv (2 ^ min 7 IntKind.u64.bits) = ((m / 128 : Nat) : Int) := by
  have h7 : (2 : Int) ^ min 7 IntKind.u64.bits = 128 := by rfl
  rw [h7, Int.fdiv_eq_ediv_of_nonneg _ (by omega)]
  omega

/-- A row of bytes that is written. -/
abbrev bR (v : Nat) (l : List Nat) : List Ob := [.mrow v 1 (byT l)]

theorem num_step {n : Nat} (h : ¬ n < 128) : numB n = (n % 128 + 128) :: numB (n / 128) := by rw [numB, if_neg h]
theorem num_end {n : Nat} (h : n < 128) : numB n = [n] := by rw [numB, if_pos h]

theorem wire_PutNum_spec (v : Nat) (l : List Nat) (n : Nat) (hn : n < 18446744073709551616) (hl : l.length ≤ 1000000000) :
    Abs.Fn Tryd.prog wire_PutNum_i (bR v l) [.msl 0 v 1 0 l.length, .p (.int .u64 n)] (.msl 0 (v + (numB n).length) 1 0 (l ++ numB n).length) (bR (v + (numB n).length) (l ++ numB n)) := by
  have h10 := numB_len64 hn
  apply wire_PutNum_fnH
  simp [wire_PutNum]
  refine loop_by (σ := Nat × List Nat × Nat) (n := 1) (fun q => [.msl 0 q.2.2 1 0 q.2.1.length, .p (.int .u64 q.1)]) (fun q => bR q.2.2 q.2.1) (fun q => q.1 ≤ n ∧ q.2.1 ++ numB q.1 = l ++ numB n ∧ q.2.2 + (numB q.1).length = v + (numB n).length) (fun q => q.1) [] (n, l, v) (fun _ => rfl) (by simp [ghosts]) ⟨Nat.le_refl _, rfl, rfl⟩ (fun q B hq hB => ?_)
  obtain ⟨m, k, u⟩ := q
  obtain ⟨g1, g2, g5⟩ := hq
  simp only at g1 g2 g5
  have g3 : k.length + (numB m).length = l.length + (numB n).length := by rw [← List.length_append, g2, List.length_append]
  have g4 := numB_pos m
  simp [wire_PutNum_L1]
  rw [lo_byte, shr7, take_byT]
  refine ⟨fun hge => ?_, fun hlt => ?_⟩
  · have hst := num_step (n := m) (by omega)
    have hlen : (numB m).length = (numB (m / 128)).length + 1 := by rw [hst]; simp
    have := numB_pos (m / 128)
    refine ⟨⟨byT_size _, by simp, by simp; omega⟩, ?_⟩
    refine cast (congrArg (fun x => B x _) ?_) (hB (m / 128, k ++ [m % 128 + 128], u + 1) _ ⟨by simp only; omega, by simp only; rw [← g2, hst]; simp, by simp only; omega⟩ (by simp only; omega) ?_ ?_ ?_ (by simp [AV.under, AV.under1]))
    · simp
    · simp
    · simp [Ob.below]
    · simp
  · have hlt : m < 128 := by omega
    have hen := num_end hlt
    rw [hen] at g2 g3 g5
    have hv : v + (numB n).length = u + 1 := by simp at g5; omega
    have hln : l.length + (numB n).length = k.length + 1 := by simp at g3; omega
    rw [hv, hln, ← g2]
    rw [hi_byte hlt]
    refine ⟨⟨byT_size _, by simp, by simp; simp at g3; omega⟩, ?_⟩
    exact gives_ids [0] (by simp [renF]) rfl (by simp) (by simp [framed]) (by simp [AV.under, AV.under1]) (by simp [Ob.below])

theorem wire_PutText_spec (v : Nat) (l : List Nat) (t : List UInt8) (ht : t.length ≤ 1000000) (hl : l.length ≤ 1000000000) :
    Abs.Fn Tryd.prog wire_PutText_i (bR v l) [.msl 0 v 1 0 l.length, .p (.str t)] (.msl 0 (v + (numB t.length).length + 1) 1 0 (l ++ (numB t.length ++ t.map UInt8.toNat)).length) (bR (v + (numB t.length).length + 1) (l ++ (numB t.length ++ t.map UInt8.toNat))) := by
  have hp := wire_PutNum_spec v l t.length (by omega) hl
  have h10 := numB_len64 (n := t.length) (by omega)
  apply wire_PutText_fnH
  simp [wire_PutText]
  intro _
  rw [u64_nat (by omega)]
  refine aCallF_of [0] hp rfl (by simp [renF]) (by simp) (by simp [framed]) (by simp [AV.under, AV.under1]) (by simp [Ob.below]) ?_
  simp [renF, frameH, setAll]
  rw [List.take_of_length_le (by simp)]
  refine ⟨⟨?_, fun e he => by obtain ⟨x, _, rfl⟩ := List.mem_map.1 he; rfl, by simp; omega⟩, ?_⟩
  · rw [← byT_append]; exact byT_size _
  exact gives_ids [0] (by simp [renF]; omega) rfl (by simp) (by simp [framed, byT_str]) (by simp [AV.under, AV.under1]) (by simp [Ob.below])

theorem u64_mod (x : Int) : IntKind.u64.wrap x = x % 18446744073709551616 := by simp [IntKind.wrap, IntKind.signed, IntKind.bits]
theorem zigW {i : Int} (h : -9223372036854775808 ≤ i ∧ i ≤ 9223372036854775807) :
    IntKind.u64.wrap ↑((IntKind.u64.wrap (IntKind.u64.wrap i * 2 ^ min 1 IntKind.u64.bits) % 2 ^ IntKind.u64.bits).toNat ^^^ (IntKind.u64.wrap (i.fdiv (2 ^ min 63 IntKind.i64.bits)) % 2 ^ IntKind.u64.bits).toNat) = ((zig i : Nat) : Int) := by
  have e1 : (2 : Int) ^ min 1 IntKind.u64.bits = 2 := by rfl
  have e2 : (2 : Int) ^ IntKind.u64.bits = 18446744073709551616 := by rfl
  have e3 : (2 : Int) ^ min 63 IntKind.i64.bits = 9223372036854775808 := by rfl
  rw [e1, e2, e3, Int.fdiv_eq_ediv_of_nonneg _ (by omega)]
  by_cases hi : 0 ≤ i
  · have d : i / 9223372036854775808 = 0 := by omega
    have a1 : (IntKind.u64.wrap (IntKind.u64.wrap i * 2) % 18446744073709551616).toNat = (2 * i).toNat := by rw [u64_mod, u64_mod]; omega
    have a2 : (IntKind.u64.wrap 0 % 18446744073709551616).toNat = 0 := by rfl
    rw [d, a1, a2, Nat.xor_zero, u64_mod, zig, if_pos hi]
    omega
  · have d : i / 9223372036854775808 = -1 := by omega
    have a1 : (IntKind.u64.wrap (IntKind.u64.wrap i * 2) % 18446744073709551616).toNat = (18446744073709551616 + 2 * i).toNat := by rw [u64_mod, u64_mod]; omega
    have a2 : (IntKind.u64.wrap (-1) % 18446744073709551616).toNat = 18446744073709551615 := by rfl
    rw [d, a1, a2, xor_ones (by omega), u64_mod, zig, if_neg hi]
    omega
theorem aUn_xor64 {n : Int} {K : AV → Prop} : aUn .xor (.p (.int .u64 n)) K = K (.p (.int .u64 (IntKind.u64.wrap (BitVec.ofInt 64 18446744073709551615 ^^^ BitVec.ofInt 64 n).toNat))) := rfl
theorem zigN {i : Int} (h : -9223372036854775808 ≤ i ∧ i < 0) : IntKind.u64.wrap (BitVec.ofInt 64 18446744073709551615 ^^^ BitVec.ofInt 64 (IntKind.u64.wrap (IntKind.u64.wrap i * 2 ^ min 1 IntKind.u64.bits))).toNat = ((zig i : Nat) : Int) := by
  have e1 : (2 : Int) ^ min 1 IntKind.u64.bits = 2 := by rfl
  rw [e1]
  have a1 : IntKind.u64.wrap (IntKind.u64.wrap i * 2) = (((18446744073709551616 + 2 * i).toNat : Nat) : Int) := by rw [u64_mod, u64_mod]; omega
  rw [a1, BitVec.toNat_xor, bv_nat (by omega)]
  have a2 : (BitVec.ofInt 64 18446744073709551615).toNat = 18446744073709551615 := by rfl
  rw [a2, Nat.xor_comm, xor_ones (by omega), u64_mod, zig, if_neg (by omega)]
  omega
theorem zigP {i : Int} (h : 0 ≤ i ∧ i ≤ 9223372036854775807) : IntKind.u64.wrap (IntKind.u64.wrap i * 2 ^ min 1 IntKind.u64.bits) = ((zig i : Nat) : Int) := by
  have e1 : (2 : Int) ^ min 1 IntKind.u64.bits = 2 := by rfl
  rw [e1, u64_mod, u64_mod, zig, if_pos h.1]
  omega
theorem putBs_drop (t : List Va) (j : Nat) (h : j < t.length) : putBs (t.drop j) = putB t[j] ++ putBs (t.drop (j + 1)) := by
  rw [List.drop_eq_getElem_cons h, putBs]

mutual
/-- How often is appended. -/
def putA : Va → Nat
  | .mk k i b s t => if k = 1 then 1 + (numB (zig i)).length else if k = 2 then 2 else if k = 3 then 1 + ((numB s.length).length + 1) else 2 + putAs t
def putAs : List Va → Nat
  | [] => 0
  | v :: r => putA v + putAs r
end
theorem putAs_drop (t : List Va) (j : Nat) (h : j < t.length) : putAs (t.drop j) = putA t[j] + putAs (t.drop (j + 1)) := by
  rw [List.drop_eq_getElem_cons h, putAs]

set_option maxHeartbeats 1000000 in
theorem wire_Put_spec : ∀ (v : Va) (d : Int) (ver : Nat) (l : List Nat) (_ : checkV v d = 0) (_ : V64 v) (_ : l.length + (putB v).length ≤ 100000000),
    Abs.Fn Tryd.prog wire_Put_i (bR ver l) [.msl 0 ver 1 0 l.length, .p (encV v)] (.msl 0 (ver + putA v) 1 0 (l ++ putB v).length) (bR (ver + putA v) (l ++ putB v))
  | .mk k i b s t, d, ver, l, hc, hi, hl => by
    have hir := hi
    cases hi with
    | mk _ _ _ _ _ hr ho =>
    have z1 := zig_lt hr
    have w1 : IntKind.u8.wrap 1 = 1 := by rfl
    have w2 : IntKind.u8.wrap 2 = 2 := by rfl
    have w3 : IntKind.u8.wrap 3 = 3 := by rfl
    have w4 : IntKind.u8.wrap 4 = 4 := by rfl
    have ap : ∀ (l' : List Nat) (n : Int), l'.length ≤ 1000000000 → appendable 1 1 (byT l') [T.int .u8 n] := fun l' n h => ⟨byT_size _, by simp, by simp; omega⟩
    apply wire_Put_fnH
    simp [wire_Put, take_byT]
    rcases good_cases hc with ⟨rfl, rfl, rfl, rfl⟩ | ⟨rfl, rfl, rfl, rfl⟩ | ⟨rfl, rfl, rfl, rfl, hsl⟩ | ⟨rfl, rfl, rfl, rfl, hrow, hck⟩
    · simp [w1]
      refine ⟨ap _ _ (by omega), ?_⟩
      rw [zigW hr]
      refine aCallF_of [0] (wire_PutNum_spec (ver + 1) (l ++ [1]) (zig i) z1 (by simp; omega)) rfl (by simp [renF, hr]) (by simp) (by simp [framed, renF]) (by simp [AV.under, AV.under1]) (by simp [Ob.below]) ?_
      simp [renF, frameH, setAll]
      exact gives_ids [0] (by simp [renF, putB, putA]; omega) rfl (by simp) (by simp [framed, renF, putB, putA]; try omega) (by simp [AV.under, AV.under1]) (by simp [Ob.below])
    · simp [w2]
      have e2 : byT l ++ [T.int IntKind.u8 2] = byT (l ++ [2]) := by simp
      rw [e2, List.take_of_length_le (by simp)]
      refine ⟨ap _ _ (by omega), fun hb => ⟨ap _ _ (by simp; omega), ?_⟩, fun hb => ⟨ap _ _ (by simp; omega), ?_⟩⟩
      · subst hb
        exact gives_ids [0] (by simp [renF, putB, putA]) rfl (by simp) (by simp [framed, renF, putB, putA]) (by simp [AV.under, AV.under1]) (by simp [Ob.below])
      · subst hb
        exact gives_ids [0] (by simp [renF, putB, putA]) rfl (by simp) (by simp [framed, renF, putB, putA]) (by simp [AV.under, AV.under1]) (by simp [Ob.below])
    · simp [w3]
      refine ⟨ap _ _ (by omega), ?_⟩
      have hs1 : s.length ≤ 1000000 := by omega
      refine aCallF_of [0] (wire_PutText_spec (ver + 1) (l ++ [3]) s hs1 (by simp; omega)) rfl (by simp [renF]) (by simp) (by simp [framed, renF]) (by simp [AV.under, AV.under1]) (by simp [Ob.below]) ?_
      simp [renF, frameH, setAll]
      exact gives_ids [0] (by simp [renF, putB, putA]; omega) rfl (by simp) (by simp [framed, renF, putB, putA]; try omega) (by simp [AV.under, AV.under1]) (by simp [Ob.below])
    · have hlen := row_len hrow
      have wn : IntKind.u8.wrap (t.length : Int) = (t.length : Int) := by rw [u8_nat]; omega
      have e4 : byT l ++ [T.int IntKind.u8 4] = byT (l ++ [4]) := by simp
      have hml : t.length ≤ maxLen := by simp only [maxLen]; omega
      simp [w4, wn]
      rw [e4, List.take_of_length_le (by simp)]
      refine ⟨ap _ _ (by omega), fun _ => ⟨ap _ _ (by simp; omega), ?_⟩⟩
      intro _
      refine loop_by (σ := Nat × List Nat × Nat) (n := 2) (fun q => [.msl 0 q.2.2 1 0 q.2.1.length, .p (.int .i64 q.1)]) (fun q => bR q.2.2 q.2.1 ++ [.box [.p (.int .i64 4), .p (.int .i64 0), .p (.bool false), .p (.str []), .p (.slice (t.map encV))]])
        (fun q => q.1 ≤ t.length ∧ q.2.1 ++ putBs (t.drop q.1) = l ++ 4 :: t.length :: putBs t ∧ q.2.2 + putAs (t.drop q.1) = ver + 2 + putAs t) (fun q => t.length - q.1) [] (0, l ++ [4, t.length], ver + 1 + 1) (fun _ => rfl) (by simp [ghosts]) ⟨by simp, by simp, by simp⟩ (fun q B hq hB => ?_)
      obtain ⟨jj, k, u⟩ := q
      obtain ⟨g1, g2, g3⟩ := hq
      simp only at g1 g2 g3
      have hpb : putB (.mk 4 0 false [] t) = 4 :: t.length :: putBs t := by simp [putB]
      have hpa : putA (.mk 4 0 false [] t) = 2 + putAs t := by simp [putA]
      have hln : k.length + (putBs (t.drop jj)).length = l.length + (putB (.mk 4 0 false [] t)).length := by
        rw [hpb, ← List.length_append, g2]; simp
      simp [wire_Put_L1, hml]
      refine ⟨fun hlt => ?_, fun hge => ?_⟩
      · have hm : t[jj] ∈ t := by simp
        have d1 := putBs_drop t jj hlt
        have d2 := putAs_drop t jj hlt
        rw [d1] at g2 hln
        rw [d2] at g3
        simp at hln
        have hrec := wire_Put_spec t[jj] (d + 1) u k (checkVs_zero.1 hck _ hm) (ho _ hm) (by omega)
        simp only [encV_eta] at hrec
        have w : IntKind.i64.wrap ((jj : Int) + 1) = (jj : Int) + 1 := IntWalk.i64_in _ (by omega)
        simp [hlt, List.getElem?_eq_getElem hlt, w]
        refine aCallG_of [0] hrec rfl (by simp [renF, AV.norm]) (by simp) (by simp [framed, renF]) (by simp [AV.under, AV.under1]) (by simp [Ob.below]) ?_
        simp [renF, frameH, setAll]
        refine cast (congrArg (fun x => B x _) ?_) (hB (jj + 1, k ++ putB t[jj], u + putA t[jj]) _ ⟨by simp only; omega, by simp only; rw [List.append_assoc]; exact g2, by simp only; omega⟩ (by simp only; omega) ?_ ?_ ?_ (by simp [AV.under, AV.under1]))
        · simp [w]
        · simp
        · simp [Ob.below, AV.under1]
        · simp
      · rw [List.drop_of_length_le hge] at g2 g3 hln
        simp only [putBs, putAs, List.append_nil, Nat.add_zero, List.length_nil] at g2 g3 hln
        rw [hpb, hpa, ← g2, show ver + (2 + putAs t) = u by omega]
        rw [hpb] at hln
        exact gives_ids [0] (by simp [renF]; simp at hln; omega) rfl (by simp) (by simp [framed, renF]) (by simp [AV.under, AV.under1]) (by simp [Ob.below])
termination_by v => SizeOf.sizeOf v
decreasing_by
  have := List.sizeOf_lt_of_mem hm
  simp
  omega

end Go.Proofs.YtgfnodmghaghpaaDoor
