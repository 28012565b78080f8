/- The package wire over trees: what reads. -/
import Derived.Test.YtgfnodmghaghpaaDoorZSpWire
import Derived.Test.YtgfnodmghaghpaaDoorZSpTyp
import Derived.Test.YtgfnodmghaghpaaDoorZSpExpr
set_option linter.unusedSimpArgs false
set_option linter.unusedVariables false
namespace Go.Proofs.YtgfnodmghaghpaaDoor
open Go Go.Abs

attribute [local irreducible] Abs.Fn

def numRes : R (Nat × Nat) → AV
  | .er e => .tup [.p (.int .u64 0), .p (.int .i64 0), .p (.int .i64 e)]
  | .ok p => .tup [.p (.int .u64 p.1), .p (.int .i64 p.2), .p (.int .i64 0)]

theorem numP_step {i acc c : Nat} {r : List Nat} : numP i acc (c :: r) = if i = 9 ∧ 1 < c then .er 2 else if 128 ≤ c then numP (i + 1) (acc + c % 128 * 128 ^ i) r else if c = 0 ∧ 0 < i then .er 2 else .ok (acc + c % 128 * 128 ^ i, i + 1) := by rw [numP]

theorem pow_le9 {i : Nat} (h : i ≤ 9) : 128 ^ i ≤ 9223372036854775808 := by
  have : 128 ^ i ≤ 128 ^ 9 := Nat.pow_le_pow_right (by omega) h
  have h9 : 128 ^ 9 = 9223372036854775808 := by decide
  omega
theorem acc_next {acc c i : Nat} (ha : acc < 128 ^ i) : acc + c % 128 * 128 ^ i < 128 ^ (i + 1) := by
  have h1 : (c % 128 + 1) * 128 ^ i ≤ 128 * 128 ^ i := Nat.mul_le_mul_right _ (by omega)
  rw [Nat.add_mul, Nat.one_mul] at h1
  rw [Nat.pow_succ, Nat.mul_comm (128 ^ i)]
  omega
theorem acc_64 {acc c i : Nat} (hc : c < 256) (hi : i ≤ 9) (h9 : i = 9 → c ≤ 1) (ha : acc < 128 ^ i) : acc + c % 128 * 128 ^ i < 18446744073709551616 := by
  by_cases h : i = 9
  · have := h9 h
    subst h
    have e9 : 128 ^ 9 = 9223372036854775808 := by decide
    rw [e9] at ha ⊢
    have : c = 0 ∨ c = 1 := by omega
    rcases this with rfl | rfl <;> omega
  · have h1 := acc_next (c := c) ha
    have h2 := pow_le9 (i := i + 1) (by omega)
    omega
theorem bits_num {acc c i : Nat} (hc : c < 256) (hi : i ≤ 9) (h9 : i = 9 → c ≤ 1) (ha : acc < 128 ^ i) :
    IntKind.u64.wrap ↑(acc % 2 ^ IntKind.u64.bits ||| (IntKind.u64.wrap (IntKind.u64.wrap (IntKind.u8.wrap ↑(c % 2 ^ IntKind.u8.bits &&& 127 % 2 ^ IntKind.u8.bits)) * 2 ^ min (IntKind.i64.wrap (7 * ↑i)).toNat IntKind.u64.bits) % 2 ^ IntKind.u64.bits).toNat) = ((acc + c % 128 * 128 ^ i : Nat) : Int) := by
  have e1 : (2 : Nat) ^ IntKind.u64.bits = 18446744073709551616 := by rfl
  have e1' : (2 : Int) ^ IntKind.u64.bits = 18446744073709551616 := by rfl
  have e2 : (2 : Nat) ^ IntKind.u8.bits = 256 := by rfl
  have e3 : (127 : Nat) % 256 = 127 := by rfl
  have e4 : (IntKind.i64.wrap (7 * (i : Int))).toNat = 7 * i := by rw [IntWalk.i64_in _ (by omega)]; omega
  have e5 : IntKind.u64.bits = 64 := by rfl
  have e6 : min (7 * i) 64 = 7 * i := by omega
  have e7 : (2 : Int) ^ (7 * i) = ((128 ^ i : Nat) : Int) := by
    rw [Int.pow_mul]
    have : (2 : Int) ^ 7 = 128 := by rfl
    rw [this]
    simp
  have e8 : (2 : Nat) ^ (7 * i) = 128 ^ i := by rw [Nat.pow_mul]
  have h64 := acc_64 hc hi h9 ha
  have hacc : acc < 18446744073709551616 := by omega
  have e9 : IntKind.u8.wrap ((c % 256 &&& 127 : Nat) : Int) = ((c % 128 : Nat) : Int) := by rw [and127, u8_nat]; omega
  have e10 : IntKind.u64.wrap ((c % 128 : Nat) : Int) = ((c % 128 : Nat) : Int) := u64_nat (by omega)
  have e11 : ((c % 128 : Nat) : Int) * ((128 ^ i : Nat) : Int) = ((c % 128 * 128 ^ i : Nat) : Int) := by simp
  have hx : c % 128 * 128 ^ i < 18446744073709551616 := Nat.lt_of_le_of_lt (Nat.le_add_left _ _) h64
  have e13 : IntKind.u64.wrap ((c % 128 * 128 ^ i : Nat) : Int) = ((c % 128 * 128 ^ i : Nat) : Int) := u64_nat hx
  have e12 : (((c % 128 * 128 ^ i : Nat) : Int) % 18446744073709551616).toNat = c % 128 * 128 ^ i := by
    generalize c % 128 * 128 ^ i = y at *
    omega
  rw [e1, e1', e2, e3, e4, e5, e6, e7, e9, e10, e11, e13, e12, Nat.mod_eq_of_lt hacc, ← e8, or_shift (by rw [e8]; exact ha), e8]
  exact u64_nat h64

theorem byT_get {l : List Nat} {i : Nat} (h : i < l.length) : (byT l)[i]? = some (.int .u8 l[i]) := by simp [byT, h]

theorem Num_spec (l : List Nat) (hl : ∀ c ∈ l, c < 256) : Abs.Fn Tryd.prog wire_Num_i [] [.p (.slice (byT l))] (numRes (numP 0 0 l)) [] := by
  apply wire_Num_fn
  simp [wire_Num]
  intro hml
  refine loop_by (σ := Nat × Nat) (n := 0) (fun q => [.p (.int .u64 q.2), .p (.int .i64 q.1)]) (fun _ => []) (fun q => q.1 ≤ l.length ∧ q.1 ≤ 9 ∧ q.2 < 128 ^ q.1 ∧ numP q.1 q.2 (l.drop q.1) = numP 0 0 l) (fun q => l.length - q.1) [] (0, 0) (fun _ => rfl) (by simp [ghosts]) ⟨by simp, by simp, by simp, by simp⟩ (fun q B hq hB => ?_)
  obtain ⟨i, acc⟩ := q
  obtain ⟨g1, g2, g3, g4⟩ := hq
  simp only at g1 g2 g3 g4
  simp [wire_Num_L1]
  refine ⟨fun hlt => ?_, fun hge => ?_⟩
  · have hc := hl l[i] (List.getElem_mem _)
    rw [List.drop_eq_getElem_cons hlt, numP_step] at g4
    simp [byT, hlt]
    have hw7 : IntKind.i64.wrap (7 * (i : Int)) = 7 * (i : Int) := IntWalk.i64_in _ (by omega)
    have hw1 : IntKind.i64.wrap ((i : Int) + 1) = (i : Int) + 1 := IntWalk.i64_in _ (by omega)
    refine ⟨fun h9 hc1 => ?_, fun h9 => ⟨by rw [hw7]; omega, ?_⟩⟩
    · rw [if_pos ⟨by omega, by omega⟩] at g4
      rw [← g4]
      exact gives_pure (by simp [AV.pur, numRes, toTs])
    · have h9' : i = 9 → l[i] ≤ 1 := fun h => by have := h9 (by omega); omega
      rw [if_neg (by rintro ⟨a1, a2⟩; have := h9' a1; omega)] at g4
      rw [bits_num hc g2 h9' g3, hw1]
      refine ⟨fun hge => ?_, fun hlt8 => ⟨fun h0 hp => ?_, fun hz => ?_⟩⟩
      · rw [if_pos (by omega)] at g4
        exact hB (i + 1, acc + l[i] % 128 * 128 ^ i) _ ⟨by simp only; omega, by simp only; omega, acc_next g3, g4⟩ (by simp only; omega) (by simp) (by simp) (by simp) (by simp [AV.under, AV.under1])
      · rw [if_neg (by omega), if_pos ⟨h0, hp⟩] at g4
        rw [← g4]
        exact gives_pure (by simp [AV.pur, numRes, toTs])
      · rw [if_neg (by omega), if_neg (by rintro ⟨a1, a2⟩; have := hz a1; omega)] at g4
        rw [← g4]
        exact gives_pure (by simp [AV.pur, numRes, toTs])
  · rw [List.drop_of_length_le hge, numP] at g4
    rw [← g4]
    exact gives_pure (by simp [AV.pur, numRes, toTs])

/-- The reader's objects. -/
abbrev rD (l : List Nat) (at' : Nat) (e : Int) : List Ob := [.box [.p (.slice (byT l)), .p (.int .i64 at'), .p (.int .i64 e)]]

theorem wireOne_spec (l : List Nat) : Abs.Fn Tryd.prog wire_one_i [] [.p (.slice (byT l))] (match l with
    | [] => .tup [.p (.int .u8 0), .p (.int .i64 0), .p (.int .i64 3)]
    | c :: _ => .tup [.p (.int .u8 (c : Nat)), .p (.int .i64 1), .p (.int .i64 0)]) [] := by
  apply wire_one_fn
  simp [wire_one]
  intro hml
  cases l with
  | nil =>
    simp
    exact gives_pure (by simp [AV.pur, toTs])
  | cons c r =>
    simp
    exact gives_pure (by simp [AV.pur, toTs])

/-- A text out of bytes. -/
def textP (most : Nat) (l : List Nat) : R (List Nat × Nat) :=
  match numP 0 0 l with
  | .er e => .er e
  | .ok p => if most < p.1 then .er 4 else if l.length - p.2 < p.1 then .er 3 else .ok ((l.drop p.2).take p.1, p.2 + p.1)
def textRes : R (List Nat × Nat) → AV
  | .er e => .tup [.p (.str []), .p (.int .i64 0), .p (.int .i64 e)]
  | .ok p => .tup [.p (.str (p.1.map UInt8.ofNat)), .p (.int .i64 p.2), .p (.int .i64 0)]

theorem drop_byT (l : List Nat) (k : Nat) : (byT l).drop k = byT (l.drop k) := by simp [byT]
theorem take_byT' (l : List Nat) (k : Nat) : (byT l).take k = byT (l.take k) := by simp [byT]

theorem field_byte_ok (l : List Nat) (at' k : Nat) (F : Nat) (caps : List T) (t : T) (h : Abs.Fn Tryd.prog F [] ((([.slice (byT (l.drop at'))] : List T) ++ caps).map .p) (.tup [.p t, .p (.int .i64 k), .p (.int .i64 0)]) []) (hat : at' ≤ l.length) (hl : l.length ≤ 1000000000) (hk : at' + k ≤ l.length) :
    Abs.Fn Tryd.prog wire_field_byte_i (rD l at' 0) [.bptr 0 0, .p (.func F caps)] (.p t) (rD l (at' + k) 0) := by
  apply wire_field_byte_fnH
  have w : IntKind.i64.wrap ((at' : Int) + k) = (at' : Int) + k := IntWalk.i64_in _ (by omega)
  simp [wire_field_byte, aSliceSl, atSize, boundK]
  refine ⟨hat, fun hh => by simp [byT, hh], ?_⟩
  rw [take_byT, drop_byT]
  refine aCallT_of rfl h (by simp [AV.pur, toTs]; rfl) ?_
  simp [w]
  exact gives_ids [0] (by simp [renF]) rfl (by simp) (by simp [framed, renF]) (by simp [AV.under, AV.under1]) (by simp [Ob.below, AV.under1])
theorem field_byte_er (l : List Nat) (at' : Nat) (e : Int) (F : Nat) (caps : List T) (t : T) (h : Abs.Fn Tryd.prog F [] ((([.slice (byT (l.drop at'))] : List T) ++ caps).map .p) (.tup [.p t, .p (.int .i64 0), .p (.int .i64 e)]) []) (hat : at' ≤ l.length) (hl : l.length ≤ 1000000000) (he : e ≠ 0) :
    Abs.Fn Tryd.prog wire_field_byte_i (rD l at' 0) [.bptr 0 0, .p (.func F caps)] (.p (.int .u8 0)) (rD l at' e) := by
  apply wire_field_byte_fnH
  simp [wire_field_byte, aSliceSl, atSize, boundK]
  refine ⟨hat, fun hh => by simp [byT, hh], ?_⟩
  rw [take_byT, drop_byT]
  refine aCallT_of rfl h (by simp [AV.pur, toTs]; rfl) ?_
  simp [he]
  exact gives_ids [0] (by simp [renF]) rfl (by simp) (by simp [framed, renF]) (by simp [AV.under, AV.under1]) (by simp [Ob.below, AV.under1])

theorem field_uint64_ok (l : List Nat) (at' k : Nat) (F : Nat) (caps : List T) (t : T) (h : Abs.Fn Tryd.prog F [] ((([.slice (byT (l.drop at'))] : List T) ++ caps).map .p) (.tup [.p t, .p (.int .i64 k), .p (.int .i64 0)]) []) (hat : at' ≤ l.length) (hl : l.length ≤ 1000000000) (hk : at' + k ≤ l.length) :
    Abs.Fn Tryd.prog wire_field_uint64_i (rD l at' 0) [.bptr 0 0, .p (.func F caps)] (.p t) (rD l (at' + k) 0) := by
  apply wire_field_uint64_fnH
  have w : IntKind.i64.wrap ((at' : Int) + k) = (at' : Int) + k := IntWalk.i64_in _ (by omega)
  simp [wire_field_uint64, aSliceSl, atSize, boundK]
  refine ⟨hat, fun hh => by simp [byT, hh], ?_⟩
  rw [take_byT, drop_byT]
  refine aCallT_of rfl h (by simp [AV.pur, toTs]; rfl) ?_
  simp [w]
  exact gives_ids [0] (by simp [renF]) rfl (by simp) (by simp [framed, renF]) (by simp [AV.under, AV.under1]) (by simp [Ob.below, AV.under1])
theorem field_uint64_er (l : List Nat) (at' : Nat) (e : Int) (F : Nat) (caps : List T) (t : T) (h : Abs.Fn Tryd.prog F [] ((([.slice (byT (l.drop at'))] : List T) ++ caps).map .p) (.tup [.p t, .p (.int .i64 0), .p (.int .i64 e)]) []) (hat : at' ≤ l.length) (hl : l.length ≤ 1000000000) (he : e ≠ 0) :
    Abs.Fn Tryd.prog wire_field_uint64_i (rD l at' 0) [.bptr 0 0, .p (.func F caps)] (.p (.int .u64 0)) (rD l at' e) := by
  apply wire_field_uint64_fnH
  simp [wire_field_uint64, aSliceSl, atSize, boundK]
  refine ⟨hat, fun hh => by simp [byT, hh], ?_⟩
  rw [take_byT, drop_byT]
  refine aCallT_of rfl h (by simp [AV.pur, toTs]; rfl) ?_
  simp [he]
  exact gives_ids [0] (by simp [renF]) rfl (by simp) (by simp [framed, renF]) (by simp [AV.under, AV.under1]) (by simp [Ob.below, AV.under1])

theorem field_string_ok (l : List Nat) (at' k : Nat) (F : Nat) (caps : List T) (t : T) (h : Abs.Fn Tryd.prog F [] ((([.slice (byT (l.drop at'))] : List T) ++ caps).map .p) (.tup [.p t, .p (.int .i64 k), .p (.int .i64 0)]) []) (hat : at' ≤ l.length) (hl : l.length ≤ 1000000000) (hk : at' + k ≤ l.length) :
    Abs.Fn Tryd.prog wire_field_string_i (rD l at' 0) [.bptr 0 0, .p (.func F caps)] (.p t) (rD l (at' + k) 0) := by
  apply wire_field_string_fnH
  have w : IntKind.i64.wrap ((at' : Int) + k) = (at' : Int) + k := IntWalk.i64_in _ (by omega)
  simp [wire_field_string, aSliceSl, atSize, boundK]
  refine ⟨hat, fun hh => by simp [byT, hh], ?_⟩
  rw [take_byT, drop_byT]
  refine aCallT_of rfl h (by simp [AV.pur, toTs]; rfl) ?_
  simp [w]
  exact gives_ids [0] (by simp [renF]) rfl (by simp) (by simp [framed, renF]) (by simp [AV.under, AV.under1]) (by simp [Ob.below, AV.under1])
theorem field_string_er (l : List Nat) (at' : Nat) (e : Int) (F : Nat) (caps : List T) (t : T) (h : Abs.Fn Tryd.prog F [] ((([.slice (byT (l.drop at'))] : List T) ++ caps).map .p) (.tup [.p t, .p (.int .i64 0), .p (.int .i64 e)]) []) (hat : at' ≤ l.length) (hl : l.length ≤ 1000000000) (he : e ≠ 0) :
    Abs.Fn Tryd.prog wire_field_string_i (rD l at' 0) [.bptr 0 0, .p (.func F caps)] (.p (.str [])) (rD l at' e) := by
  apply wire_field_string_fnH
  simp [wire_field_string, aSliceSl, atSize, boundK]
  refine ⟨hat, fun hh => by simp [byT, hh], ?_⟩
  rw [take_byT, drop_byT]
  refine aCallT_of rfl h (by simp [AV.pur, toTs]; rfl) ?_
  simp [he]
  exact gives_ids [0] (by simp [renF]) rfl (by simp) (by simp [framed, renF]) (by simp [AV.under, AV.under1]) (by simp [Ob.below, AV.under1])

theorem Byte_ok (l : List Nat) (at' : Nat) (c : Nat) (r : List Nat) (h : l.drop at' = c :: r) (hl : l.length ≤ 1000000000) : Abs.Fn Tryd.prog wire_Reader_Byte_i (rD l at' 0) [.bptr 0 0] (.p (.int .u8 c)) (rD l (at' + 1) 0) := by
  have ho := wireOne_spec (l.drop at')
  rw [h] at ho
  simp only at ho
  rw [← h] at ho
  have hlen : at' + 1 ≤ l.length := by
    have := congrArg List.length h
    simp at this; omega
  have hb := field_byte_ok l at' 1 wire_one_i [] (.int .u8 c) ho (by omega) hl (by omega)
  apply wire_Reader_Byte_fnH
  simp [wire_Reader_Byte]
  refine aCallF_of [0] hb rfl (by simp [renF]) (by simp) (by simp [framed, renF]) (by simp [AV.under, AV.under1]) (by simp [Ob.below, AV.under1]) ?_
  simp [renF, frameH, setAll]
  exact gives_ids [0] (by simp [renF]) rfl (by simp) (by simp [framed, renF]) (by simp [AV.under, AV.under1]) (by simp [Ob.below, AV.under1])
theorem Byte_er (l : List Nat) (at' : Nat) (h : l.drop at' = []) (hat : at' ≤ l.length) (hl : l.length ≤ 1000000000) : Abs.Fn Tryd.prog wire_Reader_Byte_i (rD l at' 0) [.bptr 0 0] (.p (.int .u8 0)) (rD l at' 3) := by
  have ho := wireOne_spec (l.drop at')
  rw [h] at ho
  simp only at ho
  rw [← h] at ho
  have hb := field_byte_er l at' 3 wire_one_i [] (.int .u8 0) ho hat hl (by omega)
  apply wire_Reader_Byte_fnH
  simp [wire_Reader_Byte]
  refine aCallF_of [0] hb rfl (by simp [renF]) (by simp) (by simp [framed, renF]) (by simp [AV.under, AV.under1]) (by simp [Ob.below, AV.under1]) ?_
  simp [renF, frameH, setAll]
  exact gives_ids [0] (by simp [renF]) rfl (by simp) (by simp [framed, renF]) (by simp [AV.under, AV.under1]) (by simp [Ob.below, AV.under1])
theorem Uint_ok (l : List Nat) (at' n k : Nat) (h : numP 0 0 (l.drop at') = .ok (n, k)) (hc : ∀ c ∈ l, c < 256) (hat : at' ≤ l.length) (hl : l.length ≤ 1000000000) (hk : at' + k ≤ l.length) : Abs.Fn Tryd.prog wire_Reader_Uint_i (rD l at' 0) [.bptr 0 0] (.p (.int .u64 n)) (rD l (at' + k) 0) := by
  have ho := Num_spec (l.drop at') (fun c h => hc c (List.mem_of_mem_drop h))
  rw [h] at ho
  have hb := field_uint64_ok l at' k wire_Num_i [] (.int .u64 n) ho hat hl hk
  apply wire_Reader_Uint_fnH
  simp [wire_Reader_Uint]
  refine aCallF_of [0] hb rfl (by simp [renF]) (by simp) (by simp [framed, renF]) (by simp [AV.under, AV.under1]) (by simp [Ob.below, AV.under1]) ?_
  simp [renF, frameH, setAll]
  exact gives_ids [0] (by simp [renF]) rfl (by simp) (by simp [framed, renF]) (by simp [AV.under, AV.under1]) (by simp [Ob.below, AV.under1])
theorem Uint_er (l : List Nat) (at' : Nat) (e : Int) (h : numP 0 0 (l.drop at') = .er e) (hc : ∀ c ∈ l, c < 256) (hat : at' ≤ l.length) (hl : l.length ≤ 1000000000) (he : e ≠ 0) : Abs.Fn Tryd.prog wire_Reader_Uint_i (rD l at' 0) [.bptr 0 0] (.p (.int .u64 0)) (rD l at' e) := by
  have ho := Num_spec (l.drop at') (fun c h => hc c (List.mem_of_mem_drop h))
  rw [h] at ho
  have hb := field_uint64_er l at' e wire_Num_i [] (.int .u64 0) ho hat hl he
  apply wire_Reader_Uint_fnH
  simp [wire_Reader_Uint]
  refine aCallF_of [0] hb rfl (by simp [renF]) (by simp) (by simp [framed, renF]) (by simp [AV.under, AV.under1]) (by simp [Ob.below, AV.under1]) ?_
  simp [renF, frameH, setAll]
  exact gives_ids [0] (by simp [renF]) rfl (by simp) (by simp [framed, renF]) (by simp [AV.under, AV.under1]) (by simp [Ob.below, AV.under1])

theorem bytesOf_byT (l : List Nat) (h : ∀ c ∈ l, c < 256) : bytesOf (byT l) = some (l.map UInt8.ofNat) := by
  induction l with
  | nil => rfl
  | cons c r ih =>
    rw [byT_cons, bytesOf, ih (fun c hc => h c (by simp [hc]))]
    simp

theorem numP_er : ∀ (l : List Nat) (i acc : Nat) (e : Int), numP i acc l = .er e → e ≠ 0
  | [], i, acc, e, h => by simp [numP] at h; omega
  | c :: r, i, acc, e, h => by
    rw [numP_step] at h
    split at h
    · simp at h; omega
    split at h
    · exact numP_er r _ _ e h
    split at h
    · simp at h; omega
    · simp at h
theorem numP_len : ∀ (l : List Nat) (i acc n k : Nat), numP i acc l = .ok (n, k) → k ≤ i + l.length
  | [], i, acc, n, k, h => by simp [numP] at h
  | c :: r, i, acc, n, k, h => by
    rw [numP_step] at h
    split at h
    · simp at h
    split at h
    · have := numP_len r _ _ n k h
      simp; omega
    split at h
    · simp at h
    · simp at h
      simp; omega

theorem wireText_spec (most : Nat) (hm : most ≤ 1000000) (l : List Nat) (hc : ∀ c ∈ l, c < 256) (hl : l.length ≤ 1000000000) : Abs.Fn Tryd.prog wire_text_1_i [] [.p (.slice (byT l)), .p (.imm [.int .u64 most] 0)] (textRes (textP most l)) [] := by
  have hn := Num_spec l hc
  apply wire_text_1_fn
  simp [wire_text_1]
  unfold textP
  cases hp : numP 0 0 l with
  | er e =>
    rw [hp] at hn
    simp only [numRes] at hn
    have he : e ≠ 0 := numP_er _ _ _ _ hp
    refine aCallW_of rfl rfl hn ?_
    simp [he]
    exact gives_pure (by simp [AV.pur, textRes, toTs])
  | ok p =>
    obtain ⟨n, k⟩ := p
    rw [hp] at hn
    simp only [numRes] at hn
    refine aCallW_of rfl rfl hn ?_
    have hk := numP_len _ _ _ _ _ hp
    have w1 : IntKind.i64.wrap ((l.length : Int) - k) = ((l.length - k : Nat) : Int) := by rw [IntWalk.i64_in _ (by omega)]; omega
    simp [w1, u64_nat (show l.length - k < 18446744073709551616 by omega)]
    refine ⟨fun h => ?_, fun h1 hml => ⟨fun h => ?_, fun h2 => ?_⟩⟩
    · rw [if_pos h]
      exact gives_pure (by simp [AV.pur, textRes, toTs])
    · rw [if_neg (by omega), if_pos (by omega)]
      exact gives_pure (by simp [AV.pur, textRes, toTs])
    · rw [if_neg (by omega), if_neg (by omega)]
      have w2 : IntKind.i64.wrap (n : Int) = n := IntWalk.i64_in _ (by omega)
      have w3 : IntKind.i64.wrap ((k : Int) + n) = ((k + n : Nat) : Int) := by rw [IntWalk.i64_in _ (by omega)]; omega
      simp [w2, w3, aSliceSl, boundK, atSize]
      refine ⟨⟨by omega, by omega⟩, fun hh => by simp [byT, show k < l.length by omega], ?_⟩
      have e : ((k : Int) + n).toNat = k + n := by omega
      rw [e, take_byT', drop_byT]
      have hb := bytesOf_byT ((l.take (k + n)).drop k) (fun c h => hc c (List.mem_of_mem_take (List.mem_of_mem_drop h)))
      simp [aBytesStr, AV.elems, hb]
      refine gives_pure ?_
      simp [AV.pur, textRes, toTs, List.drop_take]

theorem wireTextF_spec (most : Nat) : Abs.Fn Tryd.prog wire_text_i [] [.p (.int .u64 most)] (.p (.func wire_text_1_i [.imm [.int .u64 most] 0])) [] := by
  apply wire_text_fn
  simp [wire_text]
  exact gives_pure rfl

theorem Fail_spec (l : List Nat) (at' : Nat) (e f : Int) : Abs.Fn Tryd.prog wire_Reader_Fail_i (rD l at' e) [.bptr 0 0, .p (.int .i64 f)] (.tup []) (rD l at' (if e = 0 then f else e)) := by
  apply wire_Reader_Fail_fnH
  simp [wire_Reader_Fail]
  refine ⟨fun h => ?_, fun h => ?_⟩
  · exact gives_ids [0] (by simp [renF]) rfl (by simp) (by simp [framed, renF, h]) (by simp [AV.under, AV.under1]) (by simp [Ob.below, AV.under1])
  · exact gives_ids [0] (by simp [renF]) rfl (by simp) (by simp [framed, renF, h]) (by simp [AV.under, AV.under1]) (by simp [Ob.below, AV.under1])

theorem zigBack {n : Nat} (h : n < 18446744073709551616) :
    IntKind.i64.wrap ↑((IntKind.i64.wrap ((↑n : Int).fdiv (2 ^ min 1 IntKind.u64.bits)) % 2 ^ IntKind.i64.bits).toNat ^^^ (IntKind.i64.wrap (-IntKind.i64.wrap (IntKind.u64.wrap ↑(n % 2 ^ IntKind.u64.bits &&& 1 % 2 ^ IntKind.u64.bits))) % 2 ^ IntKind.i64.bits).toNat) = unzig n := by
  have e1 : (2 : Int) ^ min 1 IntKind.u64.bits = 2 := by rfl
  have e2 : (2 : Int) ^ IntKind.i64.bits = 18446744073709551616 := by rfl
  have e3 : (2 : Nat) ^ IntKind.u64.bits = 18446744073709551616 := by rfl
  have e4 : 1 % 18446744073709551616 = 1 := by rfl
  have a1 : (IntKind.i64.wrap ((n : Int) / 2) % 18446744073709551616).toNat = n / 2 := by rw [IntKind.wrap_i64]; omega
  rw [e1, e2, e3, e4, Nat.mod_eq_of_lt h, and1, Int.fdiv_eq_ediv_of_nonneg _ (by omega), a1, u64_nat (by omega)]
  have a2 : IntKind.i64.wrap ((n % 2 : Nat) : Int) = ((n % 2 : Nat) : Int) := IntWalk.i64_in _ (by omega)
  rw [a2]
  have : n % 2 = 0 ∨ n % 2 = 1 := by omega
  rcases this with h2 | h2
  · have a3 : (IntKind.i64.wrap (-((0 : Nat) : Int)) % 18446744073709551616).toNat = 0 := by rfl
    rw [h2, a3, Nat.xor_zero, unzig, if_pos h2]
    exact IntWalk.i64_in _ (by omega)
  · have a3 : (IntKind.i64.wrap (-((1 : Nat) : Int)) % 18446744073709551616).toNat = 18446744073709551615 := by rfl
    rw [h2, a3, xor_ones (by omega), unzig, if_neg (by omega), IntKind.wrap_i64]
    omega
theorem drop_next {l : List Nat} {a : Nat} {c : Nat} {r : List Nat} (h : l.drop a = c :: r) : l.drop (a + 1) = r := by
  rw [← List.drop_drop, h]; rfl
theorem drop_le {l : List Nat} {a : Nat} {r : List Nat} (h : l.drop a = r) (hr : 0 < r.length) : a + r.length = l.length := by
  have := congrArg List.length h
  simp at this; omega
theorem drop_app {l : List Nat} {a : Nat} {p r : List Nat} (h : l.drop a = p ++ r) : l.drop (a + p.length) = r := by
  rw [← List.drop_drop, h]; simp
theorem back_str (s : List UInt8) : (s.map UInt8.toNat).map UInt8.ofNat = s := by
  rw [List.map_map]
  have : (UInt8.ofNat ∘ UInt8.toNat) = id := by funext x; simp
  rw [this, List.map_id]

theorem gives_norm {n : Nat} {v r : AV} {H Ho : List Ob} (h : Gives n v.norm H r Ho) : Gives n v H r Ho := fun w G u hi hr => h w G u hi (norm_rep hr)

set_option maxHeartbeats 2000000 in
theorem value_ok : ∀ (v : Va) (d : Int) (l : List Nat) (at' : Nat) (rest : List Nat) (_ : checkV v d = 0) (_ : V64 v) (_ : ∀ c ∈ l, c < 256) (_ : l.length ≤ 100000000) (_ : l.drop at' = putB v ++ rest) (_ : 0 ≤ d ∧ d ≤ 100),
    Abs.Fn Tryd.prog wire_Reader_value_i (rD l at' 0) [.bptr 0 0, .p (.int .i64 d)] (.p (encV v)) (rD l (at' + (putB v).length) 0)
  | .mk k i b s t, d, l, at', rest, hc, hi, hb, hl, hd, hdd => by
    cases hi with
    | mk _ _ _ _ _ hr ho =>
    have z1 := zig_lt hr
    have hpos := putB_pos (.mk k i b s t)
    have hall := drop_le hd (by simp; omega)
    have w1 : IntKind.i64.wrap 1 = 1 := by rfl
    have w2 : IntKind.i64.wrap 2 = 2 := by rfl
    have w3 : IntKind.i64.wrap 3 = 3 := by rfl
    have w4 : IntKind.i64.wrap 4 = 4 := by rfl
    apply wire_Reader_value_fnH
    simp [wire_Reader_value]
    rcases good_cases hc with ⟨rfl, rfl, rfl, rfl⟩ | ⟨rfl, rfl, rfl, rfl⟩ | ⟨rfl, rfl, rfl, rfl, hsl⟩ | ⟨rfl, rfl, rfl, rfl, hrow, hck⟩
    · have hp : putB (.mk 1 i false [] []) = 1 :: numB (zig i) := by simp [putB]
      rw [hp] at hd hall ⊢
      have hd1 : l.drop (at' + 1) = numB (zig i) ++ rest := drop_next hd
      simp at hall
      have hn : numP 0 0 (l.drop (at' + 1)) = .ok (zig i, (numB (zig i)).length) := by
        rw [hd1, numP_numB (zig i) 0 0 rest (by omega) (by omega)]; simp
      refine aCallF_of [0] (Byte_ok l at' 1 _ hd (by omega)) rfl (by simp [renF]) (by simp) (by simp [framed, renF]) (by simp [AV.under, AV.under1]) (by simp [Ob.below, AV.under1]) ?_
      simp [renF, frameH, setAll, w1]
      refine aCallF_of [0] (Uint_ok l (at' + 1) _ _ hn hb (by omega) (by omega) (by omega)) rfl (by simp [renF]) (by simp) (by simp [framed, renF]) (by simp [AV.under, AV.under1]) (by simp [Ob.below, AV.under1]) ?_
      simp [renF, frameH, setAll, w1]
      rw [zigBack z1, unzig_zig]
      refine aCallW_of rfl rfl (Int_spec i) ?_
      simp
      refine gives_norm ?_
      exact gives_ids [0] (by simp [renF, AV.norm]) rfl (by simp) (by simp [framed, renF]; try omega) (by simp [AV.under, AV.under1]) (by simp [Ob.below, AV.under1])
    · have hp : putB (.mk 2 0 b [] []) = [2, if b then 1 else 0] := by simp [putB]
      rw [hp] at hd hall ⊢
      have hd1 : l.drop (at' + 1) = (if b then 1 else 0) :: rest := drop_next hd
      simp at hall
      refine aCallF_of [0] (Byte_ok l at' 2 _ hd (by omega)) rfl (by simp [renF]) (by simp) (by simp [framed, renF]) (by simp [AV.under, AV.under1]) (by simp [Ob.below, AV.under1]) ?_
      simp [renF, frameH, setAll, w2]
      cases b with
      | true =>
        refine aCallF_of [0] (Byte_ok l (at' + 1) 1 _ hd1 (by omega)) rfl (by simp [renF]) (by simp) (by simp [framed, renF]) (by simp [AV.under, AV.under1]) (by simp [Ob.below, AV.under1]) ?_
        simp [renF, frameH, setAll, w2]
        refine aCallW_of rfl rfl (Bool_spec true) ?_
        simp
        refine gives_norm ?_
        exact gives_ids [0] (by simp [renF, AV.norm]) rfl (by simp) (by simp [framed, renF]; try omega) (by simp [AV.under, AV.under1]) (by simp [Ob.below, AV.under1])
      | false =>
        refine aCallF_of [0] (Byte_ok l (at' + 1) 0 _ hd1 (by omega)) rfl (by simp [renF]) (by simp) (by simp [framed, renF]) (by simp [AV.under, AV.under1]) (by simp [Ob.below, AV.under1]) ?_
        simp [renF, frameH, setAll, w2]
        refine aCallW_of rfl rfl (Bool_spec false) ?_
        simp
        refine gives_norm ?_
        exact gives_ids [0] (by simp [renF, AV.norm]) rfl (by simp) (by simp [framed, renF]; try omega) (by simp [AV.under, AV.under1]) (by simp [Ob.below, AV.under1])
    · have hp : putB (.mk 3 0 false s []) = 3 :: (numB s.length ++ s.map UInt8.toNat) := by simp [putB]
      rw [hp] at hd hall ⊢
      have hd1 : l.drop (at' + 1) = numB s.length ++ (s.map UInt8.toNat ++ rest) := by rw [drop_next hd]; simp
      simp at hall
      refine aCallF_of [0] (Byte_ok l at' 3 _ hd (by omega)) rfl (by simp [renF]) (by simp) (by simp [framed, renF]) (by simp [AV.under, AV.under1]) (by simp [Ob.below, AV.under1]) ?_
      simp [renF, frameH, setAll, w3]
      have htx := wireText_spec 255 (by omega) (l.drop (at' + 1)) (fun c h => hb c (List.mem_of_mem_drop h)) (by simp; omega)
      have hnp : numP 0 0 (l.drop (at' + 1)) = .ok (s.length, (numB s.length).length) := by
        rw [hd1, numP_numB s.length 0 0 _ (by omega) (by omega)]; simp
      have htp : textP 255 (l.drop (at' + 1)) = .ok (s.map UInt8.toNat, (numB s.length).length + s.length) := by
        unfold textP
        rw [hnp]
        simp only
        rw [if_neg (by omega), if_neg (by rw [hd1]; simp), hd1]
        congr 2
        simp
      rw [htp] at htx
      simp only [textRes, back_str] at htx
      have hf := field_string_ok l (at' + 1) ((numB s.length).length + s.length) wire_text_1_i [.imm [.int .u64 255] 0] (.str s) (by simpa using htx) (by omega) (by omega) (by omega)
      refine aCallW_of rfl rfl (wireTextF_spec 255) ?_
      simp
      refine aCallF_of [0] (hf) rfl (by simp [renF]) (by simp) (by simp [framed, renF]) (by simp [AV.under, AV.under1]) (by simp [Ob.below, AV.under1]) ?_
      simp [renF, frameH, setAll, w3]
      refine aCallW_of rfl rfl (Str_spec s) ?_
      simp
      refine gives_norm ?_
      exact gives_ids [0] (by simp [renF, AV.norm]) rfl (by simp) (by simp [framed, renF]; try omega) (by simp [AV.under, AV.under1]) (by simp [Ob.below, AV.under1])
    · have hp : putB (.mk 4 0 false [] t) = 4 :: t.length :: putBs t := by simp [putB]
      rw [hp] at hd hall ⊢
      have hd1 : l.drop (at' + 1) = t.length :: (putBs t ++ rest) := drop_next hd
      have hd2 := drop_next hd1
      have hlen := row_len hrow
      have wt : IntKind.i64.wrap (t.length : Int) = (t.length : Int) := IntWalk.i64_in _ (by omega)
      simp at hall
      refine aCallF_of [0] (Byte_ok l at' 4 _ hd (by omega)) rfl (by simp [renF]) (by simp) (by simp [framed, renF]) (by simp [AV.under, AV.under1]) (by simp [Ob.below, AV.under1]) ?_
      simp [renF, frameH, setAll, w4]
      refine aCallF_of [0] (Byte_ok l (at' + 1) t.length _ hd1 (by omega)) rfl (by simp [renF]) (by simp) (by simp [framed, renF]) (by simp [AV.under, AV.under1]) (by simp [Ob.below, AV.under1]) ?_
      simp [renF, frameH, setAll, w4, wt]
      have hrw := row_spec t.length d
      rw [hrow] at hrw
      refine aCallW_of rfl rfl hrw ?_
      simp
      refine aCallF_of [0] (Fail_spec l (at' + 1 + 1) 0 0) rfl (by simp [renF]) (by simp) (by simp [framed, renF]) (by simp [AV.under, AV.under1]) (by simp [Ob.below, AV.under1]) ?_
      simp [renF, frameH, setAll, w4]
      simp [wire_Reader_value_J1]
      refine loop_by (σ := Nat × Nat) (n := 4) (fun q => [.p (.int .i64 q.1)]) (fun q => rD l q.2 0 ++ [.box [.p (.int .i64 0), .p (.int .i64 0), .p (.bool false), .p (.str []), .full []], .box [.p (.int .i64 4), .p (.int .i64 0), .p (.bool false), .p (.str []), .own 3 ((t.take q.1).map encV)], .row q.1 5])
        (fun q => q.1 ≤ t.length ∧ l.drop q.2 = putBs (t.drop q.1) ++ rest ∧ q.2 + (putBs (t.drop q.1)).length = at' + 2 + (putBs t).length) (fun q => t.length - q.1) [.cell 2 4 5] (0, at' + 2) (fun _ => rfl) (by simp [ghosts, ghost]; omega) ⟨by simp, by simpa using hd2, by simp⟩ (fun q B hq hB => ?_)
      obtain ⟨j, a⟩ := q
      obtain ⟨g1, g2, g3⟩ := hq
      simp only at g1 g2 g3
      simp [wire_Reader_value_L1, wt]
      refine ⟨fun hlt => ?_, fun hge => ?_⟩
      · have hm : t[j] ∈ t := by simp
        have e1 := putBs_drop t j hlt
        rw [e1] at g2 g3
        simp at g3
        have hd3 : d ≤ 50 := by
          unfold rowE at hrow
          repeat' split at hrow
          all_goals omega
        have hrec := value_ok t[j] (d + 1) l a (putBs (t.drop (j + 1)) ++ rest) (checkVs_zero.1 hck _ hm) (ho _ hm) hb hl (by rw [g2]; simp) (by omega)
        have wd : IntKind.i64.wrap (d + 1) = d + 1 := IntWalk.i64_in _ (by omega)
        have wj : IntKind.i64.wrap ((j : Int) + 1) = (j : Int) + 1 := IntWalk.i64_in _ (by omega)
        have hB2 := hB (j + 1, a + (putB t[j]).length)
        have tk : List.take (j + 1) (List.map encV t) = List.take j (List.map encV t) ++ [encV t[j]] := by
          rw [List.take_succ_eq_append_getElem (by simpa using hlt)]; simp
        have g2' : l.drop a = putB t[j] ++ (putBs (t.drop (j + 1)) ++ rest) := by rw [g2]; simp
        rw [wd]
        simp only [encV_eta] at hrec
        constructor
        · refine aCallF_of [0] hrec rfl (by simp [renF]) (by simp) (by simp [framed, renF]) (by simp [AV.under, AV.under1]) (by simp [Ob.below, AV.under1]) ?_
          simp [renF, frameH, setAll, wj]
          refine ⟨by omega, ⟨fun e he => encV_size t e (List.mem_of_mem_take he), by simp, by simp; omega⟩, ?_⟩
          refine hB2 _ ⟨by simp only; omega, by simp only; exact drop_app g2', by simp only; omega⟩ (by simp only; omega) ?_ ?_ ?_ (by simp [AV.under, AV.under1])
          · simp [tk]
          · simp [Ob.below, AV.under1]
          · simp
        · refine aCallF_of [0] hrec rfl (by simp [renF]) (by simp) (by simp [framed, renF]) (by simp [AV.under, AV.under1]) (by simp [Ob.below, AV.under1]) ?_
          simp [renF, frameH, setAll, wj]
          refine ⟨by omega, ⟨fun e he => encV_size t e (List.mem_of_mem_take he), by simp, by simp; omega⟩, ?_⟩
          refine hB2 _ ⟨by simp only; omega, by simp only; exact drop_app g2', by simp only; omega⟩ (by simp only; omega) ?_ ?_ ?_ (by simp [AV.under, AV.under1])
          · simp [tk]
          · simp [Ob.below, AV.under1]
          · simp
      · have hj : j = t.length := by omega
        subst hj
        simp [putBs] at g3
        rw [List.take_of_length_le (by simp)]
        refine gives_norm ?_
        exact gives_ids [0] (by simp [renF, AV.norm]) rfl (by simp) (by simp [framed, renF]; omega) (by simp [AV.under, AV.under1]) (by simp [Ob.below, AV.under1])
termination_by v => SizeOf.sizeOf v
decreasing_by
  have := List.sizeOf_lt_of_mem hm
  simp
  omega


theorem puts_cut : ∀ (t : List Va) (m : Nat), m < (putBs t).length → ∃ (j mj : Nat) (h : j < t.length), mj < (putB t[j]).length ∧ (putBs t).take m = putBs (t.take j) ++ (putB t[j]).take mj
  | [], m, h => by simp [putBs] at h
  | v :: r, m, h => by
    by_cases hm : m < (putB v).length
    · exact ⟨0, m, by simp, hm, by simp [putBs, List.take_append_of_le_length (Nat.le_of_lt hm)]⟩
    · simp [putBs] at h
      obtain ⟨j, mj, hj, h1, h2⟩ := puts_cut r (m - (putB v).length) (by omega)
      refine ⟨j + 1, mj, by simp; omega, h1, ?_⟩
      simp only [putBs, List.take_succ_cons, List.getElem_cons_succ, List.append_assoc]
      rw [← h2, List.take_append, List.take_of_length_le (by omega)]

theorem putBs_split (t : List Va) (j0 j : Nat) (hj : j < j0) (h0 : j0 ≤ t.length) : putBs ((t.take j0).drop j) = putB (t[j]'(by omega)) ++ putBs ((t.take j0).drop (j + 1)) := by
  have := putBs_drop (t.take j0) j (by simp; omega)
  rw [this]
  simp

set_option maxHeartbeats 4000000 in
theorem value_er : ∀ (v : Va) (d : Int) (l : List Nat) (at' m : Nat) (_ : checkV v d = 0) (_ : V64 v) (_ : ∀ c ∈ l, c < 256) (_ : l.length ≤ 100000000) (_ : l.drop at' = (putB v).take m) (_ : m < (putB v).length) (_ : at' ≤ l.length) (_ : 0 ≤ d ∧ d ≤ 100),
    ∃ (r : Va) (a : Nat), Abs.Fn Tryd.prog wire_Reader_value_i (rD l at' 0) [.bptr 0 0, .p (.int .i64 d)] (.p (encV r)) (rD l a 3)
  | .mk k i b s t, d, l, at', m, hc, hi, hb, hl, hd, hm, hat, hdd => by
    cases hi with
    | mk _ _ _ _ _ hr ho =>
    have z1 := zig_lt hr
    have w0 : IntKind.i64.wrap 0 = 0 := by rfl
    have w1 : IntKind.i64.wrap 1 = 1 := by rfl
    have w2 : IntKind.i64.wrap 2 = 2 := by rfl
    have w3 : IntKind.i64.wrap 3 = 3 := by rfl
    have w4 : IntKind.i64.wrap 4 = 4 := by rfl
    by_cases hm0 : m = 0
    · subst hm0
      refine ⟨zeroV, at', ?_⟩
      apply wire_Reader_value_fnH
      simp [wire_Reader_value]
      rw [List.take_zero] at hd
      refine aCallF_of [0] (Byte_er l at' hd hat (by omega)) rfl (by simp [renF]) (by simp) (by simp [framed, renF]) (by simp [AV.under, AV.under1]) (by simp [Ob.below, AV.under1]) ?_
      simp [renF, frameH, setAll, w0]
      refine aCallF_of [0] (Fail_spec l at' 3 5) rfl (by simp [renF]) (by simp) (by simp [framed, renF]) (by simp [AV.under, AV.under1]) (by simp [Ob.below, AV.under1]) ?_
      simp [renF, frameH, setAll]
      refine gives_norm ?_
      exact gives_ids [0] (by simp [renF, AV.norm]) rfl (by simp) (by simp [framed, renF]; try omega) (by simp [AV.under, AV.under1]) (by simp [Ob.below, AV.under1])
    obtain ⟨m, rfl⟩ : ∃ n, m = n + 1 := ⟨m - 1, by omega⟩
    rcases good_cases hc with ⟨rfl, rfl, rfl, rfl⟩ | ⟨rfl, rfl, rfl, rfl⟩ | ⟨rfl, rfl, rfl, rfl, hsl⟩ | ⟨rfl, rfl, rfl, rfl, hrow, hck⟩
    · have hp : putB (.mk 1 i false [] []) = 1 :: numB (zig i) := by simp [putB]
      rw [hp] at hd hm
      rw [List.take_succ_cons] at hd
      have hd1 := drop_next hd
      have hlt := drop_le hd (by simp)
      simp at hm hlt
      have hn : numP 0 0 (l.drop (at' + 1)) = .er 3 := by
        rw [hd1]; exact numP_cut (zig i) 0 0 m (by omega) hm
      refine ⟨intV 0, at' + 1, ?_⟩
      apply wire_Reader_value_fnH
      simp [wire_Reader_value]
      refine aCallF_of [0] (Byte_ok l at' 1 _ hd (by omega)) rfl (by simp [renF]) (by simp) (by simp [framed, renF]) (by simp [AV.under, AV.under1]) (by simp [Ob.below, AV.under1]) ?_
      simp [renF, frameH, setAll, w1]
      refine aCallF_of [0] (Uint_er l (at' + 1) 3 hn hb (by omega) (by omega) (by omega)) rfl (by simp [renF]) (by simp) (by simp [framed, renF]) (by simp [AV.under, AV.under1]) (by simp [Ob.below, AV.under1]) ?_
      simp [renF, frameH, setAll, w1]
      have hzz : IntKind.i64.wrap ↑((IntKind.i64.wrap 0 % 2 ^ IntKind.i64.bits).toNat ^^^ (IntKind.i64.wrap (-IntKind.i64.wrap (IntKind.u64.wrap 0)) % 2 ^ IntKind.i64.bits).toNat) = 0 := by rfl
      rw [hzz]
      refine aCallW_of rfl rfl (Int_spec 0) ?_
      simp
      refine gives_norm ?_
      exact gives_ids [0] (by simp [renF, AV.norm]) rfl (by simp) (by simp [framed, renF]; try omega) (by simp [AV.under, AV.under1]) (by simp [Ob.below, AV.under1])
    · have hp : putB (.mk 2 0 b [] []) = [2, if b then 1 else 0] := by simp [putB]
      rw [hp] at hd hm
      simp at hm
      have : m = 0 := by omega
      subst this
      rw [List.take_succ_cons] at hd
      have hd1 := drop_next hd
      have hlt := drop_le hd (by simp)
      simp at hlt
      simp only [List.take_zero] at hd1
      refine ⟨boolV false, at' + 1, ?_⟩
      apply wire_Reader_value_fnH
      simp [wire_Reader_value]
      refine aCallF_of [0] (Byte_ok l at' 2 _ hd (by omega)) rfl (by simp [renF]) (by simp) (by simp [framed, renF]) (by simp [AV.under, AV.under1]) (by simp [Ob.below, AV.under1]) ?_
      simp [renF, frameH, setAll, w2]
      refine aCallF_of [0] (Byte_er l (at' + 1) hd1 (by omega) (by omega)) rfl (by simp [renF]) (by simp) (by simp [framed, renF]) (by simp [AV.under, AV.under1]) (by simp [Ob.below, AV.under1]) ?_
      simp [renF, frameH, setAll, w2]
      refine aCallW_of rfl rfl (Bool_spec false) ?_
      simp
      refine gives_norm ?_
      exact gives_ids [0] (by simp [renF, AV.norm]) rfl (by simp) (by simp [framed, renF]; try omega) (by simp [AV.under, AV.under1]) (by simp [Ob.below, AV.under1])
    · have hp : putB (.mk 3 0 false s []) = 3 :: (numB s.length ++ s.map UInt8.toNat) := by simp [putB]
      rw [hp] at hd hm
      rw [List.take_succ_cons] at hd
      have hd1 := drop_next hd
      have hlt := drop_le hd (by simp)
      simp at hm
      simp only [List.length_cons] at hlt
      have htx := wireText_spec 255 (by omega) (l.drop (at' + 1)) (fun c h => hb c (List.mem_of_mem_drop h)) (by simp; omega)
      have htp : textP 255 (l.drop (at' + 1)) = .er 3 := by
        unfold textP
        rw [hd1]
        by_cases hcut : m < (numB s.length).length
        · rw [List.take_append_of_le_length (by omega), numP_cut s.length 0 0 m (by omega) hcut]
        · rw [List.take_append, List.take_of_length_le (by omega), numP_numB s.length 0 0 _ (by omega) (by omega)]
          simp only
          rw [if_neg (by simp; omega), if_pos (by simp; omega)]
      rw [htp] at htx
      simp only [textRes] at htx
      have hf := field_string_er l (at' + 1) 3 wire_text_1_i [.imm [.int .u64 255] 0] (.str []) (by simpa using htx) (by omega) (by omega) (by omega)
      refine ⟨.mk 3 0 false [] [], at' + 1, ?_⟩
      apply wire_Reader_value_fnH
      simp [wire_Reader_value]
      refine aCallF_of [0] (Byte_ok l at' 3 _ hd (by omega)) rfl (by simp [renF]) (by simp) (by simp [framed, renF]) (by simp [AV.under, AV.under1]) (by simp [Ob.below, AV.under1]) ?_
      simp [renF, frameH, setAll, w3]
      refine aCallW_of rfl rfl (wireTextF_spec 255) ?_
      simp
      refine aCallF_of [0] (hf) rfl (by simp [renF]) (by simp) (by simp [framed, renF]) (by simp [AV.under, AV.under1]) (by simp [Ob.below, AV.under1]) ?_
      simp [renF, frameH, setAll]
      refine aCallW_of rfl rfl (Str_spec []) ?_
      simp
      refine gives_norm ?_
      exact gives_ids [0] (by simp [renF, AV.norm]) rfl (by simp) (by simp [framed, renF]; try omega) (by simp [AV.under, AV.under1]) (by simp [Ob.below, AV.under1])
    · have hp : putB (.mk 4 0 false [] t) = 4 :: t.length :: putBs t := by simp [putB]
      rw [hp] at hd hm
      rw [List.take_succ_cons] at hd
      have hd1 := drop_next hd
      have hlt := drop_le hd (by simp)
      have hlen := row_len hrow
      have wt : IntKind.i64.wrap (t.length : Int) = (t.length : Int) := IntWalk.i64_in _ (by omega)
      simp at hm
      simp only [List.length_cons] at hlt
      by_cases hm1 : m = 0
      · subst hm1
        rw [List.take_zero] at hd1
        refine ⟨.mk 4 0 false [] [], at' + 1, ?_⟩
        apply wire_Reader_value_fnH
        simp [wire_Reader_value]
        refine aCallF_of [0] (Byte_ok l at' 4 _ hd (by omega)) rfl (by simp [renF]) (by simp) (by simp [framed, renF]) (by simp [AV.under, AV.under1]) (by simp [Ob.below, AV.under1]) ?_
        simp [renF, frameH, setAll, w4]
        refine aCallF_of [0] (Byte_er l (at' + 1) hd1 (by omega) (by omega)) rfl (by simp [renF]) (by simp) (by simp [framed, renF]) (by simp [AV.under, AV.under1]) (by simp [Ob.below, AV.under1]) ?_
        simp [renF, frameH, setAll, w4, w0]
        simp [wire_Reader_value_J1]
        refine loop_by (σ := Nat) (n := 3) (fun i => [.p (.int .i64 i)]) (fun _ => rD l (at' + 1) 3 ++ [.box [.p (.int .i64 0), .p (.int .i64 0), .p (.bool false), .p (.str []), .full []], .box [.p (.int .i64 4), .p (.int .i64 0), .p (.bool false), .p (.str []), .full []]]) (fun i => i = 0) (fun i => 0) [] 0 (fun _ => rfl) (by simp [ghosts]) rfl (fun q B hq hB => ?_)
        subst hq
        simp [wire_Reader_value_L1]
        refine gives_norm ?_
        exact gives_ids [0] (by simp [renF, AV.norm]) rfl (by simp) (by simp [framed, renF]; try omega) (by simp [AV.under, AV.under1]) (by simp [Ob.below, AV.under1])
      · obtain ⟨m, rfl⟩ : ∃ n, m = n + 1 := ⟨m - 1, by omega⟩
        rw [List.take_succ_cons] at hd1
        have hd2 := drop_next hd1
        have hlt1 := drop_le hd1 (by simp)
        simp only [List.length_cons] at hlt1
        obtain ⟨j0, mj, hj0, h1, h2⟩ := puts_cut t m (by omega)
        have hm' : t[j0] ∈ t := List.getElem_mem _
        have hd3 : d ≤ 50 := by
          unfold rowE at hrow
          repeat' split at hrow
          all_goals omega
        rw [h2] at hd2
        have hda : l.drop (at' + 1 + 1 + (putBs (t.take j0)).length) = (putB t[j0]).take mj := drop_app hd2
        have hle : at' + 1 + 1 + (putBs (t.take j0)).length ≤ l.length := by
          have := congrArg List.length hd2
          simp at this
          omega
        obtain ⟨r', a', hrec⟩ := value_er t[j0] (d + 1) l (at' + 1 + 1 + (putBs (t.take j0)).length) mj (checkVs_zero.1 hck _ hm') (ho _ hm') hb hl hda h1 hle (by omega)
        refine ⟨.mk 4 0 false [] (t.take j0 ++ [r']), a', ?_⟩
        apply wire_Reader_value_fnH
        simp [wire_Reader_value]
        refine aCallF_of [0] (Byte_ok l at' 4 _ hd (by omega)) rfl (by simp [renF]) (by simp) (by simp [framed, renF]) (by simp [AV.under, AV.under1]) (by simp [Ob.below, AV.under1]) ?_
        simp [renF, frameH, setAll, w4]
        refine aCallF_of [0] (Byte_ok l (at' + 1) t.length _ hd1 (by omega)) rfl (by simp [renF]) (by simp) (by simp [framed, renF]) (by simp [AV.under, AV.under1]) (by simp [Ob.below, AV.under1]) ?_
        simp [renF, frameH, setAll, w4, wt]
        have hrw := row_spec t.length d
        rw [hrow] at hrw
        refine aCallW_of rfl rfl hrw ?_
        simp
        refine aCallF_of [0] (Fail_spec l (at' + 1 + 1) 0 0) rfl (by simp [renF]) (by simp) (by simp [framed, renF]) (by simp [AV.under, AV.under1]) (by simp [Ob.below, AV.under1]) ?_
        simp [renF, frameH, setAll]
        simp [wire_Reader_value_J1]
        refine loop_by (σ := Nat × Nat × Int × List Va) (n := 4) (fun q => [.p (.int .i64 q.1)]) (fun q => rD l q.2.1 q.2.2.1 ++ [.box [.p (.int .i64 0), .p (.int .i64 0), .p (.bool false), .p (.str []), .full []], .box [.p (.int .i64 4), .p (.int .i64 0), .p (.bool false), .p (.str []), .own 3 (q.2.2.2.map encV)], .row q.2.2.2.length 5])
          (fun q => (q.2.2.1 = 0 ∧ q.1 ≤ j0 ∧ q.2.2.2 = t.take q.1 ∧ l.drop q.2.1 = putBs ((t.take j0).drop q.1) ++ (putB t[j0]).take mj ∧ q.2.1 + (putBs ((t.take j0).drop q.1)).length = at' + 1 + 1 + (putBs (t.take j0)).length) ∨ (q.2.2.1 = 3 ∧ q.1 = j0 + 1 ∧ q.2.2.2 = t.take j0 ++ [r'] ∧ q.2.1 = a')) (fun q => t.length - q.1) [.cell 2 4 5] (0, at' + 2, 0, []) (fun _ => rfl) (by simp [ghosts, ghost]; omega) (.inl ⟨rfl, by simp, by simp, by simpa using hd2, by simp⟩) (fun q B hq hB => ?_)
        obtain ⟨j, a, e, ts⟩ := q
        simp only at hq
        simp [wire_Reader_value_L1, wt]
        have wd : IntKind.i64.wrap (d + 1) = d + 1 := IntWalk.i64_in _ (by omega)
        rw [wd]
        rcases hq with ⟨rfl, q1, rfl, q3, q4⟩ | ⟨rfl, rfl, rfl, rfl⟩
        · refine ⟨fun hjt _ => ?_, fun hx => absurd rfl (hx (by omega))⟩
          have wj : IntKind.i64.wrap ((j : Int) + 1) = (j : Int) + 1 := IntWalk.i64_in _ (by omega)
          have hlts : min j t.length = j := by omega
          have hltl : (t.take j).length = j := by simp; omega
          have hlt2 : min (j + 1) t.length = j + 1 := by omega
          by_cases hj : j = j0
          · subst hj
            have e0 : (t.take j).drop j = [] := by simp
            rw [e0] at q3 q4
            simp only [putBs, List.nil_append, List.length_nil, Nat.add_zero] at q3 q4
            subst q4
            simp only [encV_eta] at hrec
            have tk : True := trivial
            constructor
            · refine aCallF_of [0] hrec rfl (by simp [renF]) (by simp) (by simp [framed, renF]) (by simp [AV.under, AV.under1]) (by simp [Ob.below, AV.under1]) ?_
              simp [renF, frameH, setAll, wj]
              refine ⟨⟨fun e he => encV_size t e (List.mem_of_mem_take he), by simp, by simp; omega⟩, ?_⟩
              refine hB (j + 1, a', 3, t.take j ++ [r']) _ (.inr ⟨rfl, rfl, rfl, rfl⟩) (by simp only; omega) ?_ ?_ ?_ (by simp [AV.under, AV.under1])
              · simp [tk, hlts, hlt2]
              · simp [Ob.below, AV.under1]
              · simp
            · refine aCallF_of [0] hrec rfl (by simp [renF]) (by simp) (by simp [framed, renF]) (by simp [AV.under, AV.under1]) (by simp [Ob.below, AV.under1]) ?_
              simp [renF, frameH, setAll, wj]
              refine ⟨⟨fun e he => encV_size t e (List.mem_of_mem_take he), by simp, by simp; omega⟩, ?_⟩
              refine hB (j + 1, a', 3, t.take j ++ [r']) _ (.inr ⟨rfl, rfl, rfl, rfl⟩) (by simp only; omega) ?_ ?_ ?_ (by simp [AV.under, AV.under1])
              · simp [tk, hlts, hlt2]
              · simp [Ob.below, AV.under1]
              · simp
          · have hj' : j < j0 := by omega
            have hsp := putBs_split t j0 j hj' (by omega)
            rw [hsp] at q3 q4
            have hmj : t[j] ∈ t := List.getElem_mem _
            have hok := value_ok t[j] (d + 1) l a (putBs ((t.take j0).drop (j + 1)) ++ (putB t[j0]).take mj) (checkVs_zero.1 hck _ hmj) (ho _ hmj) hb hl (by rw [q3]; simp) (by omega)
            have hda2 : l.drop (a + (putB t[j]).length) = putBs ((t.take j0).drop (j + 1)) ++ (putB t[j0]).take mj := drop_app (by rw [q3]; simp)
            simp only [encV_eta] at hok
            simp only [List.length_append] at q4
            have tk : List.take (j + 1) (List.map encV t) = List.take j (List.map encV t) ++ [encV t[j]] := by
              rw [List.take_succ_eq_append_getElem (by simpa using hjt)]; simp
            constructor
            · refine aCallF_of [0] hok rfl (by simp [renF]) (by simp) (by simp [framed, renF]) (by simp [AV.under, AV.under1]) (by simp [Ob.below, AV.under1]) ?_
              simp [renF, frameH, setAll, wj]
              refine ⟨⟨fun e he => encV_size t e (List.mem_of_mem_take he), by simp, by simp; omega⟩, ?_⟩
              refine hB (j + 1, a + (putB t[j]).length, 0, t.take (j + 1)) _ (.inl ⟨rfl, by simp only; omega, rfl, hda2, by simp only; omega⟩) (by simp only; omega) ?_ ?_ ?_ (by simp [AV.under, AV.under1])
              · simp [tk, hlts, hlt2]
              · simp [Ob.below, AV.under1]
              · simp
            · refine aCallF_of [0] hok rfl (by simp [renF]) (by simp) (by simp [framed, renF]) (by simp [AV.under, AV.under1]) (by simp [Ob.below, AV.under1]) ?_
              simp [renF, frameH, setAll, wj]
              refine ⟨⟨fun e he => encV_size t e (List.mem_of_mem_take he), by simp, by simp; omega⟩, ?_⟩
              refine hB (j + 1, a + (putB t[j]).length, 0, t.take (j + 1)) _ (.inl ⟨rfl, by simp only; omega, rfl, hda2, by simp only; omega⟩) (by simp only; omega) ?_ ?_ ?_ (by simp [AV.under, AV.under1])
              · simp [tk, hlts, hlt2]
              · simp [Ob.below, AV.under1]
              · simp
        · refine ⟨fun _ h => absurd h (by decide), fun _ => ?_⟩
          refine gives_norm ?_
          exact gives_ids [0] (by simp [renF, AV.norm]) rfl (by simp) (by simp [framed, renF]) (by simp [AV.under, AV.under1]) (by simp [Ob.below, AV.under1])
termination_by v => SizeOf.sizeOf v
decreasing_by
  have := List.sizeOf_lt_of_mem hm'
  simp
  omega

end Go.Proofs.YtgfnodmghaghpaaDoor
