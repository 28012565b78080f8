/- Values in bytes. No program in sight. -/
import Derived.Test.YtgfnodmghaghpaaDoorZPuEval
set_option linter.unusedSimpArgs false
set_option linter.unusedVariables false
namespace Go.Proofs.YtgfnodmghaghpaaDoor
open Go Go.Abs

/-- A number in bytes. -/
def numB (n : Nat) : List Nat := if n < 128 then [n] else (n % 128 + 128) :: numB (n / 128)
termination_by n
decreasing_by omega

theorem numB_lt (n : Nat) : ∀ c ∈ numB n, c < 256 := by
  induction n using Nat.strongRecOn with
  | _ n ih =>
    intro c hc
    rw [numB] at hc
    split at hc
    · simp at hc; omega
    · rcases List.mem_cons.1 hc with rfl | hc
      · omega
      · exact ih (n / 128) (by omega) c hc

theorem numB_pos (n : Nat) : 0 < (numB n).length := by rw [numB]; split <;> simp

theorem numB_len : ∀ (k n : Nat), n < 128 ^ (k + 1) → (numB n).length ≤ k + 1
  | 0, n, h => by rw [numB, if_pos (by simpa using h)]; simp
  | k + 1, n, h => by
    rw [numB]
    split
    · simp
    · have := numB_len k (n / 128) (by
        rw [Nat.pow_succ 128 (k + 1)] at h
        exact Nat.div_lt_of_lt_mul (by rw [Nat.mul_comm]; exact h))
      simp
      omega

theorem numB_len64 {n : Nat} (h : n < 18446744073709551616) : (numB n).length ≤ 10 := numB_len 9 n (by omega)

/-- A number out of bytes. -/
def numP : Nat → Nat → List Nat → R (Nat × Nat)
  | _, _, [] => .er 3
  | i, acc, c :: r => if i = 9 ∧ 1 < c then .er 2 else if 128 ≤ c then numP (i + 1) (acc + c % 128 * 128 ^ i) r else if c = 0 ∧ 0 < i then .er 2 else .ok (acc + c % 128 * 128 ^ i, i + 1)

theorem pow9 : 128 ^ 9 = 9223372036854775808 := by decide

theorem numB_step {n i : Nat} (h : n * 128 ^ i < 18446744073709551616) (hn : 128 ≤ n) : i < 9 ∧ (n / 128) * 128 ^ (i + 1) < 18446744073709551616 ∧ 0 < n / 128 := by
  refine ⟨?_, ?_, by omega⟩
  · apply Classical.byContradiction
    intro hi
    have h9 : 128 ^ 9 ≤ 128 ^ i := Nat.pow_le_pow_right (by omega) (by omega)
    have : 128 * 128 ^ 9 ≤ n * 128 ^ i := Nat.mul_le_mul hn h9
    rw [pow9] at this
    omega
  · have : n / 128 * 128 ^ (i + 1) ≤ n * 128 ^ i := by
      rw [Nat.pow_succ, Nat.mul_comm (128 ^ i), ← Nat.mul_assoc]
      exact Nat.mul_le_mul_right _ (Nat.div_mul_le_self n 128)
    omega

theorem numB_last {n i : Nat} (h : n * 128 ^ i < 18446744073709551616) : ¬ (i = 9 ∧ 1 < n) := by
  rintro ⟨rfl, h1⟩
  rw [pow9] at h
  omega

theorem numP_numB (n : Nat) : ∀ (i acc : Nat) (r : List Nat), n * 128 ^ i < 18446744073709551616 → (0 < i → 0 < n) → numP i acc (numB n ++ r) = .ok (acc + n * 128 ^ i, i + (numB n).length) := by
  induction n using Nat.strongRecOn with
  | _ n ih =>
    intro i acc r h hp
    rw [numB]
    split
    · rename_i hn
      have h9 := numB_last h
      simp only [List.cons_append, List.nil_append, numP, if_neg h9, if_neg (show ¬ 128 ≤ n by omega), if_neg (show ¬ (n = 0 ∧ 0 < i) from fun q => by have := hp q.2; omega), Nat.mod_eq_of_lt hn]
      rfl
    · rename_i hn
      obtain ⟨h1, h2, h3⟩ := numB_step h (by omega)
      have hm : (n % 128 + 128) % 128 = n % 128 := by omega
      simp only [List.cons_append, numP, if_neg (show ¬ (i = 9 ∧ 1 < n % 128 + 128) by omega), if_pos (show 128 ≤ n % 128 + 128 by omega), hm]
      rw [ih (n / 128) (by omega) (i + 1) _ r h2 (fun _ => h3)]
      have he : n % 128 * 128 ^ i + n / 128 * 128 ^ (i + 1) = n * 128 ^ i := by
        rw [Nat.pow_succ, Nat.mul_comm (128 ^ i), ← Nat.mul_assoc, ← Nat.add_mul]
        congr 1
        omega
      simp only [List.length_cons, R.ok.injEq, Prod.mk.injEq]
      omega

theorem numP_cut (n : Nat) : ∀ (i acc m : Nat), n * 128 ^ i < 18446744073709551616 → m < (numB n).length → numP i acc ((numB n).take m) = .er 3 := by
  induction n using Nat.strongRecOn with
  | _ n ih =>
    intro i acc m h hm
    rw [numB] at hm ⊢
    split at hm
    · rename_i hn
      have : m = 0 := by simpa using hm
      subst this
      simp [hn, numP]
    · rename_i hn
      rw [if_neg hn]
      obtain ⟨h1, h2, h3⟩ := numB_step h (by omega)
      cases m with
      | zero => simp [numP]
      | succ m =>
        have h9 : ¬ (i = 9 ∧ 1 < n % 128 + 128) := by omega
        simp only [List.take_succ_cons, numP, if_neg h9, if_pos (show 128 ≤ n % 128 + 128 by omega)]
        exact ih (n / 128) (by omega) (i + 1) _ m h2 (by simpa using hm)

theorem numB_front {n m : Nat} {r r' : List Nat} (hn : n < 18446744073709551616) (hm : m < 18446744073709551616) (h : numB n ++ r = numB m ++ r') : n = m ∧ r = r' := by
  have e1 := numP_numB n 0 0 r (by omega) (by omega)
  have e2 := numP_numB m 0 0 r' (by omega) (by omega)
  rw [h, e2] at e1
  simp at e1
  have : n = m := by omega
  subst this
  exact ⟨rfl, List.append_cancel_left h⟩

/-- A number with a sign as one without. -/
def zig (i : Int) : Nat := if 0 ≤ i then (2 * i).toNat else (-2 * i - 1).toNat
def unzig (n : Nat) : Int := if n % 2 = 0 then (n / 2 : Nat) else -((n / 2 : Nat) : Int) - 1
theorem unzig_zig (i : Int) : unzig (zig i) = i := by unfold unzig zig; split <;> split <;> omega
theorem zig_lt {i : Int} (h : -9223372036854775808 ≤ i ∧ i ≤ 9223372036854775807) : zig i < 18446744073709551616 := by unfold zig; split <;> omega
theorem zig_inj {i j : Int} (h : zig i = zig j) : i = j := by rw [← unzig_zig i, h, unzig_zig]

mutual
/-- A value in bytes. -/
def putB : Va → List Nat
  | .mk k i b s t => if k = 1 then 1 :: numB (zig i) else if k = 2 then [2, if b then 1 else 0] else if k = 3 then 3 :: (numB s.length ++ s.map UInt8.toNat) else 4 :: t.length :: putBs t
def putBs : List Va → List Nat
  | [] => []
  | v :: r => putB v ++ putBs r
end

/-- Numbers within 64 bits. -/
inductive V64 : Va → Prop where
  | mk (k i : Int) (b : Bool) (s : List UInt8) (t : List Va) (h : -9223372036854775808 ≤ i ∧ i ≤ 9223372036854775807) (ho : ∀ v ∈ t, V64 v) : V64 (.mk k i b s t)

theorem map_toNat_inj {s s' : List UInt8} (h : s.map UInt8.toNat = s'.map UInt8.toNat) : s = s' :=
  (List.map_inj_right (fun x y h => UInt8.toNat_inj.1 h)).1 h

theorem row_len {n : Nat} {d : Int} (h : rowE n d = 0) : 1 ≤ n ∧ n ≤ 8 := by
  unfold rowE at h
  repeat' split at h
  all_goals omega

mutual
/-- No value's bytes are another's front. -/
theorem put_front : ∀ (a b : Va) (d d' : Int) (r r' : List Nat), checkV a d = 0 → checkV b d' = 0 → V64 a → V64 b → putB a ++ r = putB b ++ r' → a = b ∧ r = r'
  | .mk k i b s t, .mk k' i' b' s' t', d, d', r, r', h, h', hi, hi', he => by
    cases hi with
    | mk _ _ _ _ _ hr ho =>
    cases hi' with
    | mk _ _ _ _ _ hr' ho' =>
    have z1 := zig_lt hr
    have z2 := zig_lt hr'
    rcases good_cases h with ⟨rfl, rfl, rfl, rfl⟩ | ⟨rfl, rfl, rfl, rfl⟩ | ⟨rfl, rfl, rfl, rfl, hl⟩ | ⟨rfl, rfl, rfl, rfl, hrow, hc⟩ <;>
    rcases good_cases h' with ⟨rfl, rfl, rfl, rfl⟩ | ⟨rfl, rfl, rfl, rfl⟩ | ⟨rfl, rfl, rfl, rfl, hl'⟩ | ⟨rfl, rfl, rfl, rfl, hrow', hc'⟩
    all_goals try (exfalso; simp [putB] at he; done)
    · simp [putB] at he
      obtain ⟨e1, e2⟩ := numB_front z1 z2 he
      exact ⟨by rw [zig_inj e1], e2⟩
    · simp [putB] at he
      obtain ⟨e1, e2⟩ := he
      refine ⟨?_, e2⟩
      cases b <;> cases b' <;> simp_all
    · simp [putB] at he
      obtain ⟨e1, e2⟩ := numB_front (by omega) (by omega) he
      obtain ⟨e3, e4⟩ := List.append_inj e2 (by simpa using e1)
      exact ⟨by rw [map_toNat_inj e3], e4⟩
    · simp [putB] at he
      obtain ⟨e1, e2⟩ := he
      obtain ⟨e3, e4⟩ := puts_front t t' _ _ r r' hc hc' ho ho' e1 e2
      exact ⟨by rw [e3], e4⟩
theorem puts_front : ∀ (a b : List Va) (d d' : Int) (r r' : List Nat), checkVs a d = 0 → checkVs b d' = 0 → (∀ v ∈ a, V64 v) → (∀ v ∈ b, V64 v) → a.length = b.length → putBs a ++ r = putBs b ++ r' → a = b ∧ r = r'
  | [], [], d, d', r, r', h, h', hi, hi', hl, he => by simpa [putBs] using he
  | [], _ :: _, d, d', r, r', h, h', hi, hi', hl, he => by simp at hl
  | _ :: _, [], d, d', r, r', h, h', hi, hi', hl, he => by simp at hl
  | x :: a, y :: b, d, d', r, r', h, h', hi, hi', hl, he => by
    have c1 := checkVs_zero.1 h
    have c2 := checkVs_zero.1 h'
    simp only [putBs, List.append_assoc] at he
    obtain ⟨e1, e2⟩ := put_front x y d d' _ _ (c1 x (by simp)) (c2 y (by simp)) (hi x (by simp)) (hi' y (by simp)) he
    obtain ⟨e3, e4⟩ := puts_front a b d d' r r' (checkVs_zero.2 fun v hv => c1 v (by simp [hv])) (checkVs_zero.2 fun v hv => c2 v (by simp [hv])) (fun v hv => hi v (by simp [hv])) (fun v hv => hi' v (by simp [hv])) (by simpa using hl) e2
    exact ⟨by rw [e1, e3], e4⟩
end

mutual
theorem putB_lt : ∀ (v : Va) (d : Int), checkV v d = 0 → ∀ c ∈ putB v, c < 256
  | .mk k i b s t, d, h => by
    intro c hc
    rcases good_cases h with ⟨rfl, rfl, rfl, rfl⟩ | ⟨rfl, rfl, rfl, rfl⟩ | ⟨rfl, rfl, rfl, rfl, hl⟩ | ⟨rfl, rfl, rfl, rfl, hrow, hck⟩
    · simp [putB] at hc
      rcases hc with rfl | hc
      · omega
      · exact numB_lt _ c hc
    · simp [putB] at hc
      rcases hc with rfl | hc
      · omega
      · subst hc; split <;> omega
    · simp [putB] at hc
      rcases hc with rfl | hc | ⟨x, _, rfl⟩
      · omega
      · exact numB_lt _ c hc
      · exact x.toNat_lt
    · have := row_len hrow
      simp [putB] at hc
      rcases hc with rfl | rfl | hc
      · omega
      · omega
      · exact putBs_lt t _ hck c hc
theorem putBs_lt : ∀ (l : List Va) (d : Int), checkVs l d = 0 → ∀ c ∈ putBs l, c < 256
  | [], d, h => by simp [putBs]
  | v :: r, d, h => by
    have c1 := checkVs_zero.1 h
    intro c hc
    simp only [putBs, List.mem_append] at hc
    rcases hc with hc | hc
    · exact putB_lt v d (c1 v (by simp)) c hc
    · exact putBs_lt r d (checkVs_zero.2 fun v hv => c1 v (by simp [hv])) c hc
end

theorem putB_pos (v : Va) : 2 ≤ (putB v).length := by
  obtain ⟨k, i, b, s, t⟩ := v
  unfold putB
  repeat' split
  all_goals simp
  all_goals first
    | exact numB_pos _
    | (have := numB_pos s.length; omega)

end Go.Proofs.YtgfnodmghaghpaaDoor
