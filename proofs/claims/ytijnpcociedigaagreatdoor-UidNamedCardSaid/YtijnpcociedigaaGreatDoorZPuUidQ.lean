/- Values in words; numbers in words: what they are, how long they may be. -/
import Derived.Test.YtijnpcociedigaaGreatDoorZSpRowNQ
import Derived.Test.YtijnpcociedigaaGreatDoorZSpValBQ
import Derived.Test.YtijnpcociedigaaGreatDoorZJoinLib
import Derived.Lib.ItoaNum

section
/- Values in words; numbers in words: what they are, how long they may be. -/
set_option linter.unusedVariables false
namespace Go.Proofs.YtijnpcociedigaaGreatDoor
open Go Go.Abs

theorem decDigits_len : ∀ (k u : Nat), 0 < k → u < 10 ^ k → (Lib.decDigits u).length ≤ k := by
  intro k
  induction k with
  | zero => omega
  | succ k ih =>
    intro u _ hu
    rw [Lib.decDigits]
    split
    · simp
    · rename_i h
      have hk : 0 < k := by
        rcases Nat.eq_zero_or_pos k with rfl | h2
        · simp at hu; omega
        · exact h2
      have := ih (u / 10) hk (by rw [Nat.pow_succ] at hu; omega)
      simp
      omega

theorem itoa_len {n : Int} (h : I64 n) : (Lib.itoa n).length ≤ 20 := by
  obtain ⟨h0, h1⟩ := h
  unfold Lib.itoa
  split
  · have := decDigits_len 19 n.natAbs (by omega) (by have : (10:Nat)^19 = 10000000000000000000 := by decide
                                                     omega)
    simp
    omega
  · have := decDigits_len 19 n.toNat (by omega) (by have : (10:Nat)^19 = 10000000000000000000 := by decide
                                                    omega)
    omega

end Go.Proofs.YtijnpcociedigaaGreatDoor
end

section
/- Names of nodes. No program in sight. -/
set_option linter.unusedSimpArgs false
set_option linter.unusedVariables false
namespace Go.Proofs.YtijnpcociedigaaGreatDoor
open Go Go.Abs

/-- A text up to the first comma or bracket that it does not open. -/
def cutN : Nat → List UInt8 → List UInt8
  | _, [] => []
  | d, c :: s => if c = 40 then c :: cutN (d + 1) s else if c = 41 then (match d with | 0 => [] | d + 1 => c :: cutN d s) else if c = 44 ∧ d = 0 then [] else c :: cutN d s

theorem cutN_cons (d : Nat) (c : UInt8) (s : List UInt8) : cutN d (c :: s) = if c = 40 then c :: cutN (d + 1) s else if c = 41 then (match d with | 0 => [] | d + 1 => c :: cutN d s) else if c = 44 ∧ d = 0 then [] else c :: cutN d s := by
  rw [cutN.eq_def]

/-- Brackets that are closed, commas within them alone. -/
def Bal (w : List UInt8) : Prop := ∀ d r, cutN d (w ++ r) = w ++ cutN d r
/-- Brackets that are closed; commas anywhere, one bracket open. -/
def BalC (w : List UInt8) : Prop := ∀ d r, cutN (d + 1) (w ++ r) = w ++ cutN (d + 1) r

theorem bal_nil : Bal [] := fun d r => rfl
theorem bal_app {a b : List UInt8} (ha : Bal a) (hb : Bal b) : Bal (a ++ b) := fun d r => by rw [List.append_assoc, ha, hb, List.append_assoc]
theorem balC_app {a b : List UInt8} (ha : BalC a) (hb : BalC b) : BalC (a ++ b) := fun d r => by rw [List.append_assoc, ha, hb, List.append_assoc]
theorem bal_c {w : List UInt8} (h : Bal w) : BalC w := fun d r => h (d + 1) r
theorem balC_comma : BalC [44] := fun d r => by simp [cutN]

def plainB (c : UInt8) : Bool := decide (c ≠ 40) && decide (c ≠ 41) && decide (c ≠ 44)
theorem bal_plain : ∀ (w : List UInt8), (∀ c ∈ w, plainB c = true) → Bal w
  | [], _ => bal_nil
  | c :: w, h => fun d r => by
    have hc := h c (by simp)
    simp only [plainB, Bool.and_eq_true, decide_eq_true_eq] at hc
    obtain ⟨⟨h1, h2⟩, h3⟩ := hc
    have ih := bal_plain w (fun x hx => h x (by simp [hx])) d r
    rw [List.cons_append, cutN_cons, if_neg h1, if_neg h2, if_neg (by simp [h3]), ih]
    rfl

theorem balC_tail : ∀ (l : List (List UInt8)), (∀ w ∈ l, Bal w) → BalC (TJ.tail [44] l)
  | [], _ => fun d r => rfl
  | w :: l, h => by
    have e : TJ.tail [44] (w :: l) = [44] ++ (w ++ TJ.tail [44] l) := by simp [TJ.tail]
    rw [e]
    exact balC_app balC_comma (balC_app (bal_c (h w (by simp))) (balC_tail l (fun x hx => h x (by simp [hx]))))
theorem balC_join (l : List (List UInt8)) (h : ∀ w ∈ l, Bal w) : BalC (TJ.join [44] l) := by
  cases l with
  | nil => exact fun d r => rfl
  | cons w l => exact balC_app (bal_c (h w (by simp))) (balC_tail l (fun x hx => h x (by simp [hx])))

/-- Within brackets. -/
theorem bal_br {w : List UInt8} (h : BalC w) : Bal (40 :: (w ++ [41])) := fun d r => by
  have e := h d (41 :: r)
  simp only [List.cons_append, List.append_assoc, List.nil_append]
  rw [cutN_cons, if_pos rfl, e]
  simp [cutN]

theorem cut_at {w r : List UInt8} (h : Bal w) (c : UInt8) (hc : c = 44 ∨ c = 41) : cutN 0 (w ++ c :: r) = w := by
  rw [h]
  rcases hc with rfl | rfl <;> simp [cutN]

/-- Joined names are read in one way alone. -/
theorem tail_inj : ∀ (a b : List (List UInt8)) (r1 r2 : List UInt8), a.length = b.length → (∀ w ∈ a, Bal w) → (∀ w ∈ b, Bal w) → TJ.tail [44] a ++ 41 :: r1 = TJ.tail [44] b ++ 41 :: r2 → a = b
  | [], [], _, _, _, _, _, _ => rfl
  | x :: a, y :: b, r1, r2, hl, ha, hb, h => by
    have e1 : ∀ (x : List UInt8) (a : List (List UInt8)) r, TJ.tail [44] (x :: a) ++ 41 :: r = 44 :: (x ++ (TJ.tail [44] a ++ 41 :: r)) := fun x a r => by simp [TJ.tail]
    rw [e1, e1] at h
    injection h with _ h
    have hd : ∀ (a : List (List UInt8)) (r : List UInt8), ∃ c q, TJ.tail [44] a ++ 41 :: r = c :: q ∧ (c = 44 ∨ c = 41) := fun a r => by
      cases a with
      | nil => exact ⟨41, r, rfl, .inr rfl⟩
      | cons x a => exact ⟨44, _, e1 x a r, .inl rfl⟩
    obtain ⟨c1, q1, g1, g2⟩ := hd a r1
    obtain ⟨c2, q2, g3, g4⟩ := hd b r2
    have hx : x = y := by
      have k1 := cut_at (r := q1) (ha x (by simp)) c1 g2
      have k2 := cut_at (r := q2) (hb y (by simp)) c2 g4
      rw [← g1] at k1
      rw [← g3] at k2
      rw [h] at k1
      rw [← k1, k2]
    subst hx
    have h := List.append_cancel_left h
    rw [tail_inj a b r1 r2 (by simpa using hl) (fun w hw => ha w (by simp [hw])) (fun w hw => hb w (by simp [hw])) h]

theorem join_inj (a b : List (List UInt8)) (r1 r2 : List UInt8) (hl : a.length = b.length) (ha : ∀ w ∈ a, Bal w) (hb : ∀ w ∈ b, Bal w) (h : TJ.join [44] a ++ 41 :: r1 = TJ.join [44] b ++ 41 :: r2) : a = b := by
  cases a with
  | nil =>
    cases b with
    | nil => rfl
    | cons y b => simp at hl
  | cons x a =>
    cases b with
    | nil => simp at hl
    | cons y b =>
      have e : ∀ (x : List UInt8) (a : List (List UInt8)) r, TJ.tail [44] (x :: a) ++ 41 :: r = 44 :: (TJ.join [44] (x :: a) ++ 41 :: r) := fun x a r => by simp [TJ.tail, TJ.join]
      exact tail_inj (x :: a) (y :: b) r1 r2 hl ha hb (by rw [e, e, h])

end Go.Proofs.YtijnpcociedigaaGreatDoor
end
