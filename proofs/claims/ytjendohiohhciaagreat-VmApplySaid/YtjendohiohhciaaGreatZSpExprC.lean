/- What the package expr answers, over trees. -/
import Derived.Test.YtjendohiohhciaaGreatZSpExprB
import Derived.Test.YtjendohiohhciaaGreatZPuType
set_option linter.unusedSimpArgs false
set_option linter.unusedVariables false
namespace Go.Proofs.YtjendohiohhciaaGreat
open Go Go.Abs

attribute [local irreducible] Abs.Fn

def encSh (s : Sh) : T := .agg [.int .i64 s.least, .int .i64 s.most, .slice (s.of.map (.int .i64)), .bool s.alike, .int .i64 s.out]
def encSp (p : List UInt8 × Sh) : T := .agg [.str p.1, .int .i64 p.2.least, .int .i64 p.2.most, .slice (p.2.of.map (.int .i64)), .bool p.2.alike, .int .i64 p.2.out]
def findS (o : Option Sh) : AV :=
  match o with
  | some s => .tup [.p (encSh s), .p (.bool true)]
  | none => .tup [.p (encSh noSh), .p (.bool false)]

def fieldsS (s : Sh) (op : List UInt8) (v : Va) (n : Int) (m : Nat) : Bool := decide (s.least ≤ m) && decide ((m : Int) ≤ s.most) && (decide (op = oLit) || nilV v) && (decide (op = oAt) || decide (n = 0))

theorem fieldsS_eq {op : List UInt8} {s : Sh} (hs : lookS op shL = some s) (v : Va) (n : Int) (m : Nat) : fieldsE op v n m = fieldsS s op v n m ∧ (fieldsS s op v n m = true → ArOk' s m) := by
  have key : (if arE op = -1 then decide (1 ≤ m ∧ m ≤ 8) else decide ((m : Int) = arE op)) = (decide (s.least ≤ m) && decide ((m : Int) ≤ s.most)) := by
    rcases lookS_cases op with ⟨h, _⟩ | ⟨rfl, h⟩ | ⟨rfl, h⟩ | ⟨rfl, h⟩ | ⟨rfl, h⟩ | ⟨rfl, h⟩ | ⟨rfl, h⟩ | ⟨rfl, h⟩ | ⟨hop', h⟩ | ⟨hop', h⟩ | ⟨hop', h⟩ | ⟨rfl, h⟩ | ⟨rfl, h⟩ <;> rw [hs] at h
    · simp at h
    case inr.inr.inr.inr.inr.inr.inr.inr.inl =>
      simp at h; subst h
      rcases hop' with rfl | rfl | rfl | rfl | rfl <;> (simp [arE, numSh]; grind)
    case inr.inr.inr.inr.inr.inr.inr.inr.inr.inl =>
      simp at h; subst h
      rcases hop' with rfl | rfl <;> (simp [arE, askSh]; grind)
    case inr.inr.inr.inr.inr.inr.inr.inr.inr.inr.inl =>
      simp at h; subst h
      rcases hop' with rfl | rfl <;> (simp [arE, bothSh]; grind)
    all_goals
      simp at h
      subst h
      simp [arE, noSh]
      try grind
  constructor
  · rw [fieldsE_eq, key]
    simp only [fieldsS]
    generalize (decide (s.least ≤ m) && decide ((m : Int) ≤ s.most)) = x
    generalize (decide (op = oLit) || nilV v) = y
    generalize (decide (op = oAt) || decide (n = 0)) = z
    cases x <;> cases y <;> cases z <;> rfl
  · intro h
    simp only [fieldsS, Bool.and_eq_true, decide_eq_true_eq] at h
    exact ⟨h.1.1.1, h.1.1.2⟩

theorem sh_of {op : List UInt8} {s : Sh} (hs : lookS op shL = some s) : (s.of.length : Int) ≤ s.least ∧ (s.alike = true → 2 ≤ s.least) ∧ (op = oAt → s.least = 1) ∧ (op = oIf → s.least = 3) ∧ arE op ≠ -2 ∧ ((op = oLit ∨ op = oX) → s.most = 0 ∧ s = noSh) := by
  rcases lookS_cases op with ⟨h, _⟩ | ⟨rfl, h⟩ | ⟨rfl, h⟩ | ⟨rfl, h⟩ | ⟨rfl, h⟩ | ⟨rfl, h⟩ | ⟨rfl, h⟩ | ⟨rfl, h⟩ | ⟨hop', h⟩ | ⟨hop', h⟩ | ⟨hop', h⟩ | ⟨rfl, h⟩ | ⟨rfl, h⟩ <;> rw [hs] at h
  · simp at h
  case inr.inr.inr.inr.inr.inr.inr.inr.inl =>
    simp at h; subst h
    rcases hop' with rfl | rfl | rfl | rfl | rfl <;> simp [arE, numSh]
  case inr.inr.inr.inr.inr.inr.inr.inr.inr.inl =>
    simp at h; subst h
    rcases hop' with rfl | rfl <;> simp [arE, askSh]
  case inr.inr.inr.inr.inr.inr.inr.inr.inr.inr.inl =>
    simp at h; subst h
    rcases hop' with rfl | rfl <;> simp [arE, bothSh]
  all_goals
    simp at h
    subst h
    simp [arE, noSh]

/-- What the program's check answers: of what the table has, and what it has not. -/
theorem ckE_sh (op : List UInt8) (v : Va) (n : Int) (a : List Ex) (t : Ty) (d : Int) (ht : checkT t 0 = 0) : ckE (.mk op v n a) t d = match lookS op shL with
    | none => .er 6
    | some s => if 12 < d then .er 9 else if fieldsS s op v n a.length = false then .er 1
      else if op = oLit ∧ checkV v 0 ≠ 0 then .er (checkV v 0)
      else match ckL a t (d + 1) with
        | .er e => .er e
        | .ok l => if fitsS s l = false then .er 5 else if op = oLit then .ok (typeOfV v) else if op = oX then .ok t else comesE op n s.out l := by
  rw [ckE_unfold]
  cases hs : lookS op shL with
  | none =>
    rcases lookS_cases op with ⟨_, h⟩ | h | h | h | h | h | h | h | h | h | h | h | h
    · rw [if_pos h]
    all_goals (rw [h.2] at hs; simp at hs)
  | some s =>
    obtain ⟨h1, h2, h3, h4, h5, h6⟩ := sh_of hs
    obtain ⟨f1, f2⟩ := fieldsS_eq hs v n a.length
    rw [if_neg h5, f1]
    simp only
    split
    · rfl
    split
    · rfl
    rename_i hf
    have ha := f2 (by simpa using hf)
    by_cases hlit : op = oLit
    · obtain ⟨m0, rfl⟩ := h6 (.inl hlit)
      have ha0 : a = [] := by
        have := ha.2
        rw [m0] at this
        exact List.eq_nil_of_length_eq_zero (by omega)
      subst ha0
      rw [if_pos hlit]
      by_cases hc : checkV v 0 = 0
      · simp [hlit, hc, ckL, fitsS, noSh, fitsK, typeOfV]
      · simp [hlit, hc]
    · rw [if_neg hlit, if_neg (show ¬ (op = oLit ∧ checkV v 0 ≠ 0) from fun h => hlit h.1)]
      by_cases hX : op = oX
      · obtain ⟨m0, rfl⟩ := h6 (.inr hX)
        have ha0 : a = [] := by
          have := ha.2
          rw [m0] at this
          exact List.eq_nil_of_length_eq_zero (by omega)
        subst ha0
        rw [if_pos hX]
        simp [hX, ckL, fitsS, noSh, fitsK]
      · rw [if_neg hX]
        cases hl : ckL a t (d + 1) with
        | er e => rfl
        | ok l =>
          simp only
          rw [opT_sh hs n l ⟨hlit, hX⟩ (by rw [ckL_length a t (d + 1) l hl]; exact ha) (ckL_valid a t (d + 1) l hl ht), if_neg hlit, if_neg hX]

theorem checkT_of {t : Ty} (h : checkT t 0 = 0) : t.of.length ≤ 8 := by
  obtain ⟨k, of⟩ := t
  simp only [checkT] at h
  simp
  unfold rowE at h
  split at h
  · split at h
    · rename_i h0; simp [h0]
    · simp at h
  split at h
  · grind
  · simp at h

end Go.Proofs.YtjendohiohhciaaGreat
