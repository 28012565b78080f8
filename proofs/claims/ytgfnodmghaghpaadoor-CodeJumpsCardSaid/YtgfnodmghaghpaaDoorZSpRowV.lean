/- Arguments that are values, types, expressions: which trees they are. -/
import Derived.Test.YtgfnodmghaghpaaDoorA3
import Derived.Test.YtgfnodmghaghpaaDoorZSpDec
set_option linter.unusedVariables false
namespace Go.Proofs.YtgfnodmghaghpaaDoor
open Go Go.Abs

theorem i64_wf {m : Int} (h : (Lit.int .i64 m).wf = true) : -9223372036854775808 ≤ m ∧ m ≤ 9223372036854775807 := by
  simpa [Lit.wf, IntKind.min, IntKind.max, IntKind.signed, IntKind.bits] using h
theorem i8_wf {m : Int} (h : (Lit.int .i8 m).wf = true) : -128 ≤ m ∧ m ≤ 127 := by
  simpa [Lit.wf, IntKind.min, IntKind.max, IntKind.signed, IntKind.bits] using h
theorem u16_wf {m : Int} (h : (Lit.int .u16 m).wf = true) : 0 ≤ m ∧ m ≤ 65535 := by
  simpa [Lit.wf, IntKind.min, IntKind.max, IntKind.signed, IntKind.bits] using h
theorem u64_wf {m : Int} (h : (Lit.int .u64 m).wf = true) : 0 ≤ m ∧ m ≤ 18446744073709551615 := by
  simpa [Lit.wf, IntKind.min, IntKind.max, IntKind.signed, IntKind.bits] using h

def I64 (n : Int) : Prop := -9223372036854775808 ≤ n ∧ n ≤ 9223372036854775807

/-- All numbers are of 64 bits, all texts and rows not longer than may be. -/
inductive RgV : Va → Prop where
  | mk (k i : Int) (b : Bool) (s : List UInt8) (t : List Va) (hk : I64 k) (hi : I64 i) (hs : s.length ≤ maxLen) (ht : t.length ≤ maxLen) (ho : ∀ v ∈ t, RgV v) : RgV (.mk k i b s t)
inductive RgT : Ty → Prop where
  | mk (k : Int) (l : List Ty) (hk : I64 k) (hl : l.length ≤ maxLen) (ho : ∀ t ∈ l, RgT t) : RgT (.mk k l)
inductive RgE : Ex → Prop where
  | mk (op : List UInt8) (v : Va) (n : Int) (a : List Ex) (hop : op.length ≤ maxLen) (hv : RgV v) (hn : I64 n) (ha : a.length ≤ maxLen) (ho : ∀ e ∈ a, RgE e) : RgE (.mk op v n a)

/-- A row of trees, one by one. -/
theorem rows_of {α : Type} {p : List T → Prop} {enc : α → T} {f : List T → T} {q : α → Prop} : ∀ es : List (List T), (∀ x ∈ es, p x) → (∀ x, p x → ∃ a, f x = enc a ∧ q a) → ∃ l : List α, es.map f = l.map enc ∧ l.length = es.length ∧ ∀ a ∈ l, q a
  | [], _, _ => ⟨[], rfl, rfl, by simp⟩
  | x :: r, h, g => by
    obtain ⟨a, h1, h2⟩ := g x (h x (by simp))
    obtain ⟨l, h3, h4, h5⟩ := rows_of r (fun y hy => h y (by simp [hy])) g
    exact ⟨a :: l, by simp [h1, h3], by simp [h4], by simp; exact ⟨h2, h5⟩⟩

theorem typ_V : ∀ (n : Nat) (cs : List T), Typ Tryd.prog n 28 cs → ∃ v, cs = (encV v).cells ∧ elemT Tryd.prog 28 cs = encV v ∧ RgV v := by
  intro n
  induction n using Nat.strongRecOn with
  | ind n ih =>
    intro cs h
    obtain ⟨m, rfl, he, hs⟩ := typ_struct Tryd.underlying28 h
    obtain ⟨_, _, rfl, h0, _, _, rfl, h1, _, _, rfl, h2, _, _, rfl, h3, _, _, rfl, h4, rfl⟩ := hs
    obtain ⟨k, rfl, _, wk⟩ := typ_int Tryd.underlying3 h0
    obtain ⟨i, rfl, _, wi⟩ := typ_int Tryd.underlying2 h1
    obtain ⟨b, rfl, _⟩ := typ_bool Tryd.underlying4 h2
    obtain ⟨s, rfl, _, ws⟩ := typ_str Tryd.underlying9 h3
    obtain ⟨m', es, rfl, rfl, _, hl, hes⟩ := typ_slice Tryd.underlying26 h4
    obtain ⟨vs, g1, g2, g3⟩ := rows_of (q := RgV) (enc := encV) (f := elemT Tryd.prog 28) es hes (fun x hx => by
      obtain ⟨v, _, h5, h6⟩ := ih m' (by omega) x hx
      exact ⟨v, h5, h6⟩)
    refine ⟨.mk k i b s vs, ?_, ?_, .mk _ _ _ _ _ (i64_wf wk) (i64_wf wi) ws (by omega) g3⟩
    · simp [g1]
    · rw [he]
      simp [g1]

theorem typ_Vs (n : Nat) (cs : List T) (h : Typ Tryd.prog n 26 cs) : ∃ vs : List Va, elemT Tryd.prog 26 cs = .slice (vs.map encV) ∧ vs.length ≤ maxLen ∧ ∀ v ∈ vs, RgV v := by
  obtain ⟨m', es, rfl, rfl, he, hl, hes⟩ := typ_slice Tryd.underlying26 h
  obtain ⟨vs, g1, g2, g3⟩ := rows_of (q := RgV) (enc := encV) (f := elemT Tryd.prog 28) es hes (fun x hx => by
    obtain ⟨v, _, h5, h6⟩ := typ_V m' x hx
    exact ⟨v, h5, h6⟩)
  exact ⟨vs, by rw [he, g1], by omega, g3⟩

end Go.Proofs.YtgfnodmghaghpaaDoor
