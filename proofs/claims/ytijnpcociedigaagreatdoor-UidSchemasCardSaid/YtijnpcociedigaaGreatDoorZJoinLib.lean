/- Plain facts for strings.Join: what it computes over lists of bytes, and what its two loops want of that; the model's entry for MakeNoZero. -/
import Derived.Test.YtijnpcociedigaaGreatDoorS1
import Derived.Lib.Strings
import Derived.Lib.Builder
import Derived.Laws.AppendOwn
import Derived.Laws.Entries
import Derived.Laws.NewFold
namespace Go.Proofs.YtijnpcociedigaaGreatDoor
open Go

/-- Behind the first text: a separator and a text, each time. -/
def TJ.tail (sep : List UInt8) : List (List UInt8) → List UInt8
  | [] => []
  | y :: r => sep ++ y ++ TJ.tail sep r

/-- All texts, a separator between each two. -/
def TJ.join (sep : List UInt8) : List (List UInt8) → List UInt8
  | [] => []
  | x :: r => x ++ TJ.tail sep r

/-- All lengths, added. -/
def TJ.lens : List (List UInt8) → Nat
  | [] => 0
  | x :: r => x.length + TJ.lens r

theorem TJ.join_one (sep x : List UInt8) : TJ.join sep [x] = x := List.append_nil x

theorem TJ.tail_step (sep : List UInt8) : ∀ (r : List (List UInt8)) (k : Nat) (y : List UInt8), r[k]? = some y → TJ.tail sep (r.take (k + 1)) = TJ.tail sep (r.take k) ++ sep ++ y
  | [], _, _, h => by simp at h
  | z :: r, 0, y, h => by simp at h; simp [TJ.tail, h]
  | z :: r, k + 1, y, h => by
    simp only [List.getElem?_cons_succ] at h
    simp only [List.take_succ_cons, TJ.tail, TJ.tail_step sep r k y h, List.append_assoc]

theorem TJ.lens_step : ∀ (r : List (List UInt8)) (k : Nat) (y : List UInt8), r[k]? = some y → TJ.lens (r.take (k + 1)) = TJ.lens (r.take k) + y.length
  | [], _, _, h => by simp at h
  | z :: r, 0, y, h => by simp at h; simp [TJ.lens, h]
  | z :: r, k + 1, y, h => by
    simp only [List.getElem?_cons_succ] at h
    simp only [List.take_succ_cons, TJ.lens, TJ.lens_step r k y h]
    omega

theorem TJ.lens_le : ∀ (r : List (List UInt8)) (k : Nat), TJ.lens (r.take k) ≤ TJ.lens r
  | [], k => by simp
  | z :: r, 0 => by simp [TJ.lens]
  | z :: r, k + 1 => by
    have := TJ.lens_le r k
    simp only [List.take_succ_cons, TJ.lens]
    omega

theorem TJ.tail_le (sep : List UInt8) : ∀ (r : List (List UInt8)) (k : Nat), (TJ.tail sep (r.take k)).length ≤ (TJ.tail sep r).length
  | [], k => by simp
  | z :: r, 0 => by simp [TJ.tail]
  | z :: r, k + 1 => by
    have := TJ.tail_le sep r k
    simp only [List.take_succ_cons, TJ.tail, List.length_append]
    omega

theorem TJ.tail_length (sep : List UInt8) : ∀ r : List (List UInt8), (TJ.tail sep r).length = sep.length * r.length + TJ.lens r
  | [] => by simp [TJ.tail, TJ.lens]
  | z :: r => by
    simp only [TJ.tail, List.length_append, TJ.tail_length sep r, TJ.lens, List.length_cons, Nat.mul_succ]
    omega

theorem TJ.join_length (sep x : List UInt8) (r : List (List UInt8)) : (TJ.join sep (x :: r)).length = sep.length * r.length + TJ.lens (x :: r) := by
  simp only [TJ.join, List.length_append, TJ.tail_length, TJ.lens]
  omega

theorem TJ.digits_size : ∀ (n t : Nat) (a : Array Value), (Extern.BytealgMakeNoZero.digits n t a).size = a.size + n
  | 0, _, _ => rfl
  | n + 1, t, a => by
    simp only [Extern.BytealgMakeNoZero.digits]
    rw [TJ.digits_size n]
    simp only [Array.size_push]
    omega

/-- The entry for MakeNoZero: a new row at the heap's end, its room at least what was asked for. -/
theorem TJ.noZero {P : Program} (w : World) (ps : Array TypeId) (t e : TypeId) (ht : P.underlying t = some (.slice e)) (n : Nat) (hn : n ≤ 281474976710656) :
    ∃ cs : Array Value, (Extern.BytealgMakeNoZero.makeNoZero ps #[t] #[.int .i64 n]).run P w = .ok (.slice (some ⟨w.heap.size, 0, none⟩) n cs.size) (w.drew.drew.alloc (.cells cs e)) ∧ n ≤ cs.size ∧ (n ≤ maxLen → cs.size ≤ maxLen) := by
  have h1 : ¬ (n : Int) < 0 := by omega
  have h2 : ¬ (281474976710656 : Int) < (n : Int) := by omega
  have hsz : ∀ b, (Extern.BytealgMakeNoZero.digits (grownCap w n 0 e) b #[]).size = grownCap w n 0 e := fun b => by rw [TJ.digits_size]; simp
  refine ⟨Extern.BytealgMakeNoZero.digits (grownCap w n 0 e) ((Question.extern "internal/bytealg.MakeNoZero.bytes" 0).cut (w.tape (w.drawn + 1) (.extern "internal/bytealg.MakeNoZero.bytes" 0))) #[], ?_, ?_, fun hm => ?_⟩
  · have hd : Extern.BytealgMakeNoZero.makeNoZero ps #[t] #[.int .i64 n] = (do
        let .slice elem ← underlying t | stuck "bytealg.MakeNoZero: slice type expected"
        if (n : Int) < 0 || (n : Int) > 2 ^ 48 then runtimePanic (.error "makeslice: len out of range")
        let cap ← choose (.appendCap (n : Int).toNat 0 elem)
        askRoom cap
        let bytes ← choose (.extern "internal/bytealg.MakeNoZero.bytes" 0)
        let a ← newRow elem (Extern.BytealgMakeNoZero.digits cap bytes #[])
        pure (.slice (some a) (n : Int).toNat cap)) := rfl
    rw [hd]
    simp [run_underlying ht, h1, h2, Question.forced, newRow, TJ.digits_size, grownCap]
  · rw [hsz]
    simpa using grownCap_ge w n 0 e
  · rw [hsz]
    simpa using grownCap_le_maxLen w n 0 e hm

end Go.Proofs.YtijnpcociedigaaGreatDoor

