/- Programs that run: what instructions do. No program in sight. -/
import Derived.Test.YtgfnodmghaghpaaDoorZSpGen
import Derived.Test.YtgfnodmghaghpaaDoorZPuEvalB
set_option linter.unusedSimpArgs false
set_option linter.unusedVariables false
namespace Go.Proofs.YtgfnodmghaghpaaDoor
open Go Go.Abs

abbrev oPush : List UInt8 := [112, 117, 115, 104]
abbrev oEmit' : List UInt8 := [101, 109, 105, 116]
abbrev oRet' : List UInt8 := [114, 101, 116]

/-- How many values an op takes. -/
def arV (op : List UInt8) (n : Int) : Nat := if op = oTup then n.toNat else if op = oAt ∨ op = oNeg ∨ op = oNot ∨ op = oLen then 1 else 2

/-- What an instruction that goes on to the next does: the stack, what it lets out. -/
def doesI (i : In) (x : Va) (s : List Va) : Option (R (List Va × List Va)) :=
  if i.op = oPush then some (.ok (s ++ [i.v], []))
  else if i.op = oX then some (.ok (s ++ [x], []))
  else if i.op = oEmit' then (if 0 ≤ i.n ∧ i.n ≤ s.length then some (.ok (s.take (s.length - i.n.toNat), s.drop (s.length - i.n.toNat))) else none)
  else if arV i.op i.n ≤ s.length ∧ (i.op = oTup → 0 ≤ i.n) then match mkE i.op i.n (s.drop (s.length - arV i.op i.n)) with
    | none => none
    | some (.er f) => some (.er f)
    | some (.ok v) => some (.ok (s.take (s.length - arV i.op i.n) ++ [v], []))
  else none

/-- Does an instruction go on to the next? -/
def plainI (i : In) : Prop := i.op ≠ oRet' ∧ i.op ≠ oJmp ∧ i.op ≠ oJf

/-- A program runs from a place on. -/
inductive RunI (p : List In) (x : Va) : Nat → List Va → List Va → R (List Va) → Prop where
  | fin (s out : List Va) : RunI p x p.length s out (.ok out)
  | ret {at' : Nat} {s out : List Va} {i : In} (h : p[at']? = some i) (hop : i.op = oRet') (hs : s.length ≤ 100000) : RunI p x at' s out (.ok out)
  | jmp {at' to : Nat} {s out : List Va} {i : In} {r : R (List Va)} (h : p[at']? = some i) (hop : i.op = oJmp) (hs : s.length ≤ 100000) (hn : i.n = to) (h1 : at' < to) (h2 : to ≤ p.length) (hr : RunI p x to s out r) : RunI p x at' s out r
  | jft {at' : Nat} {s out : List Va} {v : Va} {i : In} {r : R (List Va)} (h : p[at']? = some i) (hop : i.op = oJf) (hs : s.length ≤ 100000) (hv : v.truth = true) (hr : RunI p x (at' + 1) s out r) : RunI p x at' (s ++ [v]) out r
  | jff {at' to : Nat} {s out : List Va} {v : Va} {i : In} {r : R (List Va)} (h : p[at']? = some i) (hop : i.op = oJf) (hs : s.length ≤ 100000) (hv : v.truth = false) (hn : i.n = to) (h1 : at' < to) (h2 : to ≤ p.length) (hr : RunI p x to s out r) : RunI p x at' (s ++ [v]) out r
  | go {at' : Nat} {s s' out o : List Va} {i : In} {r : R (List Va)} (h : p[at']? = some i) (hop : plainI i) (hs : s.length ≤ 100000) (ho : out.length ≤ 100000) (hw : ∀ v ∈ s, Wv 1000000000 v) (hd : doesI i x s = some (.ok (s', o))) (hr : RunI p x (at' + 1) s' (out ++ o) r) : RunI p x at' s out r
  | er {at' : Nat} {s out : List Va} {i : In} {f : Int} (h : p[at']? = some i) (hop : plainI i) (hs : s.length ≤ 100000) (ho : out.length ≤ 100000) (hw : ∀ v ∈ s, Wv 1000000000 v) (hd : doesI i x s = some (.er f)) : RunI p x at' s out (.er f)

theorem doesI_er {i : In} {x : Va} {s : List Va} {f : Int} (h : doesI i x s = some (.er f)) : f ≠ 0 := by
  unfold doesI at h
  repeat' split at h
  all_goals first
    | (simp at h; done)
    | (rename_i hm; simp at h; subst h; exact mkE_er hm)

end Go.Proofs.YtgfnodmghaghpaaDoor
