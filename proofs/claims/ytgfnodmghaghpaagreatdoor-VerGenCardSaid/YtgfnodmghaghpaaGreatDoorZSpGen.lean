/- The package gen over trees: join, choice, each. -/
import Derived.Test.YtgfnodmghaghpaaGreatDoorZSpDec

set_option linter.unusedSimpArgs false
set_option linter.unusedVariables false
namespace Go.Proofs.YtgfnodmghaghpaaGreatDoor
open Go Go.Abs

attribute [local irreducible] Abs.Fn

/-- An instruction. -/
inductive In where
  | mk (op : List UInt8) (v : Va) (n : Int)
def In.op : In → List UInt8
  | .mk o _ _ => o
def In.v : In → Va
  | .mk _ v _ => v
def In.n : In → Int
  | .mk _ _ n => n
@[simp] theorem In.op_mk {o : List UInt8} {v : Va} {n : Int} : (In.mk o v n).op = o := rfl
@[simp] theorem In.v_mk {o : List UInt8} {v : Va} {n : Int} : (In.mk o v n).v = v := rfl
@[simp] theorem In.n_mk {o : List UInt8} {v : Va} {n : Int} : (In.mk o v n).n = n := rfl

def encI (x : In) : T := .agg [.str x.op, .int .i64 x.v.k, .int .i64 x.v.i, .bool x.v.b, .str x.v.s, .slice (x.v.t.map encV), .int .i64 x.n]
theorem encI_eta {x : In} : encI x = .agg [.str x.op, .int .i64 x.v.k, .int .i64 x.v.i, .bool x.v.b, .str x.v.s, .slice (x.v.t.map encV), .int .i64 x.n] := rfl
@[simp] theorem encI_cells (x : In) : (encI x).cells.length = 7 := rfl
def encPr (p : List In) : T := .slice (p.map encI)

def oJmp : List UInt8 := [106, 109, 112]
def oJf : List UInt8 := [106, 102]
def jumpI (x : In) : Prop := x.op = oJmp ∨ x.op = oJf
instance (x : In) : Decidable (jumpI x) := inferInstanceAs (Decidable (_ ∨ _))

/-- An instruction that stands so much further behind. -/
def mvI (b : Int) (x : In) : In := if jumpI x then .mk x.op x.v (x.n + b) else x

def joinI (l : List (List In)) : List In := l.foldl (fun out p => out ++ p.map (mvI out.length)) []

theorem joinI_snoc (l : List (List In)) (p : List In) : joinI (l ++ [p]) = joinI l ++ p.map (mvI (joinI l).length) := by simp [joinI]
theorem joinI_acc (l : List (List In)) : ∀ acc : List In, (l.foldl (fun out p => out ++ p.map (mvI out.length)) acc).length = acc.length + (l.map List.length).sum := by
  induction l with
  | nil => intro acc; simp
  | cons p l ih => intro acc; simp [ih]; omega
theorem joinI_length (l : List (List In)) : (joinI l).length = (l.map List.length).sum := by simp [joinI, joinI_acc]
/-- Do the jumps' numbers stay small? -/
def smallI (x : In) : Prop := jumpI x → 0 ≤ x.n ∧ x.n ≤ 1000000000000

theorem mvI_cells (b : Int) (x : In) : encI (mvI b x) = if jumpI x then .agg [.str x.op, .int .i64 x.v.k, .int .i64 x.v.i, .bool x.v.b, .str x.v.s, .slice (x.v.t.map encV), .int .i64 (x.n + b)] else encI x := by
  unfold mvI
  split <;> rfl

def oneI (op : List UInt8) (n : Int) : In := .mk op zeroV n
def pushI (v : Va) : In := .mk [112, 117, 115, 104] v 0

/-- One of two: jumps that stand where they are to. -/
def choiceI (a b c : List In) : List In :=
  a ++ oneI oJf ((a.length : Int) + 1 + b.length + 1) :: (b.map (mvI (a.length + 1)) ++ oneI oJmp (a.length + b.length + c.length + 2) :: c.map (mvI (a.length + 1 + b.length + 1)))

theorem mvI_zero (x : In) : mvI 0 x = x := by
  unfold mvI
  split
  · obtain ⟨o, v, n⟩ := x; simp
  · rfl

end Go.Proofs.YtgfnodmghaghpaaGreatDoor

