/- The package gen over trees: join, choice, each. -/
import Derived.Test.YtgfnodmghaghpaaGreatDoorZSpDec

set_option linter.unusedSimpArgs false
set_option linter.unusedVariables false
namespace Go.Proofs.YtgfnodmghaghpaaGreatDoor
open Go Go.Abs

/-- A row that is answered, as a tree. -/
theorem fn_freeze {f : FuncId} {args : List AV} {v s n : Nat} {es : List T} (h : Abs.Fn Tryz.prog f [] args (.msl 0 v s 0 n) [.mrow v s es]) (hn : n ≤ es.length) : Abs.Fn Tryz.prog f [] args (.p (.slice (es.take n))) [] := by
  refine ⟨h.1, fun w G vs hi hv => (h.2 w G vs hi hv).mono ?_⟩
  rintro e w' ⟨u, G', rfl, hr, hi', hm⟩
  have g : Gives 0 (.msl 0 v s 0 n) [.mrow v s es] (.p (.slice (es.take n))) [] := gives_freeze (id := 0) rfl (by simp [AV.unm, AV.unm1, hn]; exact gives_pure rfl)
  obtain ⟨G2, i2, r2, m2⟩ := g w' G' u hi' hr
  exact ⟨u, G2, rfl, r2, i2, hm.trans m2⟩

attribute [local irreducible] Abs.Fn

/-- An instruction. -/
inductive In where
  | mk (op : List UInt8) (v : Va) (n : Int)
def In.op : In → List UInt8
  | .mk o _ _ => o
def In.v : In → Va
  | .mk _ v _ => v
def In.n : In → Int
  | .mk _ _ n => n
@[simp] theorem In.op_mk {o : List UInt8} {v : Va} {n : Int} : (In.mk o v n).op = o := rfl
@[simp] theorem In.v_mk {o : List UInt8} {v : Va} {n : Int} : (In.mk o v n).v = v := rfl
@[simp] theorem In.n_mk {o : List UInt8} {v : Va} {n : Int} : (In.mk o v n).n = n := rfl

def encI (x : In) : T := .agg [.str x.op, .int .i64 x.v.k, .int .i64 x.v.i, .bool x.v.b, .str x.v.s, .slice (x.v.t.map encV), .int .i64 x.n]
theorem encI_eta {x : In} : encI x = .agg [.str x.op, .int .i64 x.v.k, .int .i64 x.v.i, .bool x.v.b, .str x.v.s, .slice (x.v.t.map encV), .int .i64 x.n] := rfl
@[simp] theorem encI_cells (x : In) : (encI x).cells.length = 7 := rfl
def encPr (p : List In) : T := .slice (p.map encI)

def oJmp : List UInt8 := [106, 109, 112]
def oJf : List UInt8 := [106, 102]
def jumpI (x : In) : Prop := x.op = oJmp ∨ x.op = oJf
instance (x : In) : Decidable (jumpI x) := inferInstanceAs (Decidable (_ ∨ _))

/-- An instruction that stands so much further behind. -/
def mvI (b : Int) (x : In) : In := if jumpI x then .mk x.op x.v (x.n + b) else x

def joinI (l : List (List In)) : List In := l.foldl (fun out p => out ++ p.map (mvI out.length)) []

theorem joinI_snoc (l : List (List In)) (p : List In) : joinI (l ++ [p]) = joinI l ++ p.map (mvI (joinI l).length) := by simp [joinI]
theorem joinI_acc (l : List (List In)) : ∀ acc : List In, (l.foldl (fun out p => out ++ p.map (mvI out.length)) acc).length = acc.length + (l.map List.length).sum := by
  induction l with
  | nil => intro acc; simp
  | cons p l ih => intro acc; simp [ih]; omega
theorem joinI_length (l : List (List In)) : (joinI l).length = (l.map List.length).sum := by simp [joinI, joinI_acc]
theorem joinI_take_le (l : List (List In)) (i : Nat) : (joinI (l.take i)).length ≤ (joinI l).length := by
  have h : l.map List.length = (l.take i).map List.length ++ (l.drop i).map List.length := by rw [← List.map_append, List.take_append_drop]
  rw [joinI_length, joinI_length, h, List.sum_append]
  omega
theorem joinI_take_succ (l : List (List In)) (i : Nat) (hi : i < l.length) : joinI (l.take (i + 1)) = joinI (l.take i) ++ l[i].map (mvI (joinI (l.take i)).length) := by
  rw [← joinI_snoc, List.take_succ_eq_append_getElem hi]

/-- Do the jumps' numbers stay small? -/
def smallI (x : In) : Prop := jumpI x → 0 ≤ x.n ∧ x.n ≤ 1000000000000

theorem mvI_cells (b : Int) (x : In) : encI (mvI b x) = if jumpI x then .agg [.str x.op, .int .i64 x.v.k, .int .i64 x.v.i, .bool x.v.b, .str x.v.s, .slice (x.v.t.map encV), .int .i64 (x.n + b)] else encI x := by
  unfold mvI
  split <;> rfl

def oneI (op : List UInt8) (n : Int) : In := .mk op zeroV n
def pushI (v : Va) : In := .mk [112, 117, 115, 104] v 0

/-- One of two: jumps that stand where they are to. -/
def choiceI (a b c : List In) : List In :=
  a ++ oneI oJf ((a.length : Int) + 1 + b.length + 1) :: (b.map (mvI (a.length + 1)) ++ oneI oJmp (a.length + b.length + c.length + 2) :: c.map (mvI (a.length + 1 + b.length + 1)))

theorem set_at {α : Type} (X Z : List α) (y y' : α) {n : Nat} (h : n = X.length) : (X ++ y :: Z).set n y' = X ++ y' :: Z := by subst h; simp
theorem get_at {α : Type} (X Z : List α) (y d : α) {n : Nat} (h : n = X.length) : (X ++ y :: Z)[n]?.getD d = y := by subst h; simp

theorem mvI_zero (x : In) : mvI 0 x = x := by
  unfold mvI
  split
  · obtain ⟨o, v, n⟩ := x; simp
  · rfl

end Go.Proofs.YtgfnodmghaghpaaGreatDoor
