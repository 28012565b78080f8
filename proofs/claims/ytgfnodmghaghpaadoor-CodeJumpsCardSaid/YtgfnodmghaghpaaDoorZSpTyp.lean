/- What the functions of the package typ answer, over trees: Row, word, check, Check. -/
import Derived.Test.YtgfnodmghaghpaaDoorS1
import Derived.Test.YtgfnodmghaghpaaDoorZSpLib
namespace Go.Proofs.YtgfnodmghaghpaaDoor
open Go Go.Abs

inductive Ty where
  | mk (k : Int) (of : List Ty)

mutual
def encT : Ty → T
  | .mk k of => .agg [.int .i64 k, .slice (encTs of)]
def encTs : List Ty → List T
  | [] => []
  | t :: r => encT t :: encTs r
end

theorem encTs_eq (l : List Ty) : encTs l = l.map encT := by induction l <;> simp_all [encTs]
@[simp] theorem encT_mk (k : Int) (of : List Ty) : encT (.mk k of) = .agg [.int .i64 k, .slice (of.map encT)] := by simp [encT, encTs_eq]
theorem encT_agg (t : Ty) : ∃ a b, encT t = .agg [a, b] := by obtain ⟨k, of⟩ := t; exact ⟨_, _, encT_mk k of⟩
@[simp] theorem encT_cells (t : Ty) : (encT t).cells.length = 2 := by obtain ⟨k, of⟩ := t; simp

def rowE (n d : Int) : Int := if n = 0 then 1 else if n > 8 then 10 else if d > 4 then 9 else 0

theorem row_spec (n d : Int) : Abs.Fn Tryd.prog typ_Row_i [] [.p (.int .i64 n), .p (.int .i64 d)] (.p (.int .i64 (rowE n d))) [] := by
  apply typ_Row_fn
  simp [typ_Row]
  grind [gives_p, rowE]

def wordS (k : Int) : List UInt8 := if k = 1 then [105, 110, 116] else if k = 2 then [98, 111, 111, 108] else if k = 3 then [116, 101, 120, 116] else []

mutual
def checkT : Ty → Int → Int
  | .mk k of, d => if k = 1 ∨ k = 2 ∨ k = 3 then (if of = [] then 0 else 5) else if k = 4 then (if rowE of.length d ≠ 0 then rowE of.length d else checkTs of (d + 1)) else 5
def checkTs : List Ty → Int → Int
  | [], _ => 0
  | t :: r, d => if checkT t d ≠ 0 then checkT t d else checkTs r d
end

theorem checkTs_eq (d : Int) : ∀ l : List Ty, checkTs l d = firstE (fun t => checkT t d) l
  | [] => rfl
  | t :: r => by simp [firstE, checkTs, checkTs_eq d r]

end Go.Proofs.YtgfnodmghaghpaaDoor
