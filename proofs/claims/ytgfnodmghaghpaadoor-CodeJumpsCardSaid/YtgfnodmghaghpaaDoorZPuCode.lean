/- Programs in bytes and in words. No program of the dump in sight. -/
import Derived.Test.YtgfnodmghaghpaaDoorZSpCodeC
import Derived.Test.YtgfnodmghaghpaaDoorZPuWire
import Derived.Test.YtgfnodmghaghpaaDoorZPuText
set_option linter.unusedSimpArgs false
set_option linter.unusedVariables false
namespace Go.Proofs.YtgfnodmghaghpaaDoor
open Go Go.Abs

def opN (op : List UInt8) : Nat := (placeF op 0 formsL).toNat
def instB (x : In) : List Nat := (opN x.op + 1) :: (if formOf x.op = 1 then putB x.v else if formOf x.op = 2 then numB x.n.toNat else [])
def instBs : List In → List Nat
  | [] => []
  | x :: r => instB x ++ instBs r
def codeB (p : List In) : List Nat := numB p.length ++ instBs p

/-- What an instruction that is written out has. -/
structure OkI (x : In) : Prop where
  op : x.op ∈ opsAll
  val : formOf x.op = 1 → checkV x.v 0 = 0 ∧ V64 x.v ∧ RgV x.v ∧ Wv 1000000 x.v ∧ (textV x.v).length ≤ 1000000
  noval : formOf x.op ≠ 1 → x.v = zeroV
  num : formOf x.op = 2 → 0 ≤ x.n ∧ x.n ≤ 2147483647
  nonum : formOf x.op ≠ 2 → x.n = 0

def textI (i : Nat) (x : In) : List UInt8 := Lib.itoa i ++ [32] ++ x.op ++ (if formOf x.op = 1 then 32 :: textV x.v else if formOf x.op = 2 then 32 :: Lib.itoa x.n else [])
def textIs (p : List In) : List (List UInt8) := p.zipIdx.map fun q => textI q.2 q.1

theorem opN_lt {op : List UInt8} (h : op ∈ opsAll) : opN op < 19 ∧ placeF op 0 formsL = opN op ∧ formsL[opN op]? = some (op, formOf op) := by
  obtain ⟨k, h1, h2, h3⟩ := place_in h
  have : opN op = k := by rw [opN, h1]; omega
  rw [this]
  exact ⟨h2, h1, h3⟩

theorem instB_pos (x : In) : 0 < (instB x).length := by simp [instB]
theorem instBs_drop (p : List In) (i : Nat) (h : i < p.length) : instBs (p.drop i) = instB p[i] ++ instBs (p.drop (i + 1)) := by rw [List.drop_eq_getElem_cons h, instBs]

theorem instB_lt {x : In} (h : OkI x) : ∀ c ∈ instB x, c < 256 := by
  intro c hc
  have := (opN_lt h.op).1
  simp only [instB, List.mem_cons] at hc
  rcases hc with rfl | hc
  · omega
  · split at hc
    · rename_i h1; exact putB_lt x.v 0 (h.val h1).1 c hc
    · split at hc
      · exact numB_lt _ c hc
      · simp at hc
theorem instBs_lt : ∀ {p : List In}, (∀ x ∈ p, OkI x) → ∀ c ∈ instBs p, c < 256
  | [], _, c, hc => by simp [instBs] at hc
  | x :: r, h, c, hc => by
    rw [instBs, List.mem_append] at hc
    rcases hc with hc | hc
    · exact instB_lt (h x (by simp)) c hc
    · exact instBs_lt (fun y hy => h y (by simp [hy])) c hc

end Go.Proofs.YtgfnodmghaghpaaDoor
