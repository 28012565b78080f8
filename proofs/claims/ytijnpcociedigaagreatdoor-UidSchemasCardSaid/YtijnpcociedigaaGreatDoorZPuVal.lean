/- Values as trees: what may be, their types, their order. No program in sight. -/
import Derived.Test.YtijnpcociedigaaGreatDoorZSpRefTQ
set_option linter.unusedSimpArgs false
set_option linter.unusedVariables false
namespace Go.Proofs.YtijnpcociedigaaGreatDoor
open Go Go.Abs

inductive Va where
  | mk (k i : Int) (b : Bool) (s : List UInt8) (t : List Va)

mutual
def encV : Va → T
  | .mk k i b s t => .agg [.int .i64 k, .int .i64 i, .bool b, .str s, .slice (encVs t)]
def encVs : List Va → List T
  | [] => []
  | v :: r => encV v :: encVs r
end

theorem encVs_eq (l : List Va) : encVs l = l.map encV := by induction l <;> simp_all [encVs]
@[simp] theorem encV_mk (k i : Int) (b : Bool) (s : List UInt8) (t : List Va) : encV (.mk k i b s t) = .agg [.int .i64 k, .int .i64 i, .bool b, .str s, .slice (t.map encV)] := by simp [encV, encVs_eq]
theorem encV_agg (v : Va) : ∃ a b c d e, encV v = .agg [a, b, c, d, e] := by obtain ⟨k, i, b, s, t⟩ := v; exact ⟨_, _, _, _, _, encV_mk k i b s t⟩
@[simp] theorem encV_cells (v : Va) : (encV v).cells.length = 5 := by obtain ⟨k, i, b, s, t⟩ := v; simp
def zeroV : Va := .mk 0 0 false [] []
def intV (n : Int) : Va := .mk 1 n false [] []
def boolV (b : Bool) : Va := .mk 2 0 b [] []
def strV (s : List UInt8) : Va := .mk 3 0 false s []
def tupV (l : List Va) : Va := .mk 4 0 false [] l

def spareV : Va → Bool
  | .mk k i b s t => (decide (k ≠ 1) && decide (i ≠ 0)) || (decide (k ≠ 2) && b) || (decide (k ≠ 3) && decide (s ≠ [])) || (decide (k ≠ 4) && decide (0 < t.length))

mutual
def checkV : Va → Int → Int
  | .mk k i b s t, d => if k < 1 ∨ 4 < k then 5 else if spareV (.mk k i b s t) then 2 else if 255 < s.length then 4 else if k ≠ 4 then 0 else if rowE t.length d ≠ 0 then rowE t.length d else checkVs t (d + 1)
def checkVs : List Va → Int → Int
  | [], _ => 0
  | v :: r, d => if checkV v d ≠ 0 then checkV v d else checkVs r d
end

theorem checkVs_eq (d : Int) : ∀ l : List Va, checkVs l d = firstE (fun t => checkV t d) l
  | [] => rfl
  | t :: r => by simp [firstE, checkVs, checkVs_eq d r]

mutual
def kindV : Va → Ty
  | .mk k _ _ _ t => .mk k (kindVs t)
def kindVs : List Va → List Ty
  | [] => []
  | v :: r => kindV v :: kindVs r
end
theorem kindVs_eq (l : List Va) : kindVs l = l.map kindV := by induction l <;> simp_all [kindVs]
@[simp] theorem kindV_mk (k i : Int) (b : Bool) (s : List UInt8) (t : List Va) : kindV (.mk k i b s t) = .mk k (t.map kindV) := by simp [kindV, kindVs_eq]

def typeOfV (v : Va) : Ty := if checkV v 0 = 0 then kindV v else .mk 0 []
/- The order. -/
def cmpI (a b : Int) : Int := if a < b then -1 else if b < a then 1 else 0
def cmpS (a b : List UInt8) : Int := if Op.bytesLess a b then -1 else if a = b then 0 else 1
def truthI (b : Bool) : Int := if b then 1 else 0
def orI : List Int → Int
  | [] => 0
  | c :: r => if c ≠ 0 then c else orI r
mutual
def cmpV : Va → Va → Int
  | .mk k i b s t, .mk k' i' b' s' t' => if orI [cmpI k k', cmpI i i', cmpI (truthI b) (truthI b'), cmpS s s'] ≠ 0 then orI [cmpI k k', cmpI i i', cmpI (truthI b) (truthI b'), cmpS s s'] else cmpVs t t'
def cmpVs : List Va → List Va → Int
  | [], [] => 0
  | [], _ :: _ => -1
  | _ :: _, [] => 1
  | a :: r, b :: q => if cmpV a b ≠ 0 then cmpV a b else cmpVs r q
end

/-- No row of parts is longer than so many, no text either. -/
inductive Wv (n : Nat) : Va → Prop where
  | mk (k i : Int) (b : Bool) (s : List UInt8) (t : List Va) (hs : s.length ≤ n) (h : t.length ≤ n) (ho : ∀ v ∈ t, Wv n v) : Wv n (.mk k i b s t)

theorem Wv.mono {n m : Nat} (hnm : n ≤ m) {v : Va} (h : Wv n v) : Wv m v := by
  induction h with
  | mk k i b s t hs h _ ih => exact .mk k i b s t (by omega) (by omega) ih

end Go.Proofs.YtijnpcociedigaaGreatDoor

