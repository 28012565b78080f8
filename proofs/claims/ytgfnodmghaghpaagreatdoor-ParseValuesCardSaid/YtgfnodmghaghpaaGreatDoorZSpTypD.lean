/- What typ.Text answers, over trees. -/
import Derived.Test.YtgfnodmghaghpaaGreatDoorZSpTyp
import Derived.Test.YtgfnodmghaghpaaGreatDoorZSpJoin
namespace Go.Proofs.YtgfnodmghaghpaaGreatDoor
open Go Go.Abs

theorem TJ.mem_lens {x : List UInt8} : ∀ {l : List (List UInt8)}, x ∈ l → x.length ≤ TJ.lens l
  | y :: r, h => by
    simp only [List.mem_cons] at h
    simp only [TJ.lens]
    rcases h with rfl | h
    · omega
    · have := TJ.mem_lens h; omega

theorem TJ.mem_join {x sep : List UInt8} {l : List (List UInt8)} (h : x ∈ l) : x.length ≤ (TJ.join sep l).length := by
  cases l with
  | nil => simp at h
  | cons y r =>
    rw [TJ.join_length]
    have := TJ.mem_lens h
    omega

theorem TJ.length_join {c : UInt8} {l : List (List UInt8)} : l.length ≤ (TJ.join [c] l).length + 1 := by
  cases l with
  | nil => simp
  | cons y r =>
    rw [TJ.join_length]
    simp only [List.length_cons, List.length_nil]
    omega

mutual
def textT : Ty → List UInt8
  | .mk k of => if k = 4 then 40 :: (TJ.join [44] (textTs of) ++ [41]) else wordS k
def textTs : List Ty → List (List UInt8)
  | [] => []
  | t :: r => textT t :: textTs r
end

theorem textTs_eq (l : List Ty) : textTs l = l.map textT := by induction l <;> simp_all [textTs]

end Go.Proofs.YtgfnodmghaghpaaGreatDoor
