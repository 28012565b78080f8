/- The document's programs of expressions, over trees. -/
import Derived.Test.YtcdkdmjedkhpiaaDoorZSpGenB
import Derived.Test.YtcdkdmjedkhpiaaDoorA3
import Derived.Test.YtcdkdmjedkhpiaaDoorZSpEvalC
import Derived.Test.YtcdkdmjedkhpiaaDoorS3
set_option linter.unusedSimpArgs false
set_option linter.unusedVariables false
namespace Go.Proofs.YtcdkdmjedkhpiaaDoor
open Go Go.Abs

/-- An answer without its objects. -/
theorem fn_pure {f : FuncId} {args : List AV} {r r' : AV} {Hn : List Ob} (h : Abs.Fn Tryd.prog f [] args r Hn) (hr : r.pur = some r') : Abs.Fn Tryd.prog f [] args r' [] := by
  refine ⟨h.1, fun w G vs hi hv => (h.2 w G vs hi hv).mono ?_⟩
  rintro e w' ⟨u, G', rfl, hr', hi', hm⟩
  obtain ⟨G2, i2, r2, m2⟩ := gives_pure hr w' G' u hi' hr'
  exact ⟨u, G2, rfl, r2, i2, hm.trans m2⟩

attribute [local irreducible] Abs.Fn

theorem joinI_one (p : List In) : joinI [p] = p := by
  have h0 : p.map (mvI 0) = p := by rw [List.map_congr_left (g := id) (fun x _ => mvI_zero x)]; simp
  simp [joinI, h0]

theorem mvI_one {w : List UInt8} (h1 : w ≠ oJmp) (h2 : w ≠ oJf) {m b : Int} : mvI b (oneI w m) = oneI w m := by
  unfold mvI
  rw [if_neg (by simp [jumpI, oneI, h1, h2])]

theorem genE_pos (e : Ex) : 0 < (genE e).length := by
  obtain ⟨op, v, n, a⟩ := e
  simp only [genE]
  repeat' split
  all_goals simp [joinI_length, choiceI_length]

end Go.Proofs.YtcdkdmjedkhpiaaDoor
