/- Calls whose arguments' structs are trees; rows of their own. -/
import Derived.Test.YtgfnodmghaghpaaDoorA3
set_option linter.unusedSimpArgs false
set_option linter.unusedVariables false
namespace Go.Proofs.YtgfnodmghaghpaaDoor
open Go Go.Abs

/-- A struct of trees, as a tree. -/
def _root_.Go.Abs.AV.norm : AV → AV
  | .agg cs => match allT cs with
    | some ts => .p (.agg ts)
    | none => .agg cs
  | x => x

theorem norm_rep {G : Gh} {x : AV} {v : Value} (h : RepA G x v) : RepA G x.norm v := by
  cases x with
  | agg cs =>
    simp only [AV.norm]
    split
    · rename_i ts hts
      exact .p _ _ (h.toT (by simp [AV.toT, hts]))
    · exact h
  | _ => exact h

theorem callDoes_norm {P : Program} {fv : AV} {args : List AV} {r : AV} {H H' : List Ob} (h : CallDoes P fv (args.map AV.norm) r H H') : CallDoes P fv args r H H' := by
  intro w G u vs hi rf rl
  refine h w G u vs hi rf ⟨by simpa using rl.1, fun j x hj => ?_⟩
  simp only [List.getElem?_map, Option.map_eq_some_iff] at hj
  obtain ⟨y, hy, rfl⟩ := hj
  exact norm_rep (rl.2 j y hy)

/-- A call over a few objects; its arguments' structs are trees. -/
theorem aCallG_of {P : Program} {H : List Ob} {c : Cont} {fv : AV} {args caps args0 : List AV} {f : Nat} {r : AV} {Hin Hout : List Ob} (ids : List Nat) (h : Abs.Fn P f Hin args0 r Hout) (hc : capsOf fv = some (f, caps)) (ha : firstsOf fv ++ args.map AV.norm ++ caps = args0.map (AV.ren (renF H ids))) (hnd : ids.Nodup)
    (hf : framed (renF H ids) H ids Hin) (hu : args0.all (AV.under ids.length) = true) (hb : Hin.all (Ob.below ids.length) = true) (hk : c.k (r.ren (renF H ids)) (frameH H ids (Hout.map (Ob.ren (renF H ids))))) : aCallW P fv args H :=
  ⟨_, _, callDoes_norm (callDoes_frame ids hc h ha hnd hf hu hb), hk⟩

/-- A slice whose capacity is its length owns a row of its own, the others stay. -/
theorem gives_addrow {n : Nat} {es : List T} {H : List Ob} {s : Nat} (hs : ∀ e ∈ es, e.cells.length = s) : Gives n (.full es) H (.own H.length es) (H ++ [.row es.length s]) := by
  intro w G u hi hr
  cases hr with
  | full _ a h =>
    obtain ⟨i1, s1⟩ := add_loc hi (.row a es.length es.length s) (.row es.length s) (by cases a <;> simp [Loc.blk]) ⟨rfl, rfl, Nat.le_refl _, fun h => absurd h (Nat.lt_irrefl _)⟩
    exact ⟨_, i1, .own H.length es a a es.length es.length es.length s h (by simp [Gh.withLoc]) (Nat.le_refl _) (fun _ => ⟨rfl, rfl⟩) hs, s1 n⟩

end Go.Proofs.YtgfnodmghaghpaaDoor
