/- The package ver over trees: stacks. -/
import Derived.Test.YtcdkdmjedkhpiaaDoorZSpVerT
import Derived.Test.YtcdkdmjedkhpiaaDoorZSpNorm
import Derived.Test.YtcdkdmjedkhpiaaDoorA3
import Derived.Test.YtcdkdmjedkhpiaaDoorS2
set_option linter.unusedSimpArgs false
set_option linter.unusedVariables false
namespace Go.Proofs.YtcdkdmjedkhpiaaDoor
open Go Go.Abs

theorem gives_nil_msl {s : Nat} : Gives 1 (.full []) [.mode] (.msl 1 0 s 0 0) [.mode, .mrow 0 s []] := by
  intro w G u hi hr
  cases hr with
  | full _ a h =>
    obtain ⟨i1, s1⟩ := add_loc hi (.mrow a 0 0 s) (.mrow 0 s []) (mrow_blk0 s a) (mrow_holds0 s w _ a)
    exact ⟨_, i1, msl_new _ a (by simp [Gh.withLoc]), s1 1⟩

theorem fn_nil_casesH {P : Program} {f : FuncId} {Hin : List Ob} {es : List T} {bs : List AV} {r : AV} {Ho : List Ob} (h1 : es = [] → Abs.Fn P f Hin (.nils :: bs) r Ho) (h2 : Abs.Fn P f Hin (.nns es :: bs) r Ho) : Abs.Fn P f Hin (.p (.slice es) :: bs) r Ho := by
  refine ⟨h2.1, fun w G vs hi hv => ?_⟩
  have r0 := repA_p.1 (hv.2 0 _ rfl)
  have tail : ∀ x, RepA G x (vs.getD 0 undef) → RepL G (x :: bs) vs := by
    intro x hx
    refine ⟨by simpa using hv.1, fun j c hj => ?_⟩
    cases j with
    | zero => simp at hj; subst hj; exact hx
    | succ j => exact hv.2 (j + 1) c (by simpa using hj)
  generalize hv0 : vs.getD 0 undef = v0 at r0
  cases r0 with
  | nil a cap =>
    cases a with
    | some a => exact h2.2 w G vs hi (tail _ (by rw [hv0]; exact .nns [] a cap (.nil (some a) cap)))
    | none => exact (h1 rfl).2 w G vs hi (tail _ (by rw [hv0]; exact .nils cap))
  | slice es b o cap s val hs hr hv' hk hl hc => exact h2.2 w G vs hi (tail _ (by rw [hv0]; exact .nns es ⟨b, o, none⟩ cap (.slice es b o cap s val hs hr hv' hk hl hc)))

attribute [local irreducible] Abs.Fn

theorem encT2 (l : List Ty) : ∀ e ∈ l.map encT, e.cells.length = 2 := fun e he => by
  obtain ⟨y, _, rfl⟩ := List.mem_map.1 he
  simp

/-- A copy of a row that nobody writes: in a row that is written. -/
theorem cloneT_mode (l : List Ty) (hl : l.length ≤ 100000) : Abs.Fn Tryd.prog slices_Clone_typ_Type_typ_Type_i [.mode] [.p (.slice (l.map encT))] (.msl 1 0 2 0 l.length) [.mode, .mrow 0 2 (l.map encT)] := by
  refine fn_nil_casesH (fun he => ?_) ?_
  · apply slices_Clone_typ_Type_typ_Type_fnH
    simp [slices_Clone_typ_Type_typ_Type]
    have : l = [] := by simpa using he
    subst this
    exact gives_nil_msl
  · apply slices_Clone_typ_Type_typ_Type_fnH
    simp [slices_Clone_typ_Type_typ_Type]
    exact ⟨⟨by simp, encT2 l, by simp; omega⟩, gives_ids [0, 1] (by simp [renF]) rfl (by simp) (by simp [framed]) (by simp [AV.under, AV.under1]) (by simp [Ob.below])⟩

/-- A copy of a part of a row that is written. -/
theorem cloneT_spec (v : Nat) (es : List T) (o k : Nat) (h5 : ∀ e ∈ es, e.cells.length = 2) (hk : o + k ≤ es.length) (hl : es.length ≤ 10000000) :
    Abs.Fn Tryd.prog slices_Clone_typ_Type_typ_Type_i [.mrow v 2 es] [.msl 0 v 2 o k] (.own 1 ((es.drop o).take k)) [.mrow v 2 es, .row k 2] := by
  have h5' : ∀ e ∈ (es.drop o).take k, e.cells.length = 2 := fun e he => h5 e (List.mem_of_mem_drop (List.mem_of_mem_take he))
  have hlen : ((es.drop o).take k).length = k := by simp; omega
  rcases Nat.eq_zero_or_pos k with rfl | hpos
  · refine fn_arg_cases msl_zero ?_ ?_
    · apply slices_Clone_typ_Type_typ_Type_fnH
      simp [slices_Clone_typ_Type_typ_Type]
      exact gives_addrow (H := [.mrow v 2 es]) (by simp)
    · apply slices_Clone_typ_Type_typ_Type_fnH
      simp [slices_Clone_typ_Type_typ_Type]
      exact ⟨⟨by simp, by simp, by simp⟩, gives_ids [0, 1] (by simp [renF]) rfl (by simp) (by simp [framed]) (by simp [AV.under, AV.under1]) (by simp [Ob.below])⟩
  · apply slices_Clone_typ_Type_typ_Type_fnH
    simp [slices_Clone_typ_Type_typ_Type, hk, hpos]
    have hmin : min k (es.length - o) = k := by omega
    rw [hmin]
    exact ⟨⟨by simp, h5', by simp; omega⟩, gives_ids [0, 1] (by simp [renF]) rfl (by simp) (by simp [framed]) (by simp [AV.under, AV.under1]) (by simp [Ob.below])⟩

/-- A stack: the variable, its row. -/
def SH (v : Nat) (es : List T) (n : Nat) : List Ob := [.box [.msl 1 v 2 0 n], .mrow v 2 es]

theorem vLen_spec (v : Nat) (es : List T) (n : Nat) (hn : n ≤ es.length) (hb : n ≤ 100000) : Abs.Fn Tryd.prog ver_Stack_typ_Type_Len_i (SH v es n) [.bptr 0 0] (.p (.int .i64 n)) (SH v es n) := by
  apply ver_Stack_typ_Type_Len_fnH
  simp [ver_Stack_typ_Type_Len, SH]
  intro _
  exact gives_ids [0, 1] (by simp [renF]) rfl (by simp) (by simp [framed, renF]) (by simp [AV.under, AV.under1]) (by simp [Ob.below, AV.under1])

theorem vPop_spec (v : Nat) (es : List T) (n k : Nat) (hk : k ≤ n) (hn : n ≤ es.length) (hb : es.length ≤ 100000) (h5 : ∀ e ∈ es, e.cells.length = 2) :
    Abs.Fn Tryd.prog ver_Stack_typ_Type_Pop_i (SH v es n) [.bptr 0 0, .p (.int .i64 k)] (.tup [.own 2 ((es.drop (n - k)).take k), .p (.bool true)]) (SH v es (n - k) ++ [.row k 2]) := by
  have hc := cloneT_spec v es (n - k) k h5 (by omega) (by omega)
  apply ver_Stack_typ_Type_Pop_fnH
  have w1 : IntKind.i64.wrap ((n : Int) - k) = (n : Int) - k := IntWalk.i64_in _ (by omega)
  have w2 : ((n : Int) - k).toNat = n - k := by omega
  have w3 : n - (n - k) = k := by omega
  simp [ver_Stack_typ_Type_Pop, SH, w1, w2, w3, aSliceM]
  intro _
  refine ⟨fun h => absurd h (by omega), fun _ _ => ⟨by omega, ?_⟩⟩
  refine aCallF_of [1] hc rfl (by simp [renF]) (by simp) (by simp [framed]) (by simp [AV.under, AV.under1]) (by simp [Ob.below]) ?_
  simp [renF, frameH, setAll, w1, w2, w3, aSliceM]
  exact ⟨by omega, gives_ids [0, 1, 2] (by simp [renF]) rfl (by simp) (by simp [framed, renF, SH]) (by simp [AV.under, AV.under1]) (by simp [Ob.below, AV.under1, SH])⟩

theorem vPop_no (v : Nat) (es : List T) (n : Nat) (k : Int) (hk : (n : Int) < k) (hn : n ≤ es.length) (hb : es.length ≤ 100000) :
    Abs.Fn Tryd.prog ver_Stack_typ_Type_Pop_i (SH v es n) [.bptr 0 0, .p (.int .i64 k)] (.tup [.full [], .p (.bool false)]) (SH v es n) := by
  apply ver_Stack_typ_Type_Pop_fnH
  simp [ver_Stack_typ_Type_Pop, SH, hk]
  intro _
  exact gives_ids [0, 1] (by simp [renF]) rfl (by simp) (by simp [framed, renF]) (by simp [AV.under, AV.under1]) (by simp [Ob.below, AV.under1])

theorem vPush_spec (v : Nat) (es : List T) (n : Nat) (t : Ty) (hn : n ≤ es.length) (hb : n ≤ 100000) (h5 : ∀ e ∈ es, e.cells.length = 2) :
    Abs.Fn Tryd.prog ver_Stack_typ_Type_Push_i (SH v es n) [.bptr 0 0, .p (encT t)] (.tup []) (SH (v + 1) (es.take n ++ [encT t]) (n + 1)) := by
  apply ver_Stack_typ_Type_Push_fnH
  simp [ver_Stack_typ_Type_Push, SH, hn]
  exact ⟨by simp [maxLen]; omega, ⟨fun e he => h5 e (List.mem_of_mem_take he), by simp, by simp; omega⟩, by omega, gives_ids [0, 1] (by simp [renF]) rfl (by simp) (by simp [framed, renF]) (by simp [AV.under, AV.under1]) (by simp [Ob.below, AV.under1])⟩

/-- A stack with the same things, of a way that is known. -/
theorem twin_mode (l : List Ty) (hl : l.length ≤ 100000) : Abs.Fn Tryd.prog ver_Stack_typ_Type_Twin_i [.mode] [.p (.imm [.slice (l.map encT)] 0)] (.bptr 2 0) [.mode, .mrow 0 2 (l.map encT), .box [.msl 1 0 2 0 l.length]] := by
  have hc := cloneT_mode l hl
  apply ver_Stack_typ_Type_Twin_fnH
  simp [ver_Stack_typ_Type_Twin]
  refine aCallF_of [0] hc rfl (by simp [renF]) (by simp) (by simp [framed]) (by simp [AV.under, AV.under1]) (by simp [Ob.below]) ?_
  simp [renF, frameH, setAll]
  exact gives_ids [0, 1, 2] (by simp [renF]) rfl (by simp) (by simp [framed, renF]) (by simp [AV.under, AV.under1]) (by simp [Ob.below, AV.under1])

theorem twin_spec (v : Nat) (es : List T) (n : Nat) (hn : n ≤ es.length) (hb : es.length ≤ 100000) (h5 : ∀ e ∈ es, e.cells.length = 2) :
    Abs.Fn Tryd.prog ver_Stack_typ_Type_Twin_i (SH v es n) [.bptr 0 0] (.bptr 3 0) (SH v es n ++ [.row n 2, .box [.own 2 (es.take n)]]) := by
  have hc := cloneT_spec v es 0 n h5 (by omega) (by omega)
  apply ver_Stack_typ_Type_Twin_fnH
  simp [ver_Stack_typ_Type_Twin, SH]
  refine aCallF_of [1] hc rfl (by simp [renF]) (by simp) (by simp [framed]) (by simp [AV.under, AV.under1]) (by simp [Ob.below]) ?_
  simp [renF, frameH, setAll]
  exact gives_ids [0, 1, 2, 3] (by simp [renF]) rfl (by simp) (by simp [framed, renF, SH]) (by simp [AV.under, AV.under1]) (by simp [Ob.below, AV.under1, SH])

end Go.Proofs.YtcdkdmjedkhpiaaDoor
