/- The package ver over trees: where an instruction leads. -/
import Derived.Test.YtcdkdmjedkhpiaaDoorZSpVerC
import Derived.Test.YtcdkdmjedkhpiaaDoorZPuVer
set_option linter.unusedSimpArgs false
set_option linter.unusedVariables false
namespace Go.Proofs.YtcdkdmjedkhpiaaDoor
open Go Go.Abs

attribute [local irreducible] Abs.Fn

theorem sameTs_len : ∀ l q : List Ty, l.length ≠ q.length → sameTs l q = false
  | [], [], h => absurd rfl h
  | [], _ :: _, _ => by simp [sameTs]
  | _ :: _, [], _ => by simp [sameTs]
  | a :: r, b :: q, h => by simp [sameTs, sameTs_len r q (by simpa using h)]

theorem sameTs_drop (l q : List Ty) (i : Nat) (h1 : i < l.length) (h2 : i < q.length) : sameTs (l.drop i) (q.drop i) = (sameT l[i] q[i] && sameTs (l.drop (i + 1)) (q.drop (i + 1))) := by
  rw [List.drop_eq_getElem_cons h1, List.drop_eq_getElem_cons h2]
  simp [sameTs]

/-- The same types: a row of a tree, a row that is written. -/
theorem equalFunc_m (v : Nat) (l q : List Ty) (es : List T) (hq : es.take q.length = q.map encT) (hb : es.length ≤ 100000) :
    Abs.Fn Tryd.prog slices_EqualFunc_typ_Type_typ_Type_typ_Type_typ_Type_i [.mrow v 2 es] [.p (.slice (l.map encT)), .msl 0 v 2 0 q.length, .p (.func typ_Same_i [])] (.p (.bool (sameTs l q))) [.mrow v 2 es] := by
  have hle : q.length ≤ es.length := by
    have := congrArg List.length hq
    simp at this
    omega
  have fin : ∀ b : Bool, Gives 1 (.p (.bool b)) [.mrow v 2 es] (.p (.bool b)) [.mrow v 2 es] := fun b =>
    gives_ids [0] (by simp [renF]) rfl (by simp) (by simp [framed, renF]) (by simp [AV.under, AV.under1]) (by simp [Ob.below, AV.under1])
  apply slices_EqualFunc_typ_Type_typ_Type_typ_Type_typ_Type_fnH
  simp [slices_EqualFunc_typ_Type_typ_Type_typ_Type_typ_Type]
  intro hl0 hq0
  refine ⟨fun h => ?_, fun h hl => ?_⟩
  · rw [sameTs_len l q (by omega)]
    exact fin false
  have hlen : l.length = q.length := by omega
  refine loop_by (σ := Nat) (n := 1) (fun i => [.p (.int .i64 i)]) (fun _ => [.mrow v 2 es]) (fun i => i ≤ l.length ∧ sameTs (l.drop i) (q.drop i) = sameTs l q) (fun i => l.length - i) [] 0 (fun _ => rfl) ⟨rfl, rfl⟩ (by simp) (fun i B hi hB => ?_)
  obtain ⟨h1, h2⟩ := hi
  simp [slices_EqualFunc_typ_Type_typ_Type_typ_Type_typ_Type_L1]
  constructor
  · intro hlt
    have hlt' : i < q.length := by omega
    have he : es[i]'(by omega) = encT q[i] := by
      have := congrArg (fun z : List T => z[i]?) hq
      simp [hlt', List.getElem?_take] at this
      rw [List.getElem?_eq_getElem (by omega)] at this
      simpa using this
    have hd := sameTs_drop l q i hlt hlt'
    rw [h2] at hd
    have hs := same_spec l[i] q[i]
    simp only [encT_eta] at hs
    simp [hlt, hlt', show i < es.length by omega, he]
    refine aCallW_of rfl rfl hs ?_
    simp
    refine ⟨fun hz => ?_, fun hz => ?_⟩
    · rw [hz] at hd
      rw [hd]
      exact gives_ids [0] (by simp [renF]) rfl (by simp) (by simp [framed, renF]) (by simp [AV.under, AV.under1]) (by simp [Ob.below, AV.under1])
    · rw [hz, Bool.true_and] at hd
      rw [IntWalk.i64_in _ (by simp [maxLen] at hl; omega)]
      exact hB (i + 1) _ ⟨by omega, hd.symm⟩ (by omega) (by simp) (by simp [Ob.below, AV.under1]) (by simp) (by simp [AV.under, AV.under1])
  · intro hge
    have : i = l.length := by omega
    subst this
    rw [← h2, List.drop_of_length_le (Nat.le_refl _), List.drop_of_length_le (by omega)]
    exact fin true

/-- A way: not known, or a stack. -/
def encW : Option (List Ty) → T
  | none => .raw (.pointer none)
  | some l => .imm [.slice (l.map encT)] 0

def leadW (W : List (Option (List Ty))) (k : Nat) (s : List Ty) : Int × List (Option (List Ty)) :=
  match W.getD k none with
  | none => (0, W.set k (some s))
  | some l => (if sameTs l s then 0 else 14, W)

def CHs (p : List In) (inn : Ty) (W : List (Option (List Ty))) (out : Option Ty) (v : Nat) (es : List T) (n : Nat) : List Ob := [.box (cBox p inn W.length out), .mrow 0 1 (W.map encW), .box [.msl 3 v 2 0 n], .mrow v 2 es]

theorem leads_spec (p : List In) (inn : Ty) (W : List (Option (List Ty))) (out : Option Ty) (v : Nat) (es : List T) (q : List Ty) (k : Nat) (hto : k < W.length) (hq : es.take q.length = q.map encT) (hb : es.length ≤ 100000) (h5 : ∀ e ∈ es, e.cells.length = 2) :
    Abs.Fn Tryd.prog ver_checker_leads_i (CHs p inn W out v es q.length) [.bptr 0 0, .p (.int .i64 k), .bptr 2 0] (.p (.int .i64 (leadW W k q).1)) (CHs p inn (leadW W k q).2 out v es q.length) := by
  have hle : q.length ≤ es.length := by
    have := congrArg List.length hq
    simp at this
    omega
  have htw := twin_spec v es q.length hle hb h5
  have heq : ∀ l, Abs.Fn Tryd.prog slices_EqualFunc_typ_Type_typ_Type_typ_Type_typ_Type_i [.mrow v 2 es] [.p (.slice (l.map encT)), .msl 0 v 2 0 q.length, .p (.func typ_Same_i [])] (.p (.bool (sameTs l q))) [.mrow v 2 es] := fun l => equalFunc_m v l q es hq hb
  simp only [SH] at htw
  have fin : ∀ (e : Int) (W : List (Option (List Ty))) (Y : List Ob), Gives 4 (.p (.int .i64 e)) ([.box [.p (.slice (p.map encI)), .p (.int .i64 inn.kind), .p (.slice (inn.of.map encT)), .msl 1 0 1 0 W.length, .p (outV out)], .mrow 0 1 (W.map encW), .box [.msl 3 v 2 0 q.length], .mrow v 2 es] ++ Y) (.p (.int .i64 e)) [.box [.p (.slice (p.map encI)), .p (.int .i64 inn.kind), .p (.slice (inn.of.map encT)), .msl 1 0 1 0 W.length, .p (outV out)], .mrow 0 1 (W.map encW), .box [.msl 3 v 2 0 q.length], .mrow v 2 es] := fun e W Y =>
    gives_ids [0, 1, 2, 3] (by simp [renF]) rfl (by simp) (by simp [framed, renF]) (by simp [AV.under, AV.under1]) (by simp [Ob.below, AV.under1])
  apply ver_checker_leads_fnH
  simp [ver_checker_leads, CHs, cBox, hto]
  have hwt : ∃ w, W[k] = w := ⟨_, rfl⟩
  obtain ⟨w, hw⟩ := hwt
  cases w with
  | none =>
    have e : leadW W k q = (0, W.set k (some q)) := by simp [leadW, hto, hw]
    rw [e]
    simp [hw, encW]
    refine ⟨rfl, ?_⟩
    simp
    constructor
    all_goals
      refine aCallF_of [2, 3] htw rfl (by simp [renF]) (by simp) (by simp [framed, renF]) (by simp [AV.under, AV.under1]) (by simp [Ob.below, AV.under1]) ?_
      simp [renF, frameH, setAll, hto]
      have hset : (W.map encW).set k ((encW W[k]).putT 0 [.imm [.slice (es.take q.length)] 0]) = (W.set k (some q)).map encW := by
        rw [hw, hq]
        simp [encW, List.map_set]
      rw [hset]
      have f := fin 0 (W.set k (some q)) [.row q.length 2, .fz [.slice (es.take q.length)]]
      simp only [List.length_set] at f
      simp only [CHs, cBox, List.length_set]
      exact f
  | some l =>
    have e : leadW W k q = (if sameTs l q then 0 else 14, W) := by simp [leadW, hto, hw]
    rw [e]
    simp [hw, encW]
    · refine aCallF_of [3] (heq l) rfl (by simp [renF]) (by simp) (by simp [framed, renF]) (by simp [AV.under, AV.under1]) (by simp [Ob.below, AV.under1]) ?_
      simp [renF, frameH, setAll, hto]
      refine ⟨fun hz => ?_, fun hz => ?_⟩
      · rw [if_neg (by simp [hz])]
        exact fin 14 W []
      · rw [if_pos hz]
        exact fin 0 W []

end Go.Proofs.YtcdkdmjedkhpiaaDoor
