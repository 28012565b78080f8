/- The package ver over trees: where an instruction leads. -/
import Derived.Test.YtgfnodmghaghpaaGreatDoorZSpVerC
import Derived.Test.YtgfnodmghaghpaaGreatDoorZPuVerLQ
import Derived.Test.YtgfnodmghaghpaaGreatDoorZSpCodeC
import Derived.Test.YtgfnodmghaghpaaGreatDoorZSpToQ
import Derived.Test.YtgfnodmghaghpaaGreatDoorZSpBudTQ
import Derived.Test.YtgfnodmghaghpaaGreatDoorS3

section
/- The package ver over trees: where an instruction leads. -/
set_option linter.unusedSimpArgs false
set_option linter.unusedVariables false
namespace Go.Proofs.YtgfnodmghaghpaaGreatDoor
open Go Go.Abs

attribute [local irreducible] Abs.Fn

theorem sameTs_len : ∀ l q : List Ty, l.length ≠ q.length → sameTs l q = false
  | [], [], h => absurd rfl h
  | [], _ :: _, _ => by simp [sameTs]
  | _ :: _, [], _ => by simp [sameTs]
  | a :: r, b :: q, h => by simp [sameTs, sameTs_len r q (by simpa using h)]

theorem sameTs_drop (l q : List Ty) (i : Nat) (h1 : i < l.length) (h2 : i < q.length) : sameTs (l.drop i) (q.drop i) = (sameT l[i] q[i] && sameTs (l.drop (i + 1)) (q.drop (i + 1))) := by
  rw [List.drop_eq_getElem_cons h1, List.drop_eq_getElem_cons h2]
  simp [sameTs]

/-- The same types: a row of a tree, a row that is written. -/
theorem equalFunc_m (v : Nat) (l q : List Ty) (es : List T) (hq : es.take q.length = q.map encT) (hb : es.length ≤ 100000) :
    Abs.Fn Tryz.prog slices_EqualFunc_typ_Type_typ_Type_typ_Type_typ_Type_i [.mrow v 2 es] [.p (.slice (l.map encT)), .msl 0 v 2 0 q.length, .p (.func typ_Same_i [])] (.p (.bool (sameTs l q))) [.mrow v 2 es] := by
  have hle : q.length ≤ es.length := by
    have := congrArg List.length hq
    simp at this
    omega
  have fin : ∀ b : Bool, Gives 1 (.p (.bool b)) [.mrow v 2 es] (.p (.bool b)) [.mrow v 2 es] := fun b =>
    gives_ids [0] (by simp [renF]) rfl (by simp) (by simp [framed, renF]) (by simp [AV.under, AV.under1]) (by simp [Ob.below, AV.under1])
  apply slices_EqualFunc_typ_Type_typ_Type_typ_Type_typ_Type_fnH
  simp [slices_EqualFunc_typ_Type_typ_Type_typ_Type_typ_Type]
  intro hl0 hq0
  refine ⟨fun h => ?_, fun h hl => ?_⟩
  · rw [sameTs_len l q (by omega)]
    exact fin false
  have hlen : l.length = q.length := by omega
  refine loop_by (σ := Nat) (n := 1) (fun i => [.p (.int .i64 i)]) (fun _ => [.mrow v 2 es]) (fun i => i ≤ l.length ∧ sameTs (l.drop i) (q.drop i) = sameTs l q) (fun i => l.length - i) [] 0 (fun _ => rfl) ⟨rfl, rfl⟩ (by simp) (fun i B hi hB => ?_)
  obtain ⟨h1, h2⟩ := hi
  simp [slices_EqualFunc_typ_Type_typ_Type_typ_Type_typ_Type_L1]
  constructor
  · intro hlt
    have hlt' : i < q.length := by omega
    have he : es[i]'(by omega) = encT q[i] := by
      have := congrArg (fun z : List T => z[i]?) hq
      simp [hlt', List.getElem?_take] at this
      rw [List.getElem?_eq_getElem (by omega)] at this
      simpa using this
    have hd := sameTs_drop l q i hlt hlt'
    rw [h2] at hd
    have hs := same_spec l[i] q[i]
    simp only [encT_eta] at hs
    simp [hlt, hlt', show i < es.length by omega, he]
    refine aCallW_of rfl rfl hs ?_
    simp
    refine ⟨fun hz => ?_, fun hz => ?_⟩
    · rw [hz] at hd
      rw [hd]
      exact gives_ids [0] (by simp [renF]) rfl (by simp) (by simp [framed, renF]) (by simp [AV.under, AV.under1]) (by simp [Ob.below, AV.under1])
    · rw [hz, Bool.true_and] at hd
      rw [IntWalk.i64_in _ (by simp [maxLen] at hl; omega)]
      exact hB (i + 1) _ ⟨by omega, hd.symm⟩ (by omega) (by simp) (by simp [Ob.below, AV.under1]) (by simp) (by simp [AV.under, AV.under1])
  · intro hge
    have : i = l.length := by omega
    subst this
    rw [← h2, List.drop_of_length_le (Nat.le_refl _), List.drop_of_length_le (by omega)]
    exact fin true

/-- A way: not known, or a stack. -/
def encW : Option (List Ty) → T
  | none => .raw (.pointer none)
  | some l => .imm [.slice (l.map encT)] 0

def leadW (W : List (Option (List Ty))) (k : Nat) (s : List Ty) : Int × List (Option (List Ty)) :=
  match W.getD k none with
  | none => (0, W.set k (some s))
  | some l => (if sameTs l s then 0 else 14, W)

def CHs (p : List In) (inn : Ty) (W : List (Option (List Ty))) (out : Option Ty) (v : Nat) (es : List T) (n : Nat) : List Ob := [.box (cBox p inn W.length out), .mrow 0 1 (W.map encW), .box [.msl 3 v 2 0 n], .mrow v 2 es]

theorem leads_spec (p : List In) (inn : Ty) (W : List (Option (List Ty))) (out : Option Ty) (v : Nat) (es : List T) (q : List Ty) (k : Nat) (hto : k < W.length) (hq : es.take q.length = q.map encT) (hb : es.length ≤ 100000) (h5 : ∀ e ∈ es, e.cells.length = 2) :
    Abs.Fn Tryz.prog ver_checker_leads_i (CHs p inn W out v es q.length) [.bptr 0 0, .p (.int .i64 k), .bptr 2 0] (.p (.int .i64 (leadW W k q).1)) (CHs p inn (leadW W k q).2 out v es q.length) := by
  have hle : q.length ≤ es.length := by
    have := congrArg List.length hq
    simp at this
    omega
  have htw := twin_spec v es q.length hle hb h5
  have heq : ∀ l, Abs.Fn Tryz.prog slices_EqualFunc_typ_Type_typ_Type_typ_Type_typ_Type_i [.mrow v 2 es] [.p (.slice (l.map encT)), .msl 0 v 2 0 q.length, .p (.func typ_Same_i [])] (.p (.bool (sameTs l q))) [.mrow v 2 es] := fun l => equalFunc_m v l q es hq hb
  simp only [SH] at htw
  have fin : ∀ (e : Int) (W : List (Option (List Ty))) (Y : List Ob), Gives 4 (.p (.int .i64 e)) ([.box [.p (.slice (p.map encI)), .p (.int .i64 inn.kind), .p (.slice (inn.of.map encT)), .msl 1 0 1 0 W.length, .p (outV out)], .mrow 0 1 (W.map encW), .box [.msl 3 v 2 0 q.length], .mrow v 2 es] ++ Y) (.p (.int .i64 e)) [.box [.p (.slice (p.map encI)), .p (.int .i64 inn.kind), .p (.slice (inn.of.map encT)), .msl 1 0 1 0 W.length, .p (outV out)], .mrow 0 1 (W.map encW), .box [.msl 3 v 2 0 q.length], .mrow v 2 es] := fun e W Y =>
    gives_ids [0, 1, 2, 3] (by simp [renF]) rfl (by simp) (by simp [framed, renF]) (by simp [AV.under, AV.under1]) (by simp [Ob.below, AV.under1])
  apply ver_checker_leads_fnH
  simp [ver_checker_leads, CHs, cBox, hto]
  have hwt : ∃ w, W[k] = w := ⟨_, rfl⟩
  obtain ⟨w, hw⟩ := hwt
  cases w with
  | none =>
    have e : leadW W k q = (0, W.set k (some q)) := by simp [leadW, hto, hw]
    rw [e]
    simp [hw, encW]
    refine ⟨rfl, ?_⟩
    simp
    constructor
    all_goals
      refine aCallF_of [2, 3] htw rfl (by simp [renF]) (by simp) (by simp [framed, renF]) (by simp [AV.under, AV.under1]) (by simp [Ob.below, AV.under1]) ?_
      simp [renF, frameH, setAll, hto]
      have hset : (W.map encW).set k ((encW W[k]).putT 0 [.imm [.slice (es.take q.length)] 0]) = (W.set k (some q)).map encW := by
        rw [hw, hq]
        simp [encW, List.map_set]
      rw [hset]
      have f := fin 0 (W.set k (some q)) [.row q.length 2, .fz [.slice (es.take q.length)]]
      simp only [List.length_set] at f
      simp only [CHs, cBox, List.length_set]
      exact f
  | some l =>
    have e : leadW W k q = (if sameTs l q then 0 else 14, W) := by simp [leadW, hto, hw]
    rw [e]
    simp [hw, encW]
    · refine aCallF_of [3] (heq l) rfl (by simp [renF]) (by simp) (by simp [framed, renF]) (by simp [AV.under, AV.under1]) (by simp [Ob.below, AV.under1]) ?_
      simp [renF, frameH, setAll, hto]
      refine ⟨fun hz => ?_, fun hz => ?_⟩
      · rw [if_neg (by simp [hz])]
        exact fin 14 W []
      · rw [if_pos hz]
        exact fin 0 W []

end Go.Proofs.YtgfnodmghaghpaaGreatDoor
end

section
/- The package ver over trees: one place. -/
set_option linter.unusedSimpArgs false
set_option linter.unusedVariables false
namespace Go.Proofs.YtgfnodmghaghpaaGreatDoor
open Go Go.Abs

attribute [local irreducible] Abs.Fn

/-- What comes of a stack after an instruction. -/
def tailW (p : List In) (W : List (Option (List Ty))) (i : Nat) (x : In) (s1 : List Ty) : Int × List (Option (List Ty)) :=
  if 128 < s1.length ∨ (x.op = oRet' ∧ 0 < s1.length) ∨ (i + 1 = p.length ∧ x.op ≠ oRet' ∧ x.op ≠ oJmp) then (12, W)
  else if x.op = oRet' then (0, W)
  else if x.op = oJmp then leadW W x.n.toNat s1
  else if x.op = oJf then (if (leadW W x.n.toNat s1).1 ≠ 0 then leadW W x.n.toNat s1 else leadW (leadW W x.n.toNat s1).2 (i + 1) s1)
  else leadW W (i + 1) s1

/-- One place: what is wrong there, the ways, what is let out. -/
def stepW (p : List In) (inn : Ty) (W : List (Option (List Ty))) (out : Option Ty) (i : Nat) (x : In) (l : List Ty) : Int × List (Option (List Ty)) × Option Ty :=
  if (l.length : Int) < tkN x.op x.n then (12, W, out)
  else if (comesV inn x (l.drop (l.length - (tkN x.op x.n).toNat)) out).1.2 ≠ 0 then ((comesV inn x (l.drop (l.length - (tkN x.op x.n).toNat)) out).1.2, W, (comesV inn x (l.drop (l.length - (tkN x.op x.n).toNat)) out).2)
  else ((tailW p W i x (l.take (l.length - (tkN x.op x.n).toNat) ++ (comesV inn x (l.drop (l.length - (tkN x.op x.n).toNat)) out).1.1)).1, (tailW p W i x (l.take (l.length - (tkN x.op x.n).toNat) ++ (comesV inn x (l.drop (l.length - (tkN x.op x.n).toNat)) out).1.1)).2, (comesV inn x (l.drop (l.length - (tkN x.op x.n).toNat)) out).2)

theorem leadW_len (W : List (Option (List Ty))) (k : Nat) (s : List Ty) : (leadW W k s).2.length = W.length := by
  unfold leadW
  split <;> simp

def boxM (p : List In) (inn : Ty) (n : Nat) (out : Option Ty) : Ob := .box [.p (.slice (p.map encI)), .p (.int .i64 inn.kind), .p (.slice (inn.of.map encT)), .msl 2 0 1 0 n, .p (outV out)]
def CHm (p : List In) (inn : Ty) (W : List (Option (List Ty))) (out : Option Ty) : List Ob := [.mode, boxM p inn W.length out, .mrow 0 1 (W.map encW)]
def boxX (x : In) : Ob := .box [.p (.str x.op), .p (.int .i64 x.v.k), .p (.int .i64 x.v.i), .p (.bool x.v.b), .p (.str x.v.s), .p (.slice (x.v.t.map encV)), .p (.int .i64 x.n)]

/-- What a place of a program that is right says of its instruction over a stack. -/
structure OkPl (p : List In) (i : Nat) (x : In) (l : List Ty) : Prop where
  ok : ∃ k : Nat, tkN x.op x.n = k ∧ (checkV x.v 0 = 0 → Wv 1000000000 x.v) ∧ (x.op = oJf → k = 1) ∧
    (k ≤ l.length → x.op ≠ oPush → x.op ≠ oX → ¬ (x.op = oJmp ∨ x.op = oRet') → x.op ≠ oJf → x.op ≠ oEmit' → x.op ≠ oLit ∧ (∃ s, lookS x.op shL = some s ∧ ArOk' s (l.drop (l.length - k)).length) ∧ ∀ t ∈ l.drop (l.length - k), checkT t 0 = 0) ∧
    (x.op = oJmp ∨ x.op = oJf → 0 ≤ x.n ∧ x.n < p.length)

theorem comesV_len (inn : Ty) (x : In) (l : List Ty) (out : Option Ty) : (comesV inn x l out).1.1.length ≤ 1 := by
  unfold comesV
  repeat' split
  all_goals simp

def esW (base more : List Ty) (l : List Ty) : Nat → List T
  | 0 => l.map encT
  | i + 1 => (base ++ more.take (i + 1)).map encT

theorem esW_take (base more l : List Ty) (n j : Nat) (hb : l.take n = base) (hn : base.length = n) (hj : j ≤ more.length) : (esW base more l j).take (n + j) = (base ++ more.take j).map encT := by
  cases j with
  | zero => simp [esW, ← hb, List.map_take]
  | succ j =>
    unfold esW
    rw [List.take_of_length_le]
    simp
    omega

theorem esW_len (base more l : List Ty) (n j : Nat) (hn : base.length = n) (hnl : n ≤ l.length) (hj : j ≤ more.length) : n + j ≤ (esW base more l j).length ∧ (esW base more l j).length ≤ l.length + more.length := by
  cases j with
  | zero => simp [esW]; omega
  | succ j => simp [esW]; omega

theorem esW_two (base more l : List Ty) (j : Nat) : ∀ e ∈ esW base more l j, e.cells.length = 2 := by
  cases j with
  | zero => exact encT2 l
  | succ j => exact encT2 _

theorem esW_step (base more l : List Ty) (n j : Nat) (hb : l.take n = base) (hn : base.length = n) (hj : j < more.length) : (esW base more l j).take (n + j) ++ [encT more[j]] = esW base more l (j + 1) := by
  rw [esW_take base more l n j hb hn (by omega)]
  show _ = (base ++ more.take (j + 1)).map encT
  rw [List.take_succ_eq_append_getElem hj, ← List.append_assoc]
  simp only [List.map_append, List.map_cons, List.map_nil]

theorem gives_CHm {p : List In} {inn : Ty} {W : List (Option (List Ty))} {n : Nat} (hn : n = W.length) {out : Option Ty} {e : Int} {Y : List Ob} : Gives 3 (.p (.int .i64 e)) ([.mode, .box [.p (.slice (p.map encI)), .p (.int .i64 inn.kind), .p (.slice (inn.of.map encT)), .msl 2 0 1 0 n, .p (outV out)], .mrow 0 1 (W.map encW)] ++ Y) (.p (.int .i64 e)) (CHm p inn W out) := by
  subst hn
  exact gives_ids [0, 1, 2] (by simp [renF]) rfl (by simp [CHm]) (by simp [framed, renF, CHm, boxM]) (by simp [AV.under, AV.under1]) (by simp [Ob.below, AV.under1, CHm, boxM])

def heapA (p : List In) (inn : Ty) (W : List (Option (List Ty))) (out : Option Ty) (x : In) (v : Nat) (es : List T) (n : Nat) : List Ob := [.mode, boxM p inn W.length out, .mrow 0 1 (W.map encW), .mrow v 2 es, .box [.msl 3 v 2 0 n], boxX x]

set_option maxHeartbeats 4000000 in
theorem tailA (p : List In) (inn : Ty) (W : List (Option (List Ty))) (out : Option Ty) (i : Nat) (x : In) (v : Nat) (es : List T) (q : List Ty) (Y : List Ob) (hi : i < p.length) (hpl : p.length ≤ 4096) (hW : W.length = p.length) (hj : x.op = oJmp ∨ x.op = oJf → 0 ≤ x.n ∧ x.n < p.length)
    (hq : es.take q.length = q.map encT) (hb : es.length ≤ 10000) (h5 : ∀ e ∈ es, e.cells.length = 2) (r : Int) (W' : List (Option (List Ty))) (hr : tailW p W i x q = (r, W')) :
    ver_checker_place_P13 (.bptr 1 0) (.p (.int .i64 i)) (.bptr 5 0) (.bptr 4 0) (heapA p inn W out x v es q.length ++ Y) (awp Tryz.prog ver_checker_place_ann) (kEnd Tryz.prog [.tmp 4] fun v H' => Gives 3 v H' (.p (.int .i64 r)) (CHm p inn W' out)) := by
  have hle : q.length ≤ es.length := by
    have := congrArg List.length hq
    simp at this
    omega
  have hlen := vLen_spec v es q.length hle (by omega)
  have hld : ∀ (W : List (Option (List Ty))) (k : Nat), W.length = p.length → k < p.length → _ := fun W k h1 h2 => leads_spec p inn W out v es q k (by omega) hq (by omega) h5
  simp only [SH] at hlen
  simp only [CHs, cBox, leadW_len] at hld
  unfold tailW at hr
  unfold ver_checker_place_P13
  simp -implicitDefEqProofs [heapA, boxM, boxX]
  refine aCallF_of [4, 3] hlen rfl (by simp [renF]) (by simp) (by simp [framed, renF]) (by simp [AV.under, AV.under1]) (by simp [Ob.below, AV.under1]) ?_
  simp -implicitDefEqProofs [renF, frameH, setAll]
  rw [ver_checker_place_c14_eq]
  unfold ver_checker_place_P14
  simp -implicitDefEqProofs
  refine ⟨fun h => ?_, fun h => ?_⟩
  · rw [if_pos (.inl (by omega))] at hr
    cases hr
    rw [ver_checker_place_c16_eq]
    unfold ver_checker_place_P16
    simp -implicitDefEqProofs [aRes, tupOf]
    exact gives_CHm rfl
  refine aMerge_intro (decide (0 < q.length)) (fun _ => ?_) ?_
  · refine aCallF_of [4, 3] hlen rfl (by simp [renF]) (by simp) (by simp [framed, renF]) (by simp [AV.under, AV.under1]) (by simp [Ob.below, AV.under1]) ?_
    simp -implicitDefEqProofs [renF, frameH, setAll]
  simp -implicitDefEqProofs
  rw [ver_checker_place_c15_eq]
  unfold ver_checker_place_P15
  have w1 : IntKind.i64.wrap ((p.length : Int) - 1) = (p.length : Int) - 1 := IntWalk.i64_in _ (by omega)
  simp -implicitDefEqProofs [w1]
  refine ⟨fun h1 h2 => ?_, fun h1 _ => ?_⟩
  · rw [if_pos (.inr (.inl ⟨h1, h2⟩))] at hr
    cases hr
    rw [ver_checker_place_c16_eq]
    unfold ver_checker_place_P16
    simp -implicitDefEqProofs [aRes, tupOf]
    exact gives_CHm rfl
  rw [ver_checker_place_c16_eq]
  unfold ver_checker_place_P16
  simp -implicitDefEqProofs [aRes, tupOf]
  refine ⟨fun g1 g2 g3 => ?_, fun g => ?_⟩
  · rw [if_pos (.inr (.inr ⟨by omega, g2, g3⟩))] at hr
    cases hr
    exact gives_CHm rfl
  have n1 : ¬ (128 < q.length ∨ (x.op = oRet' ∧ 0 < q.length) ∨ (i + 1 = p.length ∧ x.op ≠ oRet' ∧ x.op ≠ oJmp)) := by
    rintro (h' | ⟨h', h''⟩ | ⟨h', h'', h4⟩)
    · omega
    · rw [h1 h'] at h''; simp at h''
    · exact h4 (g (by omega) h'')
  rw [if_neg n1] at hr
  rw [ver_checker_place_c18_eq]
  unfold ver_checker_place_P18
  simp -implicitDefEqProofs [aRes, tupOf]
  refine ⟨fun e1 => ?_, fun e1 => ?_⟩
  · rw [if_pos (show x.op = oRet' from e1)] at hr
    cases hr
    exact gives_CHm rfl
  rw [if_neg (show ¬ x.op = oRet' from e1)] at hr
  rw [ver_checker_place_c20_eq]
  unfold ver_checker_place_P20
  simp -implicitDefEqProofs [aRes, tupOf]
  refine ⟨fun e2 => ?_, fun e2 => ?_⟩
  · rw [if_pos (show x.op = oJmp from e2)] at hr
    obtain ⟨m, hm⟩ : ∃ m : Nat, x.n = m := ⟨x.n.toNat, by have := hj (.inl e2); omega⟩
    have hmp : m < p.length := by have := hj (.inl e2); omega
    rw [hm, Int.toNat_natCast] at hr
    have hl1 := hld W m hW hmp
    rw [hr] at hl1
    have hl2 := leadW_len W m q
    rw [hr] at hl2
    simp only at hl1 hl2
    refine aCallF_of [1, 2, 4, 3] hl1 rfl (by simp [renF, hm]) (by simp) (by simp [framed, renF]) (by simp [AV.under, AV.under1]) (by simp [Ob.below, AV.under1]) ?_
    simp -implicitDefEqProofs [renF, frameH, setAll, aRes, tupOf]
    exact gives_CHm hl2.symm
  rw [if_neg (show ¬ x.op = oJmp from e2)] at hr
  have hip : i + 1 < p.length := by
    have : ¬ i + 1 = p.length := fun e => n1 (.inr (.inr ⟨e, e1, e2⟩))
    omega
  have w2 : IntKind.i64.wrap ((i : Int) + 1) = ((i + 1 : Nat) : Int) := by rw [IntWalk.i64_in _ (by omega)]; simp
  rw [ver_checker_place_c21_eq]
  unfold ver_checker_place_P21
  simp -implicitDefEqProofs
  rw [ver_checker_place_c22_eq]
  unfold ver_checker_place_P22
  simp -implicitDefEqProofs [aRes, tupOf]
  refine ⟨fun e3 => ?_, fun e3 => ?_⟩
  · rw [if_pos (show x.op = oJf from e3)] at hr
    obtain ⟨m, hm⟩ : ∃ m : Nat, x.n = m := ⟨x.n.toNat, by have := hj (.inr e3); omega⟩
    have hmp : m < p.length := by have := hj (.inr e3); omega
    rw [hm, Int.toNat_natCast] at hr
    have hl1 := hld W m hW hmp
    have hl2 := leadW_len W m q
    generalize leadW W m q = L at *
    obtain ⟨r1, W1⟩ := L
    simp only at hl1 hl2 hr
    refine aCallF_of [1, 2, 4, 3] hl1 rfl (by simp [renF, hm]) (by simp) (by simp [framed, renF]) (by simp [AV.under, AV.under1]) (by simp [Ob.below, AV.under1]) ?_
    simp -implicitDefEqProofs [renF, frameH, setAll]
    rw [ver_checker_place_c23_eq]
    unfold ver_checker_place_P23
    simp -implicitDefEqProofs
    rw [ver_checker_place_c24_eq]
    unfold ver_checker_place_P24
    simp -implicitDefEqProofs [aRes, tupOf]
    refine ⟨fun z => ?_, fun z => ?_⟩
    · rw [if_pos z] at hr
      cases hr
      exact gives_CHm hl2.symm
    rw [if_neg (by simpa using z)] at hr
    have hk1 := hld W1 (i + 1) (by omega) hip
    rw [hr, hl2] at hk1
    have hk2 := leadW_len W1 (i + 1) q
    rw [hr] at hk2
    simp only at hk1 hk2
    rw [ver_checker_place_c25_eq]
    unfold ver_checker_place_P25
    simp -implicitDefEqProofs [aRes, tupOf, w2]
    refine aCallF_of [1, 2, 4, 3] hk1 rfl (by simp [renF]) (by simp) (by simp [framed, renF]) (by simp [AV.under, AV.under1]) (by simp [Ob.below, AV.under1]) ?_
    simp -implicitDefEqProofs [renF, frameH, setAll, aRes, tupOf]
    exact gives_CHm (by omega)
  · rw [if_neg (show ¬ x.op = oJf from e3)] at hr
    have hk1 := hld W (i + 1) hW hip
    rw [hr] at hk1
    have hk2 := leadW_len W (i + 1) q
    rw [hr] at hk2
    simp only at hk1 hk2
    rw [ver_checker_place_c25_eq]
    unfold ver_checker_place_P25
    simp -implicitDefEqProofs [aRes, tupOf, w2]
    refine aCallF_of [1, 2, 4, 3] hk1 rfl (by simp [renF]) (by simp) (by simp [framed, renF]) (by simp [AV.under, AV.under1]) (by simp [Ob.below, AV.under1]) ?_
    simp -implicitDefEqProofs [renF, frameH, setAll, aRes, tupOf]
    exact gives_CHm (by omega)

set_option maxHeartbeats 4000000 in
theorem frontA (p : List In) (inn : Ty) (W : List (Option (List Ty))) (out : Option Ty) (i : Nat) (x : In) (l : List Ty) (hi : i < p.length) (hpl : p.length ≤ 4096) (hW : W.length = p.length) (hx : OkPl p i x l) (hll : l.length ≤ 128) :
    ver_checker_place_P2 (.bptr 1 0) (.p (.int .i64 i)) (.bptr 5 0) (.bptr 4 0) (heapA p inn W out x 0 (l.map encT) l.length) (awp Tryz.prog ver_checker_place_ann) (kEnd Tryz.prog [.tmp 4] fun v H' => Gives 3 v H' (.p (.int .i64 (stepW p inn W out i x l).1)) (CHm p inn (stepW p inn W out i x l).2.1 (stepW p inn W out i x l).2.2)) := by
  obtain ⟨k, hk, hw, hjf, hop, hjm⟩ := hx.ok
  have ha := arity_spec x
  simp only [encI_eta, hk] at ha
  unfold ver_checker_place_P2
  simp -implicitDefEqProofs [heapA, boxM, boxX]
  refine aCallW_of rfl rfl ha ?_
  simp -implicitDefEqProofs
  rcases Nat.lt_or_ge l.length k with hlk | hlk
  · have hs : stepW p inn W out i x l = (12, W, out) := by
      unfold stepW
      rw [if_pos (by omega)]
    rw [hs]
    have hp := vPop_no 0 (l.map encT) l.length k (by omega) (by simp) (by simp; omega)
    simp only [SH] at hp
    refine aCallF_of [4, 3] hp rfl (by simp [renF]) (by simp) (by simp [framed, renF]) (by simp [AV.under, AV.under1]) (by simp [Ob.below, AV.under1]) ?_
    simp -implicitDefEqProofs [renF, frameH, setAll]
    rw [ver_checker_place_c3_eq]
    unfold ver_checker_place_P3
    simp -implicitDefEqProofs [aRes, tupOf]
    exact gives_CHm rfl
  have hk0 : (tkN x.op x.n).toNat = k := by omega
  have hs : stepW p inn W out i x l = if (comesV inn x (l.drop (l.length - k)) out).1.2 ≠ 0 then ((comesV inn x (l.drop (l.length - k)) out).1.2, W, (comesV inn x (l.drop (l.length - k)) out).2)
      else ((tailW p W i x (l.take (l.length - k) ++ (comesV inn x (l.drop (l.length - k)) out).1.1)).1, (tailW p W i x (l.take (l.length - k) ++ (comesV inn x (l.drop (l.length - k)) out).1.1)).2, (comesV inn x (l.drop (l.length - k)) out).2) := by
    unfold stepW
    rw [if_neg (by omega), hk0]
  rw [hs]
  have hp := vPop_spec 0 (l.map encT) l.length k hlk (by simp) (by simp; omega) (encT2 l)
  have hlast : ((l.map encT).drop (l.length - k)).take k = (l.drop (l.length - k)).map encT := by
    rw [List.take_of_length_le (by simp; omega), List.map_drop]
  rw [hlast] at hp
  have hc := comesV_spec p inn (W.map encW) out x (l.drop (l.length - k)) hw (fun h => by have := hjf h; simp; omega) (by simp; omega) (fun a1 a2 a3 a4 a5 => by
    have := hop hlk a1 a2 a3 a4 a5
    simpa using this)
  have hml := comesV_len inn x (l.drop (l.length - k)) out
  simp only [SH] at hp
  simp only [CHv, cBox, encI_eta, List.length_map] at hc
  generalize comesV inn x (l.drop (l.length - k)) out = m at *
  obtain ⟨⟨more, e⟩, out'⟩ := m
  simp only at hc hml ⊢
  refine aCallF_of [4, 3] hp rfl (by simp [renF]) (by simp) (by simp [framed, renF]) (by simp [AV.under, AV.under1]) (by simp [Ob.below, AV.under1]) ?_
  simp -implicitDefEqProofs [renF, frameH, setAll]
  rw [ver_checker_place_c3_eq]
  unfold ver_checker_place_P3
  simp -implicitDefEqProofs
  rw [ver_checker_place_c5_eq]
  unfold ver_checker_place_P5
  simp -implicitDefEqProofs
  refine aCallN_of [1, 2] hc rfl (by simp [renF, treeA]) (by simp) (by simp [framed, renF]) (by simp [AV.under, AV.under1]) (by simp [Ob.below, AV.under1]) ?_
  simp -implicitDefEqProofs [renF, frameH, setAll]
  rw [ver_checker_place_c6_eq]
  unfold ver_checker_place_P6
  simp -implicitDefEqProofs
  rw [ver_checker_place_c7_eq]
  unfold ver_checker_place_P7
  simp -implicitDefEqProofs [aRes, tupOf]
  refine ⟨fun z => ?_, fun z => ?_⟩
  · rw [if_neg z]
    exact gives_CHm rfl
  rw [if_pos z]
  rw [ver_checker_place_c8_eq]
  unfold ver_checker_place_P8
  simp -implicitDefEqProofs
  intro hmax
  rw [ver_checker_place_c9_eq]
  unfold ver_checker_place_P9
  simp -implicitDefEqProofs
  obtain ⟨base, hbase⟩ : ∃ b, l.take (l.length - k) = b := ⟨_, rfl⟩
  have hbl : base.length = l.length - k := by rw [← hbase]; simp
  rw [hbase]
  refine loop_by (σ := Nat) (n := 7) (fun j => [.p (.int .i64 j)]) (fun j => heapA p inn W out' x j (esW base more l j) (l.length - k + j) ++ [.row k 2]) (fun j => j ≤ more.length) (fun j => more.length - j) [] 0 (fun _ => rfl) ⟨rfl, rfl⟩ (by simp) (fun j Bk hj hB => ?_)
  simp -implicitDefEqProofs [ver_checker_place_L1, heapA, boxM, boxX]
  constructor
  · intro hlt
    have hes := esW_len base more l _ j hbl (by omega) hj
    have hpu := vPush_spec j (esW base more l j) (l.length - k + j) more[j] hes.1 (by omega) (esW_two base more l j)
    rw [esW_step base more l _ j hbase hbl hlt] at hpu
    simp only [SH, encT_eta] at hpu
    have hmj : (Option.map encT more[j]?).getD default = encT more[j] := by simp [hlt]
    rw [hmj]
    simp -implicitDefEqProofs only [hlt, forall_const, true_and]
    simp -implicitDefEqProofs
    rw [ver_checker_place_c11_eq]
    unfold ver_checker_place_P11
    simp -implicitDefEqProofs
    refine aCallN_of [4, 3] hpu rfl (by simp [renF, treeA]) (by simp) (by simp [framed, renF]) (by simp [AV.under, AV.under1]) (by simp [Ob.below, AV.under1]) ?_
    simp -implicitDefEqProofs [renF, frameH, setAll]
    rw [ver_checker_place_c12_eq]
    unfold ver_checker_place_P12
    simp -implicitDefEqProofs
    rw [IntWalk.i64_in _ (by omega)]
    exact hB (j + 1) _ (by omega) (by omega) (by simp [heapA, boxM, boxX, Nat.add_assoc]) (by simp [Ob.below, AV.under1]) (by simp) (by simp [AV.under, AV.under1])
  · intro hge
    have hjm' : j = more.length := by omega
    subst hjm'
    rw [ver_checker_place_c13_eq]
    have hql : (base ++ more).length = l.length - k + more.length := by simp [hbl]
    have hes := esW_len base more l _ more.length hbl (by omega) (Nat.le_refl _)
    have ht := tailA p inn W out' i x more.length (esW base more l more.length) (base ++ more) [.row k 2] hi hpl hW hjm (by rw [hql, esW_take base more l _ more.length hbase hbl (Nat.le_refl _), List.take_length]) (by omega) (esW_two base more l _) (tailW p W i x (base ++ more)).1 (tailW p W i x (base ++ more)).2 (Prod.eta _).symm
    rw [hql] at ht
    simp only [heapA, boxM, boxX, List.cons_append, List.nil_append] at ht
    exact ht

def heapB (p : List In) (inn : Ty) (W : List (Option (List Ty))) (out : Option Ty) (x : In) (v : Nat) (es : List T) (n : Nat) : List Ob := [.mode, boxM p inn W.length out, .mrow 0 1 (W.map encW), boxX x, .mrow v 2 es, .box [.msl 4 v 2 0 n]]

set_option maxHeartbeats 4000000 in
theorem tailB (p : List In) (inn : Ty) (W : List (Option (List Ty))) (out : Option Ty) (i : Nat) (x : In) (v : Nat) (es : List T) (q : List Ty) (Y : List Ob) (hi : i < p.length) (hpl : p.length ≤ 4096) (hW : W.length = p.length) (hj : x.op = oJmp ∨ x.op = oJf → 0 ≤ x.n ∧ x.n < p.length)
    (hq : es.take q.length = q.map encT) (hb : es.length ≤ 10000) (h5 : ∀ e ∈ es, e.cells.length = 2) (r : Int) (W' : List (Option (List Ty))) (hr : tailW p W i x q = (r, W')) :
    ver_checker_place_P13 (.bptr 1 0) (.p (.int .i64 i)) (.bptr 3 0) (.bptr 5 0) (heapB p inn W out x v es q.length ++ Y) (awp Tryz.prog ver_checker_place_ann) (kEnd Tryz.prog [.tmp 4] fun v H' => Gives 3 v H' (.p (.int .i64 r)) (CHm p inn W' out)) := by
  have hle : q.length ≤ es.length := by
    have := congrArg List.length hq
    simp at this
    omega
  have hlen := vLen_spec v es q.length hle (by omega)
  have hld : ∀ (W : List (Option (List Ty))) (k : Nat), W.length = p.length → k < p.length → _ := fun W k h1 h2 => leads_spec p inn W out v es q k (by omega) hq (by omega) h5
  simp only [SH] at hlen
  simp only [CHs, cBox, leadW_len] at hld
  unfold tailW at hr
  unfold ver_checker_place_P13
  simp -implicitDefEqProofs [heapB, boxM, boxX]
  refine aCallF_of [5, 4] hlen rfl (by simp [renF]) (by simp) (by simp [framed, renF]) (by simp [AV.under, AV.under1]) (by simp [Ob.below, AV.under1]) ?_
  simp -implicitDefEqProofs [renF, frameH, setAll]
  rw [ver_checker_place_c14_eq]
  unfold ver_checker_place_P14
  simp -implicitDefEqProofs
  refine ⟨fun h => ?_, fun h => ?_⟩
  · rw [if_pos (.inl (by omega))] at hr
    cases hr
    rw [ver_checker_place_c16_eq]
    unfold ver_checker_place_P16
    simp -implicitDefEqProofs [aRes, tupOf]
    exact gives_CHm rfl
  refine aMerge_intro (decide (0 < q.length)) (fun _ => ?_) ?_
  · refine aCallF_of [5, 4] hlen rfl (by simp [renF]) (by simp) (by simp [framed, renF]) (by simp [AV.under, AV.under1]) (by simp [Ob.below, AV.under1]) ?_
    simp -implicitDefEqProofs [renF, frameH, setAll]
  simp -implicitDefEqProofs
  rw [ver_checker_place_c15_eq]
  unfold ver_checker_place_P15
  have w1 : IntKind.i64.wrap ((p.length : Int) - 1) = (p.length : Int) - 1 := IntWalk.i64_in _ (by omega)
  simp -implicitDefEqProofs [w1]
  refine ⟨fun h1 h2 => ?_, fun h1 _ => ?_⟩
  · rw [if_pos (.inr (.inl ⟨h1, h2⟩))] at hr
    cases hr
    rw [ver_checker_place_c16_eq]
    unfold ver_checker_place_P16
    simp -implicitDefEqProofs [aRes, tupOf]
    exact gives_CHm rfl
  rw [ver_checker_place_c16_eq]
  unfold ver_checker_place_P16
  simp -implicitDefEqProofs [aRes, tupOf]
  refine ⟨fun g1 g2 g3 => ?_, fun g => ?_⟩
  · rw [if_pos (.inr (.inr ⟨by omega, g2, g3⟩))] at hr
    cases hr
    exact gives_CHm rfl
  have n1 : ¬ (128 < q.length ∨ (x.op = oRet' ∧ 0 < q.length) ∨ (i + 1 = p.length ∧ x.op ≠ oRet' ∧ x.op ≠ oJmp)) := by
    rintro (h' | ⟨h', h''⟩ | ⟨h', h'', h4⟩)
    · omega
    · rw [h1 h'] at h''; simp at h''
    · exact h4 (g (by omega) h'')
  rw [if_neg n1] at hr
  rw [ver_checker_place_c18_eq]
  unfold ver_checker_place_P18
  simp -implicitDefEqProofs [aRes, tupOf]
  refine ⟨fun e1 => ?_, fun e1 => ?_⟩
  · rw [if_pos (show x.op = oRet' from e1)] at hr
    cases hr
    exact gives_CHm rfl
  rw [if_neg (show ¬ x.op = oRet' from e1)] at hr
  rw [ver_checker_place_c20_eq]
  unfold ver_checker_place_P20
  simp -implicitDefEqProofs [aRes, tupOf]
  refine ⟨fun e2 => ?_, fun e2 => ?_⟩
  · rw [if_pos (show x.op = oJmp from e2)] at hr
    obtain ⟨m, hm⟩ : ∃ m : Nat, x.n = m := ⟨x.n.toNat, by have := hj (.inl e2); omega⟩
    have hmp : m < p.length := by have := hj (.inl e2); omega
    rw [hm, Int.toNat_natCast] at hr
    have hl1 := hld W m hW hmp
    rw [hr] at hl1
    have hl2 := leadW_len W m q
    rw [hr] at hl2
    simp only at hl1 hl2
    refine aCallF_of [1, 2, 5, 4] hl1 rfl (by simp [renF, hm]) (by simp) (by simp [framed, renF]) (by simp [AV.under, AV.under1]) (by simp [Ob.below, AV.under1]) ?_
    simp -implicitDefEqProofs [renF, frameH, setAll, aRes, tupOf]
    exact gives_CHm hl2.symm
  rw [if_neg (show ¬ x.op = oJmp from e2)] at hr
  have hip : i + 1 < p.length := by
    have : ¬ i + 1 = p.length := fun e => n1 (.inr (.inr ⟨e, e1, e2⟩))
    omega
  have w2 : IntKind.i64.wrap ((i : Int) + 1) = ((i + 1 : Nat) : Int) := by rw [IntWalk.i64_in _ (by omega)]; simp
  rw [ver_checker_place_c21_eq]
  unfold ver_checker_place_P21
  simp -implicitDefEqProofs
  rw [ver_checker_place_c22_eq]
  unfold ver_checker_place_P22
  simp -implicitDefEqProofs [aRes, tupOf]
  refine ⟨fun e3 => ?_, fun e3 => ?_⟩
  · rw [if_pos (show x.op = oJf from e3)] at hr
    obtain ⟨m, hm⟩ : ∃ m : Nat, x.n = m := ⟨x.n.toNat, by have := hj (.inr e3); omega⟩
    have hmp : m < p.length := by have := hj (.inr e3); omega
    rw [hm, Int.toNat_natCast] at hr
    have hl1 := hld W m hW hmp
    have hl2 := leadW_len W m q
    generalize leadW W m q = L at *
    obtain ⟨r1, W1⟩ := L
    simp only at hl1 hl2 hr
    refine aCallF_of [1, 2, 5, 4] hl1 rfl (by simp [renF, hm]) (by simp) (by simp [framed, renF]) (by simp [AV.under, AV.under1]) (by simp [Ob.below, AV.under1]) ?_
    simp -implicitDefEqProofs [renF, frameH, setAll]
    rw [ver_checker_place_c23_eq]
    unfold ver_checker_place_P23
    simp -implicitDefEqProofs
    rw [ver_checker_place_c24_eq]
    unfold ver_checker_place_P24
    simp -implicitDefEqProofs [aRes, tupOf]
    refine ⟨fun z => ?_, fun z => ?_⟩
    · rw [if_pos z] at hr
      cases hr
      exact gives_CHm hl2.symm
    rw [if_neg (by simpa using z)] at hr
    have hk1 := hld W1 (i + 1) (by omega) hip
    rw [hr, hl2] at hk1
    have hk2 := leadW_len W1 (i + 1) q
    rw [hr] at hk2
    simp only at hk1 hk2
    rw [ver_checker_place_c25_eq]
    unfold ver_checker_place_P25
    simp -implicitDefEqProofs [aRes, tupOf, w2]
    refine aCallF_of [1, 2, 5, 4] hk1 rfl (by simp [renF]) (by simp) (by simp [framed, renF]) (by simp [AV.under, AV.under1]) (by simp [Ob.below, AV.under1]) ?_
    simp -implicitDefEqProofs [renF, frameH, setAll, aRes, tupOf]
    exact gives_CHm (by omega)
  · rw [if_neg (show ¬ x.op = oJf from e3)] at hr
    have hk1 := hld W (i + 1) hW hip
    rw [hr] at hk1
    have hk2 := leadW_len W (i + 1) q
    rw [hr] at hk2
    simp only at hk1 hk2
    rw [ver_checker_place_c25_eq]
    unfold ver_checker_place_P25
    simp -implicitDefEqProofs [aRes, tupOf, w2]
    refine aCallF_of [1, 2, 5, 4] hk1 rfl (by simp [renF]) (by simp) (by simp [framed, renF]) (by simp [AV.under, AV.under1]) (by simp [Ob.below, AV.under1]) ?_
    simp -implicitDefEqProofs [renF, frameH, setAll, aRes, tupOf]
    exact gives_CHm (by omega)

set_option maxHeartbeats 4000000 in
theorem frontB (p : List In) (inn : Ty) (W : List (Option (List Ty))) (out : Option Ty) (i : Nat) (x : In) (l : List Ty) (hi : i < p.length) (hpl : p.length ≤ 4096) (hW : W.length = p.length) (hx : OkPl p i x l) (hll : l.length ≤ 128) :
    ver_checker_place_P2 (.bptr 1 0) (.p (.int .i64 i)) (.bptr 3 0) (.bptr 5 0) (heapB p inn W out x 0 (l.map encT) l.length) (awp Tryz.prog ver_checker_place_ann) (kEnd Tryz.prog [.tmp 4] fun v H' => Gives 3 v H' (.p (.int .i64 (stepW p inn W out i x l).1)) (CHm p inn (stepW p inn W out i x l).2.1 (stepW p inn W out i x l).2.2)) := by
  obtain ⟨k, hk, hw, hjf, hop, hjm⟩ := hx.ok
  have ha := arity_spec x
  simp only [encI_eta, hk] at ha
  unfold ver_checker_place_P2
  simp -implicitDefEqProofs [heapB, boxM, boxX]
  refine aCallW_of rfl rfl ha ?_
  simp -implicitDefEqProofs
  rcases Nat.lt_or_ge l.length k with hlk | hlk
  · have hs : stepW p inn W out i x l = (12, W, out) := by
      unfold stepW
      rw [if_pos (by omega)]
    rw [hs]
    have hp := vPop_no 0 (l.map encT) l.length k (by omega) (by simp) (by simp; omega)
    simp only [SH] at hp
    refine aCallF_of [5, 4] hp rfl (by simp [renF]) (by simp) (by simp [framed, renF]) (by simp [AV.under, AV.under1]) (by simp [Ob.below, AV.under1]) ?_
    simp -implicitDefEqProofs [renF, frameH, setAll]
    rw [ver_checker_place_c3_eq]
    unfold ver_checker_place_P3
    simp -implicitDefEqProofs [aRes, tupOf]
    exact gives_CHm rfl
  have hk0 : (tkN x.op x.n).toNat = k := by omega
  have hs : stepW p inn W out i x l = if (comesV inn x (l.drop (l.length - k)) out).1.2 ≠ 0 then ((comesV inn x (l.drop (l.length - k)) out).1.2, W, (comesV inn x (l.drop (l.length - k)) out).2)
      else ((tailW p W i x (l.take (l.length - k) ++ (comesV inn x (l.drop (l.length - k)) out).1.1)).1, (tailW p W i x (l.take (l.length - k) ++ (comesV inn x (l.drop (l.length - k)) out).1.1)).2, (comesV inn x (l.drop (l.length - k)) out).2) := by
    unfold stepW
    rw [if_neg (by omega), hk0]
  rw [hs]
  have hp := vPop_spec 0 (l.map encT) l.length k hlk (by simp) (by simp; omega) (encT2 l)
  have hlast : ((l.map encT).drop (l.length - k)).take k = (l.drop (l.length - k)).map encT := by
    rw [List.take_of_length_le (by simp; omega), List.map_drop]
  rw [hlast] at hp
  have hc := comesV_spec p inn (W.map encW) out x (l.drop (l.length - k)) hw (fun h => by have := hjf h; simp; omega) (by simp; omega) (fun a1 a2 a3 a4 a5 => by
    have := hop hlk a1 a2 a3 a4 a5
    simpa using this)
  have hml := comesV_len inn x (l.drop (l.length - k)) out
  simp only [SH] at hp
  simp only [CHv, cBox, encI_eta, List.length_map] at hc
  generalize comesV inn x (l.drop (l.length - k)) out = m at *
  obtain ⟨⟨more, e⟩, out'⟩ := m
  simp only at hc hml ⊢
  refine aCallF_of [5, 4] hp rfl (by simp [renF]) (by simp) (by simp [framed, renF]) (by simp [AV.under, AV.under1]) (by simp [Ob.below, AV.under1]) ?_
  simp -implicitDefEqProofs [renF, frameH, setAll]
  rw [ver_checker_place_c3_eq]
  unfold ver_checker_place_P3
  simp -implicitDefEqProofs
  rw [ver_checker_place_c5_eq]
  unfold ver_checker_place_P5
  simp -implicitDefEqProofs
  refine aCallN_of [1, 2] hc rfl (by simp [renF, treeA]) (by simp) (by simp [framed, renF]) (by simp [AV.under, AV.under1]) (by simp [Ob.below, AV.under1]) ?_
  simp -implicitDefEqProofs [renF, frameH, setAll]
  rw [ver_checker_place_c6_eq]
  unfold ver_checker_place_P6
  simp -implicitDefEqProofs
  rw [ver_checker_place_c7_eq]
  unfold ver_checker_place_P7
  simp -implicitDefEqProofs [aRes, tupOf]
  refine ⟨fun z => ?_, fun z => ?_⟩
  · rw [if_neg z]
    exact gives_CHm rfl
  rw [if_pos z]
  rw [ver_checker_place_c8_eq]
  unfold ver_checker_place_P8
  simp -implicitDefEqProofs
  intro hmax
  rw [ver_checker_place_c9_eq]
  unfold ver_checker_place_P9
  simp -implicitDefEqProofs
  obtain ⟨base, hbase⟩ : ∃ b, l.take (l.length - k) = b := ⟨_, rfl⟩
  have hbl : base.length = l.length - k := by rw [← hbase]; simp
  rw [hbase]
  refine loop_by (σ := Nat) (n := 7) (fun j => [.p (.int .i64 j)]) (fun j => heapB p inn W out' x j (esW base more l j) (l.length - k + j) ++ [.row k 2]) (fun j => j ≤ more.length) (fun j => more.length - j) [] 0 (fun _ => rfl) ⟨rfl, rfl⟩ (by simp) (fun j Bk hj hB => ?_)
  simp -implicitDefEqProofs [ver_checker_place_L1, heapB, boxM, boxX]
  constructor
  · intro hlt
    have hes := esW_len base more l _ j hbl (by omega) hj
    have hpu := vPush_spec j (esW base more l j) (l.length - k + j) more[j] hes.1 (by omega) (esW_two base more l j)
    rw [esW_step base more l _ j hbase hbl hlt] at hpu
    simp only [SH, encT_eta] at hpu
    have hmj : (Option.map encT more[j]?).getD default = encT more[j] := by simp [hlt]
    rw [hmj]
    simp -implicitDefEqProofs only [hlt, forall_const, true_and]
    simp -implicitDefEqProofs
    rw [ver_checker_place_c11_eq]
    unfold ver_checker_place_P11
    simp -implicitDefEqProofs
    refine aCallN_of [5, 4] hpu rfl (by simp [renF, treeA]) (by simp) (by simp [framed, renF]) (by simp [AV.under, AV.under1]) (by simp [Ob.below, AV.under1]) ?_
    simp -implicitDefEqProofs [renF, frameH, setAll]
    rw [ver_checker_place_c12_eq]
    unfold ver_checker_place_P12
    simp -implicitDefEqProofs
    rw [IntWalk.i64_in _ (by omega)]
    exact hB (j + 1) _ (by omega) (by omega) (by simp [heapB, boxM, boxX, Nat.add_assoc]) (by simp [Ob.below, AV.under1]) (by simp) (by simp [AV.under, AV.under1])
  · intro hge
    have hjm' : j = more.length := by omega
    subst hjm'
    rw [ver_checker_place_c13_eq]
    have hql : (base ++ more).length = l.length - k + more.length := by simp [hbl]
    have hes := esW_len base more l _ more.length hbl (by omega) (Nat.le_refl _)
    have ht := tailB p inn W out' i x more.length (esW base more l more.length) (base ++ more) [.row k 2] hi hpl hW hjm (by rw [hql, esW_take base more l _ more.length hbase hbl (Nat.le_refl _), List.take_length]) (by omega) (esW_two base more l _) (tailW p W i x (base ++ more)).1 (tailW p W i x (base ++ more)).2 (Prod.eta _).symm
    rw [hql] at ht
    simp only [heapB, boxM, boxX, List.cons_append, List.nil_append] at ht
    exact ht

set_option maxHeartbeats 4000000 in
theorem placeV_spec (p : List In) (inn : Ty) (W : List (Option (List Ty))) (out : Option Ty) (i : Nat) (x : In) (l : List Ty) (hi : i < p.length) (hpl : p.length ≤ 4096) (hW : W.length = p.length) (hpi : p[i] = x) (hwi : W[i]'(by omega) = some l) (hx : OkPl p i x l) (hll : l.length ≤ 128) :
    Abs.Fn Tryz.prog ver_checker_place_i (CHm p inn W out) [.bptr 1 0, .p (.int .i64 i)] (.p (.int .i64 (stepW p inn W out i x l).1)) (CHm p inn (stepW p inn W out i x l).2.1 (stepW p inn W out i x l).2.2) := by
  have hiW : i < W.length := by omega
  have htw := twin_mode l (by omega)
  have fA := frontA p inn W out i x l hi hpl hW hx hll
  have fB := frontB p inn W out i x l hi hpl hW hx hll
  have hlen : (CHm p inn W out).length = 3 := rfl
  generalize stepW p inn W out i x l = R at *
  simp only [heapA, heapB, boxM, boxX] at fA fB
  refine fn_intro mixed ver_checker_place_ann (fn := Tryz.f38) (by kernel_rfl) (by kernel_rfl) ?_
  rw [ver_checker_place_eq]
  unfold ver_checker_place_P0
  simp -implicitDefEqProofs [CHm, boxM, hi, hiW, hpi, encI_eta, hwi, encW]
  repeat' apply And.intro
  all_goals
    refine aCallF_of [0] htw rfl (by simp [renF]) (by simp) (by simp [framed, renF]) (by simp [AV.under, AV.under1]) (by simp [Ob.below, AV.under1]) ?_
    simp -implicitDefEqProofs [renF, frameH, setAll, hi, hiW, hpi, encI_eta, hwi, encW, hlen]
    rw [ver_checker_place_c2_eq]
    first
    | exact fA
    | exact fB

end Go.Proofs.YtgfnodmghaghpaaGreatDoor
end

section
/- The checker's state and the document's: alike. No program in sight. -/
set_option linter.unusedSimpArgs false
set_option linter.unusedVariables false
namespace Go.Proofs.YtgfnodmghaghpaaGreatDoor
open Go Go.Abs

def outR (a : Ty) : Option Ty → Prop
  | none => a = noTy
  | some t => a = t ∧ checkT t 0 = 0

/-- How the checker's state stands to the document's. -/
structure InvW (n : Nat) (st : LkSt) (W : List (Option (List Ty))) (out : Option Ty) : Prop where
  len : W.length = n
  ok : OkSt n st
  way : ∀ j, W.getD j none = if st.kn.getD j false = true then some (st.ways.getD j []) else none
  good : ∀ j l, W.getD j none = some l → l.length ≤ 128 ∧ ∀ t ∈ l, checkT t 0 = 0
  outp : outR st.out out

theorem kind_ok {t : Ty} {d : Int} (h : checkT t d = 0) : t.kind ≠ 0 := by
  obtain ⟨k, of⟩ := t
  intro hk
  simp at hk
  subst hk
  simp [checkT] at h

theorem emitsT_some (u : Ty) (hu : u.kind ≠ 0) : ∀ l : List Ty, (∀ t ∈ l, t.kind ≠ 0) → ((∀ t ∈ l, t = u) → emitsT u l = (u, 0)) ∧ (¬ (∀ t ∈ l, t = u) → (emitsT u l).2 = 5)
  | [], _ => ⟨fun _ => rfl, fun h => absurd (by simp) h⟩
  | t :: r, hl => by
    by_cases e : t = u
    · subst e
      have hs : sameT t t = true := (sameT_iff t t).2 rfl
      have he : emitsT t (t :: r) = emitsT t r := by simp [emitsT, hs]
      rw [he]
      obtain ⟨h1, h2⟩ := emitsT_some t hu r fun v hv => hl v (by simp [hv])
      exact ⟨fun h => h1 fun v hv => h v (by simp [hv]), fun h => h2 fun h' => h (by simpa using h')⟩
    · have hs : sameT u t = false := by
        cases h : sameT u t with
        | false => rfl
        | true => exact absurd ((sameT_iff _ _).1 h).symm e
      have he : emitsT u (t :: r) = (u, 5) := by simp [emitsT, hs, hu]
      rw [he]
      exact ⟨fun h => absurd (h t (by simp)) e, fun _ => rfl⟩

theorem all_same (l : List Ty) (t : Ty) : l.all (fun u => sameT u t) = true ↔ ∀ u ∈ l, u = t := by
  rw [List.all_eq_true]
  exact ⟨fun h u hu => (sameT_iff _ _).1 (h u hu), fun h u hu => (sameT_iff _ _).2 (h u hu)⟩

theorem emits_same {a : Ty} {out : Option Ty} (l : List Ty) (ho : outR a out) (hl' : ∀ t ∈ l, checkT t 0 = 0) : (emitsV out l).2 = (emitsT a l).2 ∧ ((emitsT a l).2 = 0 → outR (emitsT a l).1 (emitsV out l).1) := by
  have hl : ∀ t ∈ l, t.kind ≠ 0 := fun t ht => kind_ok (hl' t ht)
  cases l with
  | nil => exact ⟨rfl, fun _ => ho⟩
  | cons t r =>
    have ht := hl t (by simp)
    have ht' := hl' t (by simp)
    cases out with
    | none =>
      have ha : a = noTy := ho
      have he : emitsT a (t :: r) = emitsT t r := by rw [ha]; simp [emitsT, noTy]
      rw [he]
      obtain ⟨h1, h2⟩ := emitsT_some t ht r fun v hv => hl v (by simp [hv])
      by_cases hr : ∀ u ∈ r, u = t
      · rw [h1 hr]
        have : (t :: r).all (fun u => sameT u t) = true := (all_same _ _).2 (by simpa using hr)
        simp only [emitsV, this]
        exact ⟨rfl, fun _ => ⟨rfl, ht'⟩⟩
      · have hb : (t :: r).all (fun u => sameT u t) = false := by
          cases hh : (t :: r).all (fun u => sameT u t) with
          | false => rfl
          | true => exact absurd (by simpa using (all_same _ _).1 hh) hr
        simp only [emitsV, hb, if_true]
        have := h2 hr
        exact ⟨this.symm, fun h => by omega⟩
    | some u =>
      obtain ⟨ha, hu'⟩ := ho
      have hu := kind_ok hu'
      subst ha
      obtain ⟨h1, h2⟩ := emitsT_some a hu (t :: r) hl
      by_cases hr : ∀ v ∈ t :: r, v = a
      · rw [h1 hr]
        have e : t = a := hr t (by simp)
        subst e
        have hb : (t :: r).all (fun u => sameT u t) = true := (all_same _ _).2 hr
        have hs : sameT t t = true := (sameT_iff t t).2 rfl
        simp only [emitsV, hb, hs]
        exact ⟨rfl, fun _ => ⟨rfl, ht'⟩⟩
      · have h5 := h2 hr
        refine ⟨?_, fun h => by omega⟩
        rw [h5]
        by_cases hb : (t :: r).all (fun u => sameT u t) = true
        · have hs : sameT a t = false := by
            cases hh : sameT a t with
            | false => rfl
            | true =>
              have e := (sameT_iff _ _).1 hh
              rw [e] at hr
              exact absurd ((all_same _ _).1 hb) hr
          simp only [emitsV, hb, hs]
          rfl
        · simp only [emitsV, show (t :: r).all (fun u => sameT u t) = false by simpa using hb, if_true]

theorem comes_made {a : Ty} {out : Option Ty} (inn : Ty) (x : In) (l : List Ty) (ho : outR a out) (hl : ∀ t ∈ l, checkT t 0 = 0) (hv : x.op = oPush → checkV x.v 0 = 0) :
    (comesV inn x l out).1.2 = (madeT x inn l a).1.2 ∧ ((madeT x inn l a).1.2 = 0 → (comesV inn x l out).1.1 = (madeT x inn l a).1.1.toList ∧ outR (madeT x inn l a).2 (comesV inn x l out).2) := by
  unfold comesV madeT
  by_cases c1 : x.op = oPush
  · rw [if_pos c1, if_pos c1]
    exact ⟨rfl, fun _ => ⟨by simp [typeOfV, hv c1], ho⟩⟩
  rw [if_neg c1, if_neg c1]
  by_cases c2 : x.op = oX
  · rw [if_pos c2, if_pos c2]
    exact ⟨rfl, fun _ => ⟨rfl, ho⟩⟩
  rw [if_neg c2, if_neg c2]
  by_cases c3 : x.op = oJmp ∨ x.op = oRet'
  · have n1 : x.op ≠ oJf := by rcases c3 with e | e <;> (rw [e]; decide)
    have n2 : x.op ≠ oEmit' := by rcases c3 with e | e <;> (rw [e]; decide)
    rw [if_pos c3, if_neg n1, if_neg n2, if_pos c3]
    exact ⟨rfl, fun _ => ⟨rfl, ho⟩⟩
  rw [if_neg c3]
  by_cases c4 : x.op = oJf
  · rw [if_pos c4, if_pos c4]
    exact ⟨rfl, fun _ => ⟨rfl, ho⟩⟩
  rw [if_neg c4, if_neg c4]
  by_cases c5 : x.op = oEmit'
  · rw [if_pos c5, if_pos c5]
    obtain ⟨h1, h2⟩ := emits_same l ho hl
    exact ⟨h1, fun h => ⟨rfl, h2 h⟩⟩
  rw [if_neg c5, if_neg c5, if_neg c3]
  exact ⟨rfl, fun _ => ⟨rfl, ho⟩⟩

theorem made_valid {x : In} {inn : Ty} {l : List Ty} {a : Ty} (hinn : checkT inn 0 = 0) (hl : ∀ t ∈ l, checkT t 0 = 0) (hv : x.op = oPush → checkV x.v 0 = 0) (hm : x.op ∈ opsAll) (h : (madeT x inn l a).1.2 = 0) : ∀ t ∈ (madeT x inn l a).1.1.toList, checkT t 0 = 0 := by
  unfold madeT at h ⊢
  by_cases c1 : x.op = oPush
  · rw [if_pos c1]
    simp
    exact kindV_check _ _ (hv c1)
  rw [if_neg c1] at h ⊢
  by_cases c2 : x.op = oX
  · rw [if_pos c2]
    simpa using hinn
  rw [if_neg c2] at h ⊢
  by_cases c4 : x.op = oJf
  · rw [if_pos c4]; simp
  rw [if_neg c4] at h ⊢
  by_cases c5 : x.op = oEmit'
  · rw [if_pos c5]; simp
  rw [if_neg c5] at h ⊢
  by_cases c3 : x.op = oJmp ∨ x.op = oRet'
  · rw [if_pos c3]; simp
  rw [if_neg c3] at h ⊢
  have c3a : x.op ≠ oJmp := fun e => c3 (.inl e)
  have c3b : x.op ≠ oRet' := fun e => c3 (.inr e)
  simp only at h ⊢
  cases hu : opT x.op x.n l with
  | er e => rw [hu] at h; exact absurd h (opT_er hu)
  | ok u =>
    have := opT_valid hu hl (by
      simp only [opsAll, List.mem_cons, List.not_mem_nil, or_false] at hm
      rcases hm with h | h | h | h | h | h | h | h | h | h | h | h | h | h | h | h | h | h | h
      all_goals first
        | exact absurd h c1
        | exact absurd h c2
        | exact absurd h c4
        | exact absurd h c5
        | exact absurd h c3a
        | exact absurd h c3b
        | (rw [h]; decide))
    intro t ht
    simp only [R.get, Option.toList, List.mem_singleton] at ht
    rw [ht]
    exact this

theorem lead_same {n k : Nat} {st : LkSt} {W : List (Option (List Ty))} {out : Option Ty} (s : List Ty) (h : InvW n st W out) (hk : k < n) (hs : s.length ≤ 128) (hv : ∀ t ∈ s, checkT t 0 = 0) :
    (leadW W k s).1 = (leadT st k s).1 ∧ InvW n (leadT st k s).2 (leadW W k s).2 out := by
  have hw := h.way k
  have hlen := h.len
  unfold leadW leadT
  cases hkn : st.kn.getD k false with
  | false =>
    rw [hkn] at hw
    simp only [Bool.false_eq_true, if_false] at hw
    rw [hw]
    simp only [if_true]
    refine ⟨by trivial, by simp [h.len], ⟨by simp [h.ok.1], by simp [h.ok.2]⟩, fun j => ?_, fun j l hj => ?_, h.outp⟩
    · have hj := h.way j
      by_cases e : k = j
      · subst e
        simp [List.getD_eq_getElem?_getD, List.getElem?_set, h.len, h.ok.1, h.ok.2, hk]
      · simp only [List.getD_eq_getElem?_getD, List.getElem?_set, if_neg e] at hj ⊢
        exact hj
    · by_cases e : k = j
      · subst e
        simp [List.getD_eq_getElem?_getD, List.getElem?_set, h.len, hk] at hj
        subst hj
        exact ⟨hs, hv⟩
      · refine h.good j l ?_
        simp only [List.getD_eq_getElem?_getD, List.getElem?_set, if_neg e] at hj ⊢
        exact hj
  | true =>
    rw [hkn] at hw
    simp only [if_true] at hw
    rw [hw]
    simp only [Bool.true_eq_false, if_false]
    split
    · exact ⟨rfl, h⟩
    · exact ⟨rfl, h⟩

theorem tail_same {p : List In} {i : Nat} {x : In} {st : LkSt} {W : List (Option (List Ty))} {out : Option Ty} (s : List Ty) (h : InvW p.length st W out) (hi : i < p.length) (hj : x.op = oJmp ∨ x.op = oJf → (i : Int) < x.n ∧ x.n < p.length) (hv : ∀ t ∈ s, checkT t 0 = 0) :
    (tailW p W i x s).1 = (tailT p i x st s).1 ∧ ((tailT p i x st s).1 = 0 → InvW p.length (tailT p i x st s).2 (tailW p W i x s).2 out) := by
  have jr : oJmp ≠ oRet' := by decide
  unfold tailW tailT
  by_cases c1 : 128 < s.length ∨ (x.op = oRet' ∧ 0 < s.length)
  · rw [if_pos c1, if_pos (by rcases c1 with c | c; exact .inl c; exact .inr (.inl c))]
    exact ⟨rfl, fun h => by simp at h⟩
  rw [if_neg c1]
  by_cases c2 : x.op = oRet'
  · rw [if_neg (by rintro (c | c | c); exact c1 (.inl c); exact c1 (.inr c); exact c.2.1 c2), if_pos c2, if_pos c2]
    exact ⟨rfl, fun _ => h⟩
  rw [if_neg c2, if_neg c2]
  by_cases c3 : x.op ≠ oJmp ∧ i + 1 = p.length
  · rw [if_pos c3, if_pos (.inr (.inr ⟨c3.2, c2, c3.1⟩))]
    exact ⟨rfl, fun h => by simp at h⟩
  rw [if_neg c3, if_neg (by rintro (c | c | c); exact c1 (.inl c); exact c1 (.inr c); exact c3 ⟨c.2.2, c.1⟩)]
  have hs : s.length ≤ 128 := by omega
  by_cases c4 : x.op = oJmp
  · rw [if_pos c4, if_pos c4]
    have := hj (.inl c4)
    obtain ⟨a, b⟩ := lead_same (k := x.n.toNat) s h (by omega) hs hv
    exact ⟨a, fun _ => b⟩
  rw [if_neg c4, if_neg c4]
  have hi1 : i + 1 < p.length := by
    have : ¬ i + 1 = p.length := fun e => c3 ⟨c4, e⟩
    omega
  by_cases c5 : x.op = oJf
  · rw [if_pos c5, if_pos c5]
    have := hj (.inr c5)
    obtain ⟨a, b⟩ := lead_same (k := x.n.toNat) s h (by omega) hs hv
    rw [a]
    by_cases z : (leadT st x.n.toNat s).1 ≠ 0
    · rw [if_pos z, if_pos z]
      exact ⟨a, fun h => absurd h z⟩
    · rw [if_neg z, if_neg z]
      obtain ⟨a', b'⟩ := lead_same (k := i + 1) s b hi1 hs hv
      exact ⟨a', fun _ => b'⟩
  · rw [if_neg c5, if_neg c5]
    obtain ⟨a', b'⟩ := lead_same (k := i + 1) s h hi1 hs hv
    exact ⟨a', fun _ => b'⟩

theorem step_same {p : List In} {i : Nat} {x : In} {st : LkSt} {W : List (Option (List Ty))} {out : Option Ty} {l : List Ty} {inn : Ty} (h : InvW p.length st W out) (hx : p[i]? = some x) (hE : instE p.length i x = 0) (hinn : checkT inn 0 = 0) (hwl : W.getD i none = some l) :
    (stepW p inn W out i x l).1 = (stepT p i inn st).1 ∧ ((stepT p i inn st).1 = 0 → InvW p.length (stepT p i inn st).2 (stepW p inn W out i x l).2.1 (stepW p inn W out i x l).2.2) := by
  obtain ⟨k, hk, hk8, hj, htup, hmem, hpush⟩ := tk_nat hE
  have hi : i < p.length := (List.getElem?_eq_some_iff.1 hx).1
  have hgx : p.getD i noI = x := by simp [List.getD_eq_getElem?_getD, hx]
  have hway := h.way i
  rw [hwl] at hway
  have hwi : st.ways.getD i [] = l := by
    split at hway
    · exact (Option.some.inj hway).symm
    · simp at hway
  obtain ⟨g1, g2⟩ := h.good i l hwl
  have hst : stepT p i inn st = if (l.length : Int) < tkN x.op x.n then (12, st) else if (madeT x inn (l.drop (l.length - (tkN x.op x.n).toNat)) st.out).1.2 ≠ 0 then ((madeT x inn (l.drop (l.length - (tkN x.op x.n).toNat)) st.out).1.2, { st with out := (madeT x inn (l.drop (l.length - (tkN x.op x.n).toNat)) st.out).2 })
      else tailT p i x { st with out := (madeT x inn (l.drop (l.length - (tkN x.op x.n).toNat)) st.out).2 } (l.take (l.length - (tkN x.op x.n).toNat) ++ (madeT x inn (l.drop (l.length - (tkN x.op x.n).toNat)) st.out).1.1.toList) := by
    unfold stepT tailT
    simp only [hgx, hwi]
  rw [hst]
  unfold stepW
  by_cases c1 : (l.length : Int) < tkN x.op x.n
  · rw [if_pos c1, if_pos c1]
    exact ⟨rfl, fun h => by simp at h⟩
  rw [if_neg c1, if_neg c1]
  have hd : ∀ t ∈ l.drop (l.length - (tkN x.op x.n).toNat), checkT t 0 = 0 := fun t ht => g2 t (List.mem_of_mem_drop ht)
  obtain ⟨m1, m2⟩ := comes_made inn x (l.drop (l.length - (tkN x.op x.n).toNat)) h.outp hd hpush
  have m3 := made_valid (a := st.out) hinn hd hpush hmem
  rw [m1]
  by_cases c2 : (madeT x inn (l.drop (l.length - (tkN x.op x.n).toNat)) st.out).1.2 ≠ 0
  · rw [if_pos c2, if_pos c2]
    exact ⟨rfl, fun h => absurd h c2⟩
  rw [if_neg c2, if_neg c2]
  have c2 := Classical.not_not.1 c2
  obtain ⟨m4, m5⟩ := m2 c2
  rw [m4]
  have hI : InvW p.length { st with out := (madeT x inn (l.drop (l.length - (tkN x.op x.n).toNat)) st.out).2 } W (comesV inn x (l.drop (l.length - (tkN x.op x.n).toNat)) out).2 := ⟨h.len, h.ok, h.way, h.good, m5⟩
  exact tail_same _ hI hi hj fun t ht => by
    rcases List.mem_append.1 ht with ht | ht
    · exact g2 t (List.mem_of_mem_take ht)
    · exact m3 c2 t ht

theorem okPl {p : List In} {i : Nat} {x : In} {l : List Ty} (hE : instE p.length i x = 0) (hl : ∀ t ∈ l, checkT t 0 = 0) : OkPl p i x l := by
  obtain ⟨k, hk, hk8, hj, htup, hmem, hpush⟩ := tk_nat hE
  refine ⟨k, hk, fun h => checkV_wv x.v 0 h, fun h => ?_, fun hkl a1 a2 a3 a4 a5 => ⟨?_, ?_, fun t ht => hl t (List.mem_of_mem_drop ht)⟩, fun h => by have := hj h; omega⟩
  · rw [h] at hk
    simp [tkN, oJf, oPush, oX, oJmp, oRet', oTup, oEmit'] at hk
    omega
  · simp only [opsAll, List.mem_cons, List.not_mem_nil, or_false] at hmem
    rcases hmem with h | h | h | h | h | h | h | h | h | h | h | h | h | h | h | h | h | h | h <;> (rw [h]; decide)
  · have hlen : (l.drop (l.length - k)).length = k := by simp; omega
    rw [hlen]
    have a3a : x.op ≠ oJmp := fun e => a3 (.inl e)
    have a3b : x.op ≠ oRet' := fun e => a3 (.inr e)
    by_cases c : x.op = oTup
    · have := htup c
      rw [c] at hk ⊢
      simp [tkN, oTup, oPush, oX, oJmp, oRet'] at hk
      exact ⟨_, rfl, by simp [ArOk']; omega⟩
    simp only [opsAll, List.mem_cons, List.not_mem_nil, or_false] at hmem
    rcases hmem with h | h | h | h | h | h | h | h | h | h | h | h | h | h | h | h | h | h | h
    all_goals first
      | exact absurd h a1
      | exact absurd h a2
      | exact absurd h a3a
      | exact absurd h a3b
      | exact absurd h a4
      | exact absurd h a5
      | exact absurd h c
      | (rw [h] at hk ⊢; simp [tkN, oTup, oPush, oX, oJmp, oRet', oEmit', oAt, oNeg, oNot, oLen, oJf, oAdd, oSub, oMul, oDiv, oRem, oEq, oLt, oCat] at hk; exact ⟨_, rfl, by simp [ArOk', numSh, askSh]; omega⟩)

theorem verL_valid {p : List In} {inn : Ty} (hp : ∀ (j : Nat) (x : In), p[j]? = some x → instE p.length j x = 0) (hinn : checkT inn 0 = 0) : ∀ (n i : Nat) (st : LkSt) (W : List (Option (List Ty))) (out : Option Ty), n + i = p.length → InvW p.length st W out → (verL p inn n i st).1 = noTy ∨ checkT (verL p inn n i st).1 0 = 0
  | 0, i, st, W, out, hn, h => by
    simp only [verL]
    have ho := h.outp
    cases out with
    | none => exact .inl ho
    | some t => right; rw [ho.1]; exact ho.2
  | n + 1, i, st, W, out, hn, h => by
    simp only [verL]
    by_cases hk : st.kn.getD i false = false
    · rw [if_pos hk]
      exact verL_valid hp hinn n (i + 1) st W out (by omega) h
    rw [if_neg hk]
    have hway := h.way i
    rw [if_pos (by simpa using hk)] at hway
    have hx : p[i]? = some (p[i]'(by omega)) := List.getElem?_eq_getElem (by omega)
    obtain ⟨_, h2⟩ := step_same (inn := inn) h hx (hp i _ hx) hinn hway
    by_cases hz : (stepT p i inn st).1 ≠ 0
    · rw [if_pos hz]; exact .inl rfl
    · rw [if_neg hz]
      exact verL_valid hp hinn n (i + 1) _ _ _ (by omega) (h2 (Classical.not_not.1 hz))

theorem inv0 (p : List In) (hp : 0 < p.length) : InvW p.length (st0 p.length) ((List.replicate p.length none).set 0 (some [])) none := by
  refine ⟨by simp, ⟨by simp [st0], by simp [st0]⟩, fun j => ?_, fun j l hj => ?_, rfl⟩
  · by_cases e : 0 = j
    · subst e
      simp [st0, List.getD_eq_getElem?_getD, List.getElem?_set, List.getElem?_replicate, hp]
    · simp [st0, List.getD_eq_getElem?_getD, List.getElem?_set, List.getElem?_replicate, e]
      split <;> simp
  · have hl : l = [] := by
      by_cases e : 0 = j
      · subst e
        simp [List.getD_eq_getElem?_getD, List.getElem?_set, hp] at hj
        exact hj
      · simp [List.getD_eq_getElem?_getD, List.getElem?_set, List.getElem?_replicate, e] at hj
        split at hj <;> simp at hj
    subst hl
    simp

theorem verP_valid (p : List In) (inn : Ty) : (verP p inn).1 = noTy ∨ checkT (verP p inn).1 0 = 0 := by
  unfold verP
  by_cases h1 : (checkP p).2 ≠ 0
  · rw [if_pos h1]; exact .inl rfl
  rw [if_neg h1]
  by_cases h2 : checkT inn 0 ≠ 0
  · rw [if_pos h2]; exact .inl rfl
  rw [if_neg h2]
  obtain ⟨k0, k1, k2⟩ := checkP_ok (by simpa using h1)
  exact verL_valid k2 (by simpa using h2) p.length 0 _ _ _ (by omega) (inv0 p k0)

end Go.Proofs.YtgfnodmghaghpaaGreatDoor
end

section
/- ver.Check over trees. -/
set_option linter.unusedSimpArgs false
set_option linter.unusedVariables false
namespace Go.Proofs.YtgfnodmghaghpaaGreatDoor
open Go Go.Abs

attribute [local irreducible] Abs.Fn

def VH (p : List In) (inn : Ty) (W : List (Option (List Ty))) (out : Option Ty) : List Ob := [.mode, .box [.p (.int .i64 inn.kind), .p (.slice (inn.of.map encT))], .box [.p (.int .i64 0), .full []], .mrow 0 1 (W.map encW), .box [.p (.slice (p.map encI)), .p (.int .i64 inn.kind), .p (.slice (inn.of.map encT)), .msl 3 0 1 0 W.length, .p (outV out)], .fz [.slice []]]

set_option maxHeartbeats 4000000 in
theorem VCheck_spec (p : List In) (inn : Ty) (hl : p.length ≤ 1000000) : Abs.Fn Tryz.prog ver_Check_i [] [.p (.slice (p.map encI)), .p (encT inn)] (verR (verP p inn)) [] := by
  have hck := CheckC_spec p hl
  have hct := Check_spec inn
  have hvp : verP p inn = if (checkP p).2 ≠ 0 then (noTy, (checkP p).1, (checkP p).2) else if checkT inn 0 ≠ 0 then (noTy, 0, 5) else verL p inn p.length 0 (st0 p.length) := rfl
  have hok := verP_chk (p := p)
  generalize verP p inn = res at *
  generalize checkP p = c at *
  obtain ⟨ck, ce⟩ := c
  simp only [encT_eta] at hck hct hvp hok
  apply fn_mode
  apply ver_Check_fnH
  simp -implicitDefEqProofs [ver_Check]
  refine aCallW_of rfl rfl hck ?_
  simp -implicitDefEqProofs
  refine ⟨fun he => ?_, fun he => ?_⟩
  · rw [hvp, if_pos he]
    exact gives_moded (gives_pure (by simp [AV.pur, verR, toTs, noTy])) rfl
  rw [if_neg (by simpa using he)] at hvp
  refine aCallW_of rfl rfl hct ?_
  simp -implicitDefEqProofs
  refine ⟨fun ht => ?_, fun ht => ?_⟩
  · rw [hvp, if_pos ht]
    exact gives_moded (gives_pure (by simp [AV.pur, verR, toTs, noTy])) rfl
  rw [if_neg (by simpa using ht)] at hvp
  obtain ⟨hp0, hp1, hpe⟩ := hok he
  have hml : p.length ≤ maxLen := by simp only [maxLen]; omega
  have hW0 : (List.replicate p.length (T.raw (Value.pointer none))).set 0 (((List.replicate p.length (T.raw (Value.pointer none)))[0]?.getD default).putT 0 [T.imm [T.slice []] 0]) = ((List.replicate p.length none).set 0 (some [])).map encW := by
    simp [List.map_set, List.getElem?_replicate, hp0, encW]
  simp -implicitDefEqProofs [hml]
  rw [hW0]
  have hin0 := inv0 p hp0
  refine ⟨by omega, hp0, ?_⟩
  refine loop_by (σ := Nat × LkSt × List (Option (List Ty)) × Option Ty) (n := 6) (fun q => [.p (.int .i64 q.1)]) (fun q => VH p inn q.2.2.1 q.2.2.2) (fun q => q.1 ≤ p.length ∧ InvW p.length q.2.1 q.2.2.1 q.2.2.2 ∧ verL p inn (p.length - q.1) q.1 q.2.1 = res) (fun q => p.length - q.1) [] (0, st0 p.length, (List.replicate p.length none).set 0 (some []), none) (fun _ => rfl) ?_ ⟨by simp, hin0, hvp.symm⟩ ?_
  · simp [ghosts, VH, outV]
  rintro ⟨i, st, W, out⟩ B ⟨h1, h2, h3⟩ hB
  simp only at h1 h2 h3 hB ⊢
  have hwl := h2.len
  simp -implicitDefEqProofs [ver_Check_L1, VH]
  constructor
  · intro hi
    have hiW : i < W.length := by omega
    refine ⟨hiW, ?_⟩
    obtain ⟨w, hw⟩ : ∃ w, W[i]? = some w := ⟨_, List.getElem?_eq_getElem hiW⟩
    have hwd : W.getD i none = w := by simp [List.getD_eq_getElem?_getD, hw]
    have hv := h3
    rw [show p.length - i = (p.length - (i + 1)) + 1 by omega] at hv
    simp only [verL] at hv
    have hway := h2.way i
    rw [hwd] at hway
    have w1 : IntKind.i64.wrap ((i : Int) + 1) = ((i + 1 : Nat) : Int) := by rw [IntWalk.i64_in _ (by omega)]; omega
    rw [w1]
    cases w with
    | none =>
      have hkn : st.kn.getD i false = false := by
        cases hk : st.kn.getD i false with
        | false => rfl
        | true => rw [hk] at hway; simp at hway
      rw [if_pos hkn] at hv
      simp -implicitDefEqProofs [hw, encW]
      refine ⟨rfl, ?_⟩
      simp -implicitDefEqProofs
      exact hB (i + 1, st, W, out) _ ⟨by simp only; omega, h2, hv⟩ (by simp only; omega) (by simp [VH]) (by simp [Ob.below, AV.under1]) (by simp) (by simp [AV.under, AV.under1])
    | some l =>
      have hkn : ¬ st.kn.getD i false = false := fun hk => by rw [hk] at hway; simp at hway
      rw [if_neg hkn] at hv
      have hx : p[i]? = some p[i] := List.getElem?_eq_getElem hi
      obtain ⟨g1, g2⟩ := h2.good i l hwd
      obtain ⟨s1, s2⟩ := step_same (inn := inn) h2 hx (hpe i _ hx) (by simpa using ht) hwd
      have hpl := placeV_spec p inn W out i p[i] l hi hp1 hwl rfl (by rw [List.getElem?_eq_getElem hiW] at hw; exact Option.some.inj hw) (okPl (hpe i _ hx) g2) g1
      generalize stepW p inn W out i p[i] l = R at *
      obtain ⟨e, W', out'⟩ := R
      generalize stepT p i inn st = R' at *
      obtain ⟨e', st'⟩ := R'
      simp only at s1 s2 hpl hv
      subst s1
      simp -implicitDefEqProofs [hw, encW]
      simp only [CHm, boxM] at hpl
      refine aCallF_of [0, 4, 3] hpl rfl (by simp [renF]) (by simp) (by simp [framed, renF]) (by simp [AV.under, AV.under1]) (by simp [Ob.below, AV.under1]) ?_
      simp -implicitDefEqProofs [renF, frameH, setAll]
      refine ⟨fun z => ?_, fun z => ?_⟩
      · rw [if_pos z] at hv
        rw [← hv]
        exact gives_moded (gives_pure (by simp [AV.pur, verR, toTs, noTy])) rfl
      · rw [if_neg (by simpa using z)] at hv
        have e2 : W.length = W'.length := by rw [hwl, (s2 z).len]
        simp only [w1, e2]
        exact hB (i + 1, st', W', out') _ ⟨by simp only; omega, s2 z, hv⟩ (by simp only; omega) (by simp [VH]) (by simp [Ob.below, AV.under1]) (by simp) (by simp [AV.under, AV.under1])
  · intro hge
    have hn : p.length - i = 0 := by omega
    rw [hn] at h3
    simp only [verL] at h3
    have ho := h2.outp
    cases out with
    | none =>
      have e : st.out = noTy := ho
      rw [← h3, e]
      simp -implicitDefEqProofs [outV]
      exact gives_moded (gives_pure (by simp [AV.pur, verR, toTs, noTy])) rfl
    | some t =>
      have e : st.out = t := ho.1
      rw [← h3, e]
      simp -implicitDefEqProofs [outV]
      exact gives_moded (gives_pure (by simp [AV.pur, verR, toTs, encT_eta])) rfl

end Go.Proofs.YtgfnodmghaghpaaGreatDoor
end

section
/- The laws of sound programs: what is known, VerAny. -/
set_option linter.unusedSimpArgs false
set_option linter.unusedVariables false
namespace Go.Proofs.YtgfnodmghaghpaaGreatDoor
open Go Go.Abs

attribute [local irreducible] Abs.Fn

def intT : Ty := .mk 1 []
def kn1 : List In := [.mk oX zeroV 0, .mk oPush (intV 1) 0, .mk oLt zeroV 0, .mk oEmit' zeroV 1, .mk oRet' zeroV 0]
def kn2 : List In := [.mk oX zeroV 0, .mk oAdd zeroV 0, .mk oRet' zeroV 0]
def kn3 : List In := [.mk oX zeroV 0, .mk oRet' zeroV 0]

theorem kn1_r : verP kn1 intT = (.mk 2 [], 0, 0) := by rfl
theorem kn2_r : verP kn2 intT = (noTy, 1, 12) := by rfl
theorem kn3_r : verP kn3 intT = (noTy, 1, 12) := by rfl

theorem known13 : Abs.Fn Tryz.prog runnellaw13_known_i [] [] (.p (.bool true)) [] := by
  have r1 := VCheck_spec kn1 intT (by decide)
  have r2 := VCheck_spec kn2 intT (by decide)
  have r3 := VCheck_spec kn3 intT (by decide)
  rw [kn1_r] at r1
  rw [kn2_r] at r2
  rw [kn3_r] at r3
  apply runnellaw13_known_fn
  simp [runnellaw13_known]
  refine aCallT_of rfl (Int_spec 1) rfl ?_
  simp [intV]
  refine aCallT_of rfl r1 rfl ?_
  simp [verR]
  refine aCallW_of rfl rfl r2 ?_
  simp [verR]
  refine aCallW_of rfl rfl r3 ?_
  simp [verR]
  exact gives_p rfl

mutual
theorem ty_wd : ∀ {t : Ty} {d : Int}, checkT t d = 0 → 0 ≤ d → Wd 1000000000 t
  | .mk k of, d, h, hd => by
    unfold checkT at h
    split at h
    · split at h
      · rename_i e
        subst e
        exact .mk _ _ (by simp) (by simp)
      · simp at h
    · split at h
      · split at h
        · rename_i _ _ e
          exact absurd h e
        · rename_i _ _ e
          have e : rowE of.length d = 0 := Classical.not_not.1 e
          refine .mk _ _ ?_ (tys_wd h (by omega))
          unfold rowE at e
          repeat' split at e
          all_goals first
            | omega
            | simp at e
      · simp at h
theorem tys_wd : ∀ {l : List Ty} {d : Int}, checkTs l d = 0 → 0 ≤ d → ∀ t ∈ l, Wd 1000000000 t
  | [], d, h, hd => by simp
  | t :: r, d, h, hd => by
    simp only [checkTs] at h
    split at h
    · rename_i e; exact absurd h e
    · rename_i e
      intro u hu
      rcases List.mem_cons.1 hu with e' | hu
      · rw [e']; exact ty_wd (Classical.not_not.1 e) hd
      · exact tys_wd h hd u hu
end

theorem verP_wd (p : List In) (inn : Ty) : Wd 1000000000 (verP p inn).1 := by
  rcases verP_valid p inn with h | h
  · rw [h]; exact .mk _ _ (by simp) (by simp)
  · exact ty_wd h (by omega)

end Go.Proofs.YtgfnodmghaghpaaGreatDoor
end
