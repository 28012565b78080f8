/- The package ver over trees: one place. -/
import Derived.Test.YtcdkdmjedkhpiaaDoorZSpVerL
set_option linter.unusedSimpArgs false
set_option linter.unusedVariables false
namespace Go.Proofs.YtcdkdmjedkhpiaaDoor
open Go Go.Abs

attribute [local irreducible] Abs.Fn

/-- What comes of a stack after an instruction. -/
def tailW (p : List In) (W : List (Option (List Ty))) (i : Nat) (x : In) (s1 : List Ty) : Int × List (Option (List Ty)) :=
  if 128 < s1.length ∨ (x.op = oRet' ∧ 0 < s1.length) ∨ (i + 1 = p.length ∧ x.op ≠ oRet' ∧ x.op ≠ oJmp) then (12, W)
  else if x.op = oRet' then (0, W)
  else if x.op = oJmp then leadW W x.n.toNat s1
  else if x.op = oJf then (if (leadW W x.n.toNat s1).1 ≠ 0 then leadW W x.n.toNat s1 else leadW (leadW W x.n.toNat s1).2 (i + 1) s1)
  else leadW W (i + 1) s1

/-- One place: what is wrong there, the ways, what is let out. -/
def stepW (p : List In) (inn : Ty) (W : List (Option (List Ty))) (out : Option Ty) (i : Nat) (x : In) (l : List Ty) : Int × List (Option (List Ty)) × Option Ty :=
  if (l.length : Int) < tkN x.op x.n then (12, W, out)
  else if (comesV inn x (l.drop (l.length - (tkN x.op x.n).toNat)) out).1.2 ≠ 0 then ((comesV inn x (l.drop (l.length - (tkN x.op x.n).toNat)) out).1.2, W, (comesV inn x (l.drop (l.length - (tkN x.op x.n).toNat)) out).2)
  else ((tailW p W i x (l.take (l.length - (tkN x.op x.n).toNat) ++ (comesV inn x (l.drop (l.length - (tkN x.op x.n).toNat)) out).1.1)).1, (tailW p W i x (l.take (l.length - (tkN x.op x.n).toNat) ++ (comesV inn x (l.drop (l.length - (tkN x.op x.n).toNat)) out).1.1)).2, (comesV inn x (l.drop (l.length - (tkN x.op x.n).toNat)) out).2)

theorem leadW_len (W : List (Option (List Ty))) (k : Nat) (s : List Ty) : (leadW W k s).2.length = W.length := by
  unfold leadW
  split <;> simp

def boxM (p : List In) (inn : Ty) (n : Nat) (out : Option Ty) : Ob := .box [.p (.slice (p.map encI)), .p (.int .i64 inn.kind), .p (.slice (inn.of.map encT)), .msl 2 0 1 0 n, .p (outV out)]
def CHm (p : List In) (inn : Ty) (W : List (Option (List Ty))) (out : Option Ty) : List Ob := [.mode, boxM p inn W.length out, .mrow 0 1 (W.map encW)]
def boxX (x : In) : Ob := .box [.p (.str x.op), .p (.int .i64 x.v.k), .p (.int .i64 x.v.i), .p (.bool x.v.b), .p (.str x.v.s), .p (.slice (x.v.t.map encV)), .p (.int .i64 x.n)]

/-- What a place of a program that is right says of its instruction over a stack. -/
structure OkPl (p : List In) (i : Nat) (x : In) (l : List Ty) : Prop where
  ok : ∃ k : Nat, tkN x.op x.n = k ∧ (checkV x.v 0 = 0 → Wv 1000000000 x.v) ∧ (x.op = oJf → k = 1) ∧
    (k ≤ l.length → x.op ≠ oPush → x.op ≠ oX → ¬ (x.op = oJmp ∨ x.op = oRet') → x.op ≠ oJf → x.op ≠ oEmit' → x.op ≠ oLit ∧ (∃ s, lookS x.op shL = some s ∧ ArOk' s (l.drop (l.length - k)).length) ∧ ∀ t ∈ l.drop (l.length - k), checkT t 0 = 0) ∧
    (x.op = oJmp ∨ x.op = oJf → 0 ≤ x.n ∧ x.n < p.length)

theorem comesV_len (inn : Ty) (x : In) (l : List Ty) (out : Option Ty) : (comesV inn x l out).1.1.length ≤ 1 := by
  unfold comesV
  repeat' split
  all_goals simp

def esW (base more : List Ty) (l : List Ty) : Nat → List T
  | 0 => l.map encT
  | i + 1 => (base ++ more.take (i + 1)).map encT

theorem esW_take (base more l : List Ty) (n j : Nat) (hb : l.take n = base) (hn : base.length = n) (hj : j ≤ more.length) : (esW base more l j).take (n + j) = (base ++ more.take j).map encT := by
  cases j with
  | zero => simp [esW, ← hb, List.map_take]
  | succ j =>
    unfold esW
    rw [List.take_of_length_le]
    simp
    omega

theorem esW_len (base more l : List Ty) (n j : Nat) (hn : base.length = n) (hnl : n ≤ l.length) (hj : j ≤ more.length) : n + j ≤ (esW base more l j).length ∧ (esW base more l j).length ≤ l.length + more.length := by
  cases j with
  | zero => simp [esW]; omega
  | succ j => simp [esW]; omega

theorem esW_two (base more l : List Ty) (j : Nat) : ∀ e ∈ esW base more l j, e.cells.length = 2 := by
  cases j with
  | zero => exact encT2 l
  | succ j => exact encT2 _

theorem esW_step (base more l : List Ty) (n j : Nat) (hb : l.take n = base) (hn : base.length = n) (hj : j < more.length) : (esW base more l j).take (n + j) ++ [encT more[j]] = esW base more l (j + 1) := by
  rw [esW_take base more l n j hb hn (by omega)]
  show _ = (base ++ more.take (j + 1)).map encT
  rw [List.take_succ_eq_append_getElem hj, ← List.append_assoc]
  simp only [List.map_append, List.map_cons, List.map_nil]

theorem gives_CHm {p : List In} {inn : Ty} {W : List (Option (List Ty))} {n : Nat} (hn : n = W.length) {out : Option Ty} {e : Int} {Y : List Ob} : Gives 3 (.p (.int .i64 e)) ([.mode, .box [.p (.slice (p.map encI)), .p (.int .i64 inn.kind), .p (.slice (inn.of.map encT)), .msl 2 0 1 0 n, .p (outV out)], .mrow 0 1 (W.map encW)] ++ Y) (.p (.int .i64 e)) (CHm p inn W out) := by
  subst hn
  exact gives_ids [0, 1, 2] (by simp [renF]) rfl (by simp [CHm]) (by simp [framed, renF, CHm, boxM]) (by simp [AV.under, AV.under1]) (by simp [Ob.below, AV.under1, CHm, boxM])


def heapA (p : List In) (inn : Ty) (W : List (Option (List Ty))) (out : Option Ty) (x : In) (v : Nat) (es : List T) (n : Nat) : List Ob := [.mode, boxM p inn W.length out, .mrow 0 1 (W.map encW), .mrow v 2 es, .box [.msl 3 v 2 0 n], boxX x]

set_option maxHeartbeats 4000000 in
theorem tailA (p : List In) (inn : Ty) (W : List (Option (List Ty))) (out : Option Ty) (i : Nat) (x : In) (v : Nat) (es : List T) (q : List Ty) (Y : List Ob) (hi : i < p.length) (hpl : p.length ≤ 4096) (hW : W.length = p.length) (hj : x.op = oJmp ∨ x.op = oJf → 0 ≤ x.n ∧ x.n < p.length)
    (hq : es.take q.length = q.map encT) (hb : es.length ≤ 10000) (h5 : ∀ e ∈ es, e.cells.length = 2) (r : Int) (W' : List (Option (List Ty))) (hr : tailW p W i x q = (r, W')) :
    ver_checker_place_P13 (.bptr 1 0) (.p (.int .i64 i)) (.bptr 5 0) (.bptr 4 0) (heapA p inn W out x v es q.length ++ Y) (awp Tryd.prog ver_checker_place_ann) (kEnd Tryd.prog [.tmp 4] fun v H' => Gives 3 v H' (.p (.int .i64 r)) (CHm p inn W' out)) := by
  have hle : q.length ≤ es.length := by
    have := congrArg List.length hq
    simp at this
    omega
  have hlen := vLen_spec v es q.length hle (by omega)
  have hld : ∀ (W : List (Option (List Ty))) (k : Nat), W.length = p.length → k < p.length → _ := fun W k h1 h2 => leads_spec p inn W out v es q k (by omega) hq (by omega) h5
  simp only [SH] at hlen
  simp only [CHs, cBox, leadW_len] at hld
  unfold tailW at hr
  unfold ver_checker_place_P13
  simp -implicitDefEqProofs [heapA, boxM, boxX]
  refine aCallF_of [4, 3] hlen rfl (by simp [renF]) (by simp) (by simp [framed, renF]) (by simp [AV.under, AV.under1]) (by simp [Ob.below, AV.under1]) ?_
  simp -implicitDefEqProofs [renF, frameH, setAll]
  rw [ver_checker_place_c14_eq]
  unfold ver_checker_place_P14
  simp -implicitDefEqProofs
  refine ⟨fun h => ?_, fun h => ?_⟩
  · rw [if_pos (.inl (by omega))] at hr
    cases hr
    rw [ver_checker_place_c16_eq]
    unfold ver_checker_place_P16
    simp -implicitDefEqProofs [aRes, tupOf]
    exact gives_CHm rfl
  refine aMerge_intro (decide (0 < q.length)) (fun _ => ?_) ?_
  · refine aCallF_of [4, 3] hlen rfl (by simp [renF]) (by simp) (by simp [framed, renF]) (by simp [AV.under, AV.under1]) (by simp [Ob.below, AV.under1]) ?_
    simp -implicitDefEqProofs [renF, frameH, setAll]
  simp -implicitDefEqProofs
  rw [ver_checker_place_c15_eq]
  unfold ver_checker_place_P15
  have w1 : IntKind.i64.wrap ((p.length : Int) - 1) = (p.length : Int) - 1 := IntWalk.i64_in _ (by omega)
  simp -implicitDefEqProofs [w1]
  refine ⟨fun h1 h2 => ?_, fun h1 _ => ?_⟩
  · rw [if_pos (.inr (.inl ⟨h1, h2⟩))] at hr
    cases hr
    rw [ver_checker_place_c16_eq]
    unfold ver_checker_place_P16
    simp -implicitDefEqProofs [aRes, tupOf]
    exact gives_CHm rfl
  rw [ver_checker_place_c16_eq]
  unfold ver_checker_place_P16
  simp -implicitDefEqProofs [aRes, tupOf]
  refine ⟨fun g1 g2 g3 => ?_, fun g => ?_⟩
  · rw [if_pos (.inr (.inr ⟨by omega, g2, g3⟩))] at hr
    cases hr
    exact gives_CHm rfl
  have n1 : ¬ (128 < q.length ∨ (x.op = oRet' ∧ 0 < q.length) ∨ (i + 1 = p.length ∧ x.op ≠ oRet' ∧ x.op ≠ oJmp)) := by
    rintro (h' | ⟨h', h''⟩ | ⟨h', h'', h4⟩)
    · omega
    · rw [h1 h'] at h''; simp at h''
    · exact h4 (g (by omega) h'')
  rw [if_neg n1] at hr
  rw [ver_checker_place_c18_eq]
  unfold ver_checker_place_P18
  simp -implicitDefEqProofs [aRes, tupOf]
  refine ⟨fun e1 => ?_, fun e1 => ?_⟩
  · rw [if_pos (show x.op = oRet' from e1)] at hr
    cases hr
    exact gives_CHm rfl
  rw [if_neg (show ¬ x.op = oRet' from e1)] at hr
  rw [ver_checker_place_c20_eq]
  unfold ver_checker_place_P20
  simp -implicitDefEqProofs [aRes, tupOf]
  refine ⟨fun e2 => ?_, fun e2 => ?_⟩
  · rw [if_pos (show x.op = oJmp from e2)] at hr
    obtain ⟨m, hm⟩ : ∃ m : Nat, x.n = m := ⟨x.n.toNat, by have := hj (.inl e2); omega⟩
    have hmp : m < p.length := by have := hj (.inl e2); omega
    rw [hm, Int.toNat_natCast] at hr
    have hl1 := hld W m hW hmp
    rw [hr] at hl1
    have hl2 := leadW_len W m q
    rw [hr] at hl2
    simp only at hl1 hl2
    refine aCallF_of [1, 2, 4, 3] hl1 rfl (by simp [renF, hm]) (by simp) (by simp [framed, renF]) (by simp [AV.under, AV.under1]) (by simp [Ob.below, AV.under1]) ?_
    simp -implicitDefEqProofs [renF, frameH, setAll, aRes, tupOf]
    exact gives_CHm hl2.symm
  rw [if_neg (show ¬ x.op = oJmp from e2)] at hr
  have hip : i + 1 < p.length := by
    have : ¬ i + 1 = p.length := fun e => n1 (.inr (.inr ⟨e, e1, e2⟩))
    omega
  have w2 : IntKind.i64.wrap ((i : Int) + 1) = ((i + 1 : Nat) : Int) := by rw [IntWalk.i64_in _ (by omega)]; simp
  rw [ver_checker_place_c21_eq]
  unfold ver_checker_place_P21
  simp -implicitDefEqProofs
  rw [ver_checker_place_c22_eq]
  unfold ver_checker_place_P22
  simp -implicitDefEqProofs [aRes, tupOf]
  refine ⟨fun e3 => ?_, fun e3 => ?_⟩
  · rw [if_pos (show x.op = oJf from e3)] at hr
    obtain ⟨m, hm⟩ : ∃ m : Nat, x.n = m := ⟨x.n.toNat, by have := hj (.inr e3); omega⟩
    have hmp : m < p.length := by have := hj (.inr e3); omega
    rw [hm, Int.toNat_natCast] at hr
    have hl1 := hld W m hW hmp
    have hl2 := leadW_len W m q
    generalize leadW W m q = L at *
    obtain ⟨r1, W1⟩ := L
    simp only at hl1 hl2 hr
    refine aCallF_of [1, 2, 4, 3] hl1 rfl (by simp [renF, hm]) (by simp) (by simp [framed, renF]) (by simp [AV.under, AV.under1]) (by simp [Ob.below, AV.under1]) ?_
    simp -implicitDefEqProofs [renF, frameH, setAll]
    rw [ver_checker_place_c23_eq]
    unfold ver_checker_place_P23
    simp -implicitDefEqProofs
    rw [ver_checker_place_c24_eq]
    unfold ver_checker_place_P24
    simp -implicitDefEqProofs [aRes, tupOf]
    refine ⟨fun z => ?_, fun z => ?_⟩
    · rw [if_pos z] at hr
      cases hr
      exact gives_CHm hl2.symm
    rw [if_neg (by simpa using z)] at hr
    have hk1 := hld W1 (i + 1) (by omega) hip
    rw [hr, hl2] at hk1
    have hk2 := leadW_len W1 (i + 1) q
    rw [hr] at hk2
    simp only at hk1 hk2
    rw [ver_checker_place_c25_eq]
    unfold ver_checker_place_P25
    simp -implicitDefEqProofs [aRes, tupOf, w2]
    refine aCallF_of [1, 2, 4, 3] hk1 rfl (by simp [renF]) (by simp) (by simp [framed, renF]) (by simp [AV.under, AV.under1]) (by simp [Ob.below, AV.under1]) ?_
    simp -implicitDefEqProofs [renF, frameH, setAll, aRes, tupOf]
    exact gives_CHm (by omega)
  · rw [if_neg (show ¬ x.op = oJf from e3)] at hr
    have hk1 := hld W (i + 1) hW hip
    rw [hr] at hk1
    have hk2 := leadW_len W (i + 1) q
    rw [hr] at hk2
    simp only at hk1 hk2
    rw [ver_checker_place_c25_eq]
    unfold ver_checker_place_P25
    simp -implicitDefEqProofs [aRes, tupOf, w2]
    refine aCallF_of [1, 2, 4, 3] hk1 rfl (by simp [renF]) (by simp) (by simp [framed, renF]) (by simp [AV.under, AV.under1]) (by simp [Ob.below, AV.under1]) ?_
    simp -implicitDefEqProofs [renF, frameH, setAll, aRes, tupOf]
    exact gives_CHm (by omega)

set_option maxHeartbeats 4000000 in
theorem frontA (p : List In) (inn : Ty) (W : List (Option (List Ty))) (out : Option Ty) (i : Nat) (x : In) (l : List Ty) (hi : i < p.length) (hpl : p.length ≤ 4096) (hW : W.length = p.length) (hx : OkPl p i x l) (hll : l.length ≤ 128) :
    ver_checker_place_P2 (.bptr 1 0) (.p (.int .i64 i)) (.bptr 5 0) (.bptr 4 0) (heapA p inn W out x 0 (l.map encT) l.length) (awp Tryd.prog ver_checker_place_ann) (kEnd Tryd.prog [.tmp 4] fun v H' => Gives 3 v H' (.p (.int .i64 (stepW p inn W out i x l).1)) (CHm p inn (stepW p inn W out i x l).2.1 (stepW p inn W out i x l).2.2)) := by
  obtain ⟨k, hk, hw, hjf, hop, hjm⟩ := hx.ok
  have ha := arity_spec x
  simp only [encI_eta, hk] at ha
  unfold ver_checker_place_P2
  simp -implicitDefEqProofs [heapA, boxM, boxX]
  refine aCallW_of rfl rfl ha ?_
  simp -implicitDefEqProofs
  rcases Nat.lt_or_ge l.length k with hlk | hlk
  · have hs : stepW p inn W out i x l = (12, W, out) := by
      unfold stepW
      rw [if_pos (by omega)]
    rw [hs]
    have hp := vPop_no 0 (l.map encT) l.length k (by omega) (by simp) (by simp; omega)
    simp only [SH] at hp
    refine aCallF_of [4, 3] hp rfl (by simp [renF]) (by simp) (by simp [framed, renF]) (by simp [AV.under, AV.under1]) (by simp [Ob.below, AV.under1]) ?_
    simp -implicitDefEqProofs [renF, frameH, setAll]
    rw [ver_checker_place_c3_eq]
    unfold ver_checker_place_P3
    simp -implicitDefEqProofs [aRes, tupOf]
    exact gives_CHm rfl
  have hk0 : (tkN x.op x.n).toNat = k := by omega
  have hs : stepW p inn W out i x l = if (comesV inn x (l.drop (l.length - k)) out).1.2 ≠ 0 then ((comesV inn x (l.drop (l.length - k)) out).1.2, W, (comesV inn x (l.drop (l.length - k)) out).2)
      else ((tailW p W i x (l.take (l.length - k) ++ (comesV inn x (l.drop (l.length - k)) out).1.1)).1, (tailW p W i x (l.take (l.length - k) ++ (comesV inn x (l.drop (l.length - k)) out).1.1)).2, (comesV inn x (l.drop (l.length - k)) out).2) := by
    unfold stepW
    rw [if_neg (by omega), hk0]
  rw [hs]
  have hp := vPop_spec 0 (l.map encT) l.length k hlk (by simp) (by simp; omega) (encT2 l)
  have hlast : ((l.map encT).drop (l.length - k)).take k = (l.drop (l.length - k)).map encT := by
    rw [List.take_of_length_le (by simp; omega), List.map_drop]
  rw [hlast] at hp
  have hc := comesV_spec p inn (W.map encW) out x (l.drop (l.length - k)) hw (fun h => by have := hjf h; simp; omega) (by simp; omega) (fun a1 a2 a3 a4 a5 => by
    have := hop hlk a1 a2 a3 a4 a5
    simpa using this)
  have hml := comesV_len inn x (l.drop (l.length - k)) out
  simp only [SH] at hp
  simp only [CHv, cBox, encI_eta, List.length_map] at hc
  generalize comesV inn x (l.drop (l.length - k)) out = m at *
  obtain ⟨⟨more, e⟩, out'⟩ := m
  simp only at hc hml ⊢
  refine aCallF_of [4, 3] hp rfl (by simp [renF]) (by simp) (by simp [framed, renF]) (by simp [AV.under, AV.under1]) (by simp [Ob.below, AV.under1]) ?_
  simp -implicitDefEqProofs [renF, frameH, setAll]
  rw [ver_checker_place_c3_eq]
  unfold ver_checker_place_P3
  simp -implicitDefEqProofs
  rw [ver_checker_place_c5_eq]
  unfold ver_checker_place_P5
  simp -implicitDefEqProofs
  refine aCallN_of [1, 2] hc rfl (by simp [renF, treeA]) (by simp) (by simp [framed, renF]) (by simp [AV.under, AV.under1]) (by simp [Ob.below, AV.under1]) ?_
  simp -implicitDefEqProofs [renF, frameH, setAll]
  rw [ver_checker_place_c6_eq]
  unfold ver_checker_place_P6
  simp -implicitDefEqProofs
  rw [ver_checker_place_c7_eq]
  unfold ver_checker_place_P7
  simp -implicitDefEqProofs [aRes, tupOf]
  refine ⟨fun z => ?_, fun z => ?_⟩
  · rw [if_neg z]
    exact gives_CHm rfl
  rw [if_pos z]
  rw [ver_checker_place_c8_eq]
  unfold ver_checker_place_P8
  simp -implicitDefEqProofs
  intro hmax
  rw [ver_checker_place_c9_eq]
  unfold ver_checker_place_P9
  simp -implicitDefEqProofs
  obtain ⟨base, hbase⟩ : ∃ b, l.take (l.length - k) = b := ⟨_, rfl⟩
  have hbl : base.length = l.length - k := by rw [← hbase]; simp
  rw [hbase]
  refine loop_by (σ := Nat) (n := 7) (fun j => [.p (.int .i64 j)]) (fun j => heapA p inn W out' x j (esW base more l j) (l.length - k + j) ++ [.row k 2]) (fun j => j ≤ more.length) (fun j => more.length - j) [] 0 (fun _ => rfl) ⟨rfl, rfl⟩ (by simp) (fun j Bk hj hB => ?_)
  simp -implicitDefEqProofs [ver_checker_place_L1, heapA, boxM, boxX]
  constructor
  · intro hlt
    have hes := esW_len base more l _ j hbl (by omega) hj
    have hpu := vPush_spec j (esW base more l j) (l.length - k + j) more[j] hes.1 (by omega) (esW_two base more l j)
    rw [esW_step base more l _ j hbase hbl hlt] at hpu
    simp only [SH, encT_eta] at hpu
    have hmj : (Option.map encT more[j]?).getD default = encT more[j] := by simp [hlt]
    rw [hmj]
    simp -implicitDefEqProofs only [hlt, forall_const, true_and]
    simp -implicitDefEqProofs
    rw [ver_checker_place_c11_eq]
    unfold ver_checker_place_P11
    simp -implicitDefEqProofs
    refine aCallN_of [4, 3] hpu rfl (by simp [renF, treeA]) (by simp) (by simp [framed, renF]) (by simp [AV.under, AV.under1]) (by simp [Ob.below, AV.under1]) ?_
    simp -implicitDefEqProofs [renF, frameH, setAll]
    rw [ver_checker_place_c12_eq]
    unfold ver_checker_place_P12
    simp -implicitDefEqProofs
    rw [IntWalk.i64_in _ (by omega)]
    exact hB (j + 1) _ (by omega) (by omega) (by simp [heapA, boxM, boxX, Nat.add_assoc]) (by simp [Ob.below, AV.under1]) (by simp) (by simp [AV.under, AV.under1])
  · intro hge
    have hjm' : j = more.length := by omega
    subst hjm'
    rw [ver_checker_place_c13_eq]
    have hql : (base ++ more).length = l.length - k + more.length := by simp [hbl]
    have hes := esW_len base more l _ more.length hbl (by omega) (Nat.le_refl _)
    have ht := tailA p inn W out' i x more.length (esW base more l more.length) (base ++ more) [.row k 2] hi hpl hW hjm (by rw [hql, esW_take base more l _ more.length hbase hbl (Nat.le_refl _), List.take_length]) (by omega) (esW_two base more l _) (tailW p W i x (base ++ more)).1 (tailW p W i x (base ++ more)).2 (Prod.eta _).symm
    rw [hql] at ht
    simp only [heapA, boxM, boxX, List.cons_append, List.nil_append] at ht
    exact ht

def heapB (p : List In) (inn : Ty) (W : List (Option (List Ty))) (out : Option Ty) (x : In) (v : Nat) (es : List T) (n : Nat) : List Ob := [.mode, boxM p inn W.length out, .mrow 0 1 (W.map encW), boxX x, .mrow v 2 es, .box [.msl 4 v 2 0 n]]

set_option maxHeartbeats 4000000 in
theorem tailB (p : List In) (inn : Ty) (W : List (Option (List Ty))) (out : Option Ty) (i : Nat) (x : In) (v : Nat) (es : List T) (q : List Ty) (Y : List Ob) (hi : i < p.length) (hpl : p.length ≤ 4096) (hW : W.length = p.length) (hj : x.op = oJmp ∨ x.op = oJf → 0 ≤ x.n ∧ x.n < p.length)
    (hq : es.take q.length = q.map encT) (hb : es.length ≤ 10000) (h5 : ∀ e ∈ es, e.cells.length = 2) (r : Int) (W' : List (Option (List Ty))) (hr : tailW p W i x q = (r, W')) :
    ver_checker_place_P13 (.bptr 1 0) (.p (.int .i64 i)) (.bptr 3 0) (.bptr 5 0) (heapB p inn W out x v es q.length ++ Y) (awp Tryd.prog ver_checker_place_ann) (kEnd Tryd.prog [.tmp 4] fun v H' => Gives 3 v H' (.p (.int .i64 r)) (CHm p inn W' out)) := by
  have hle : q.length ≤ es.length := by
    have := congrArg List.length hq
    simp at this
    omega
  have hlen := vLen_spec v es q.length hle (by omega)
  have hld : ∀ (W : List (Option (List Ty))) (k : Nat), W.length = p.length → k < p.length → _ := fun W k h1 h2 => leads_spec p inn W out v es q k (by omega) hq (by omega) h5
  simp only [SH] at hlen
  simp only [CHs, cBox, leadW_len] at hld
  unfold tailW at hr
  unfold ver_checker_place_P13
  simp -implicitDefEqProofs [heapB, boxM, boxX]
  refine aCallF_of [5, 4] hlen rfl (by simp [renF]) (by simp) (by simp [framed, renF]) (by simp [AV.under, AV.under1]) (by simp [Ob.below, AV.under1]) ?_
  simp -implicitDefEqProofs [renF, frameH, setAll]
  rw [ver_checker_place_c14_eq]
  unfold ver_checker_place_P14
  simp -implicitDefEqProofs
  refine ⟨fun h => ?_, fun h => ?_⟩
  · rw [if_pos (.inl (by omega))] at hr
    cases hr
    rw [ver_checker_place_c16_eq]
    unfold ver_checker_place_P16
    simp -implicitDefEqProofs [aRes, tupOf]
    exact gives_CHm rfl
  refine aMerge_intro (decide (0 < q.length)) (fun _ => ?_) ?_
  · refine aCallF_of [5, 4] hlen rfl (by simp [renF]) (by simp) (by simp [framed, renF]) (by simp [AV.under, AV.under1]) (by simp [Ob.below, AV.under1]) ?_
    simp -implicitDefEqProofs [renF, frameH, setAll]
  simp -implicitDefEqProofs
  rw [ver_checker_place_c15_eq]
  unfold ver_checker_place_P15
  have w1 : IntKind.i64.wrap ((p.length : Int) - 1) = (p.length : Int) - 1 := IntWalk.i64_in _ (by omega)
  simp -implicitDefEqProofs [w1]
  refine ⟨fun h1 h2 => ?_, fun h1 _ => ?_⟩
  · rw [if_pos (.inr (.inl ⟨h1, h2⟩))] at hr
    cases hr
    rw [ver_checker_place_c16_eq]
    unfold ver_checker_place_P16
    simp -implicitDefEqProofs [aRes, tupOf]
    exact gives_CHm rfl
  rw [ver_checker_place_c16_eq]
  unfold ver_checker_place_P16
  simp -implicitDefEqProofs [aRes, tupOf]
  refine ⟨fun g1 g2 g3 => ?_, fun g => ?_⟩
  · rw [if_pos (.inr (.inr ⟨by omega, g2, g3⟩))] at hr
    cases hr
    exact gives_CHm rfl
  have n1 : ¬ (128 < q.length ∨ (x.op = oRet' ∧ 0 < q.length) ∨ (i + 1 = p.length ∧ x.op ≠ oRet' ∧ x.op ≠ oJmp)) := by
    rintro (h' | ⟨h', h''⟩ | ⟨h', h'', h4⟩)
    · omega
    · rw [h1 h'] at h''; simp at h''
    · exact h4 (g (by omega) h'')
  rw [if_neg n1] at hr
  rw [ver_checker_place_c18_eq]
  unfold ver_checker_place_P18
  simp -implicitDefEqProofs [aRes, tupOf]
  refine ⟨fun e1 => ?_, fun e1 => ?_⟩
  · rw [if_pos (show x.op = oRet' from e1)] at hr
    cases hr
    exact gives_CHm rfl
  rw [if_neg (show ¬ x.op = oRet' from e1)] at hr
  rw [ver_checker_place_c20_eq]
  unfold ver_checker_place_P20
  simp -implicitDefEqProofs [aRes, tupOf]
  refine ⟨fun e2 => ?_, fun e2 => ?_⟩
  · rw [if_pos (show x.op = oJmp from e2)] at hr
    obtain ⟨m, hm⟩ : ∃ m : Nat, x.n = m := ⟨x.n.toNat, by have := hj (.inl e2); omega⟩
    have hmp : m < p.length := by have := hj (.inl e2); omega
    rw [hm, Int.toNat_natCast] at hr
    have hl1 := hld W m hW hmp
    rw [hr] at hl1
    have hl2 := leadW_len W m q
    rw [hr] at hl2
    simp only at hl1 hl2
    refine aCallF_of [1, 2, 5, 4] hl1 rfl (by simp [renF, hm]) (by simp) (by simp [framed, renF]) (by simp [AV.under, AV.under1]) (by simp [Ob.below, AV.under1]) ?_
    simp -implicitDefEqProofs [renF, frameH, setAll, aRes, tupOf]
    exact gives_CHm hl2.symm
  rw [if_neg (show ¬ x.op = oJmp from e2)] at hr
  have hip : i + 1 < p.length := by
    have : ¬ i + 1 = p.length := fun e => n1 (.inr (.inr ⟨e, e1, e2⟩))
    omega
  have w2 : IntKind.i64.wrap ((i : Int) + 1) = ((i + 1 : Nat) : Int) := by rw [IntWalk.i64_in _ (by omega)]; simp
  rw [ver_checker_place_c21_eq]
  unfold ver_checker_place_P21
  simp -implicitDefEqProofs
  rw [ver_checker_place_c22_eq]
  unfold ver_checker_place_P22
  simp -implicitDefEqProofs [aRes, tupOf]
  refine ⟨fun e3 => ?_, fun e3 => ?_⟩
  · rw [if_pos (show x.op = oJf from e3)] at hr
    obtain ⟨m, hm⟩ : ∃ m : Nat, x.n = m := ⟨x.n.toNat, by have := hj (.inr e3); omega⟩
    have hmp : m < p.length := by have := hj (.inr e3); omega
    rw [hm, Int.toNat_natCast] at hr
    have hl1 := hld W m hW hmp
    have hl2 := leadW_len W m q
    generalize leadW W m q = L at *
    obtain ⟨r1, W1⟩ := L
    simp only at hl1 hl2 hr
    refine aCallF_of [1, 2, 5, 4] hl1 rfl (by simp [renF, hm]) (by simp) (by simp [framed, renF]) (by simp [AV.under, AV.under1]) (by simp [Ob.below, AV.under1]) ?_
    simp -implicitDefEqProofs [renF, frameH, setAll]
    rw [ver_checker_place_c23_eq]
    unfold ver_checker_place_P23
    simp -implicitDefEqProofs
    rw [ver_checker_place_c24_eq]
    unfold ver_checker_place_P24
    simp -implicitDefEqProofs [aRes, tupOf]
    refine ⟨fun z => ?_, fun z => ?_⟩
    · rw [if_pos z] at hr
      cases hr
      exact gives_CHm hl2.symm
    rw [if_neg (by simpa using z)] at hr
    have hk1 := hld W1 (i + 1) (by omega) hip
    rw [hr, hl2] at hk1
    have hk2 := leadW_len W1 (i + 1) q
    rw [hr] at hk2
    simp only at hk1 hk2
    rw [ver_checker_place_c25_eq]
    unfold ver_checker_place_P25
    simp -implicitDefEqProofs [aRes, tupOf, w2]
    refine aCallF_of [1, 2, 5, 4] hk1 rfl (by simp [renF]) (by simp) (by simp [framed, renF]) (by simp [AV.under, AV.under1]) (by simp [Ob.below, AV.under1]) ?_
    simp -implicitDefEqProofs [renF, frameH, setAll, aRes, tupOf]
    exact gives_CHm (by omega)
  · rw [if_neg (show ¬ x.op = oJf from e3)] at hr
    have hk1 := hld W (i + 1) hW hip
    rw [hr] at hk1
    have hk2 := leadW_len W (i + 1) q
    rw [hr] at hk2
    simp only at hk1 hk2
    rw [ver_checker_place_c25_eq]
    unfold ver_checker_place_P25
    simp -implicitDefEqProofs [aRes, tupOf, w2]
    refine aCallF_of [1, 2, 5, 4] hk1 rfl (by simp [renF]) (by simp) (by simp [framed, renF]) (by simp [AV.under, AV.under1]) (by simp [Ob.below, AV.under1]) ?_
    simp -implicitDefEqProofs [renF, frameH, setAll, aRes, tupOf]
    exact gives_CHm (by omega)

set_option maxHeartbeats 4000000 in
theorem frontB (p : List In) (inn : Ty) (W : List (Option (List Ty))) (out : Option Ty) (i : Nat) (x : In) (l : List Ty) (hi : i < p.length) (hpl : p.length ≤ 4096) (hW : W.length = p.length) (hx : OkPl p i x l) (hll : l.length ≤ 128) :
    ver_checker_place_P2 (.bptr 1 0) (.p (.int .i64 i)) (.bptr 3 0) (.bptr 5 0) (heapB p inn W out x 0 (l.map encT) l.length) (awp Tryd.prog ver_checker_place_ann) (kEnd Tryd.prog [.tmp 4] fun v H' => Gives 3 v H' (.p (.int .i64 (stepW p inn W out i x l).1)) (CHm p inn (stepW p inn W out i x l).2.1 (stepW p inn W out i x l).2.2)) := by
  obtain ⟨k, hk, hw, hjf, hop, hjm⟩ := hx.ok
  have ha := arity_spec x
  simp only [encI_eta, hk] at ha
  unfold ver_checker_place_P2
  simp -implicitDefEqProofs [heapB, boxM, boxX]
  refine aCallW_of rfl rfl ha ?_
  simp -implicitDefEqProofs
  rcases Nat.lt_or_ge l.length k with hlk | hlk
  · have hs : stepW p inn W out i x l = (12, W, out) := by
      unfold stepW
      rw [if_pos (by omega)]
    rw [hs]
    have hp := vPop_no 0 (l.map encT) l.length k (by omega) (by simp) (by simp; omega)
    simp only [SH] at hp
    refine aCallF_of [5, 4] hp rfl (by simp [renF]) (by simp) (by simp [framed, renF]) (by simp [AV.under, AV.under1]) (by simp [Ob.below, AV.under1]) ?_
    simp -implicitDefEqProofs [renF, frameH, setAll]
    rw [ver_checker_place_c3_eq]
    unfold ver_checker_place_P3
    simp -implicitDefEqProofs [aRes, tupOf]
    exact gives_CHm rfl
  have hk0 : (tkN x.op x.n).toNat = k := by omega
  have hs : stepW p inn W out i x l = if (comesV inn x (l.drop (l.length - k)) out).1.2 ≠ 0 then ((comesV inn x (l.drop (l.length - k)) out).1.2, W, (comesV inn x (l.drop (l.length - k)) out).2)
      else ((tailW p W i x (l.take (l.length - k) ++ (comesV inn x (l.drop (l.length - k)) out).1.1)).1, (tailW p W i x (l.take (l.length - k) ++ (comesV inn x (l.drop (l.length - k)) out).1.1)).2, (comesV inn x (l.drop (l.length - k)) out).2) := by
    unfold stepW
    rw [if_neg (by omega), hk0]
  rw [hs]
  have hp := vPop_spec 0 (l.map encT) l.length k hlk (by simp) (by simp; omega) (encT2 l)
  have hlast : ((l.map encT).drop (l.length - k)).take k = (l.drop (l.length - k)).map encT := by
    rw [List.take_of_length_le (by simp; omega), List.map_drop]
  rw [hlast] at hp
  have hc := comesV_spec p inn (W.map encW) out x (l.drop (l.length - k)) hw (fun h => by have := hjf h; simp; omega) (by simp; omega) (fun a1 a2 a3 a4 a5 => by
    have := hop hlk a1 a2 a3 a4 a5
    simpa using this)
  have hml := comesV_len inn x (l.drop (l.length - k)) out
  simp only [SH] at hp
  simp only [CHv, cBox, encI_eta, List.length_map] at hc
  generalize comesV inn x (l.drop (l.length - k)) out = m at *
  obtain ⟨⟨more, e⟩, out'⟩ := m
  simp only at hc hml ⊢
  refine aCallF_of [5, 4] hp rfl (by simp [renF]) (by simp) (by simp [framed, renF]) (by simp [AV.under, AV.under1]) (by simp [Ob.below, AV.under1]) ?_
  simp -implicitDefEqProofs [renF, frameH, setAll]
  rw [ver_checker_place_c3_eq]
  unfold ver_checker_place_P3
  simp -implicitDefEqProofs
  rw [ver_checker_place_c5_eq]
  unfold ver_checker_place_P5
  simp -implicitDefEqProofs
  refine aCallN_of [1, 2] hc rfl (by simp [renF, treeA]) (by simp) (by simp [framed, renF]) (by simp [AV.under, AV.under1]) (by simp [Ob.below, AV.under1]) ?_
  simp -implicitDefEqProofs [renF, frameH, setAll]
  rw [ver_checker_place_c6_eq]
  unfold ver_checker_place_P6
  simp -implicitDefEqProofs
  rw [ver_checker_place_c7_eq]
  unfold ver_checker_place_P7
  simp -implicitDefEqProofs [aRes, tupOf]
  refine ⟨fun z => ?_, fun z => ?_⟩
  · rw [if_neg z]
    exact gives_CHm rfl
  rw [if_pos z]
  rw [ver_checker_place_c8_eq]
  unfold ver_checker_place_P8
  simp -implicitDefEqProofs
  intro hmax
  rw [ver_checker_place_c9_eq]
  unfold ver_checker_place_P9
  simp -implicitDefEqProofs
  obtain ⟨base, hbase⟩ : ∃ b, l.take (l.length - k) = b := ⟨_, rfl⟩
  have hbl : base.length = l.length - k := by rw [← hbase]; simp
  rw [hbase]
  refine loop_by (σ := Nat) (n := 7) (fun j => [.p (.int .i64 j)]) (fun j => heapB p inn W out' x j (esW base more l j) (l.length - k + j) ++ [.row k 2]) (fun j => j ≤ more.length) (fun j => more.length - j) [] 0 (fun _ => rfl) ⟨rfl, rfl⟩ (by simp) (fun j Bk hj hB => ?_)
  simp -implicitDefEqProofs [ver_checker_place_L1, heapB, boxM, boxX]
  constructor
  · intro hlt
    have hes := esW_len base more l _ j hbl (by omega) hj
    have hpu := vPush_spec j (esW base more l j) (l.length - k + j) more[j] hes.1 (by omega) (esW_two base more l j)
    rw [esW_step base more l _ j hbase hbl hlt] at hpu
    simp only [SH, encT_eta] at hpu
    have hmj : (Option.map encT more[j]?).getD default = encT more[j] := by simp [hlt]
    rw [hmj]
    simp -implicitDefEqProofs only [hlt, forall_const, true_and]
    simp -implicitDefEqProofs
    rw [ver_checker_place_c11_eq]
    unfold ver_checker_place_P11
    simp -implicitDefEqProofs
    refine aCallN_of [5, 4] hpu rfl (by simp [renF, treeA]) (by simp) (by simp [framed, renF]) (by simp [AV.under, AV.under1]) (by simp [Ob.below, AV.under1]) ?_
    simp -implicitDefEqProofs [renF, frameH, setAll]
    rw [ver_checker_place_c12_eq]
    unfold ver_checker_place_P12
    simp -implicitDefEqProofs
    rw [IntWalk.i64_in _ (by omega)]
    exact hB (j + 1) _ (by omega) (by omega) (by simp [heapB, boxM, boxX, Nat.add_assoc]) (by simp [Ob.below, AV.under1]) (by simp) (by simp [AV.under, AV.under1])
  · intro hge
    have hjm' : j = more.length := by omega
    subst hjm'
    rw [ver_checker_place_c13_eq]
    have hql : (base ++ more).length = l.length - k + more.length := by simp [hbl]
    have hes := esW_len base more l _ more.length hbl (by omega) (Nat.le_refl _)
    have ht := tailB p inn W out' i x more.length (esW base more l more.length) (base ++ more) [.row k 2] hi hpl hW hjm (by rw [hql, esW_take base more l _ more.length hbase hbl (Nat.le_refl _), List.take_length]) (by omega) (esW_two base more l _) (tailW p W i x (base ++ more)).1 (tailW p W i x (base ++ more)).2 (Prod.eta _).symm
    rw [hql] at ht
    simp only [heapB, boxM, boxX, List.cons_append, List.nil_append] at ht
    exact ht

set_option maxHeartbeats 4000000 in
theorem placeV_spec (p : List In) (inn : Ty) (W : List (Option (List Ty))) (out : Option Ty) (i : Nat) (x : In) (l : List Ty) (hi : i < p.length) (hpl : p.length ≤ 4096) (hW : W.length = p.length) (hpi : p[i] = x) (hwi : W[i]'(by omega) = some l) (hx : OkPl p i x l) (hll : l.length ≤ 128) :
    Abs.Fn Tryd.prog ver_checker_place_i (CHm p inn W out) [.bptr 1 0, .p (.int .i64 i)] (.p (.int .i64 (stepW p inn W out i x l).1)) (CHm p inn (stepW p inn W out i x l).2.1 (stepW p inn W out i x l).2.2) := by
  have hiW : i < W.length := by omega
  have htw := twin_mode l (by omega)
  have fA := frontA p inn W out i x l hi hpl hW hx hll
  have fB := frontB p inn W out i x l hi hpl hW hx hll
  have hlen : (CHm p inn W out).length = 3 := rfl
  generalize stepW p inn W out i x l = R at *
  simp only [heapA, heapB, boxM, boxX] at fA fB
  refine fn_intro mixed ver_checker_place_ann (fn := Tryd.f23) (by kernel_rfl) (by kernel_rfl) ?_
  rw [ver_checker_place_eq]
  unfold ver_checker_place_P0
  simp -implicitDefEqProofs [CHm, boxM, hi, hiW, hpi, encI_eta, hwi, encW]
  repeat' apply And.intro
  all_goals
    refine aCallF_of [0] htw rfl (by simp [renF]) (by simp) (by simp [framed, renF]) (by simp [AV.under, AV.under1]) (by simp [Ob.below, AV.under1]) ?_
    simp -implicitDefEqProofs [renF, frameH, setAll, hi, hiW, hpi, encI_eta, hwi, encW, hlen]
    rw [ver_checker_place_c2_eq]
    first
    | exact fA
    | exact fB

end Go.Proofs.YtcdkdmjedkhpiaaDoor
