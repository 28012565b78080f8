/- ver.Check over trees. -/
import Derived.Test.YtcdkdmjedkhpiaaDoorZSpVerQ
import Derived.Test.YtcdkdmjedkhpiaaDoorZSpCodeC
set_option linter.unusedSimpArgs false
set_option linter.unusedVariables false
namespace Go.Proofs.YtcdkdmjedkhpiaaDoor
open Go Go.Abs

attribute [local irreducible] Abs.Fn

def VH (p : List In) (inn : Ty) (W : List (Option (List Ty))) (out : Option Ty) : List Ob := [.mode, .box [.p (.int .i64 inn.kind), .p (.slice (inn.of.map encT))], .box [.p (.int .i64 0), .full []], .mrow 0 1 (W.map encW), .box [.p (.slice (p.map encI)), .p (.int .i64 inn.kind), .p (.slice (inn.of.map encT)), .msl 3 0 1 0 W.length, .p (outV out)], .fz [.slice []]]

set_option maxHeartbeats 4000000 in
theorem VCheck_spec (p : List In) (inn : Ty) (hl : p.length ≤ 1000000) : Abs.Fn Tryd.prog ver_Check_i [] [.p (.slice (p.map encI)), .p (encT inn)] (verR (verP p inn)) [] := by
  have hck := CheckC_spec p hl
  have hct := Check_spec inn
  have hvp : verP p inn = if (checkP p).2 ≠ 0 then (noTy, (checkP p).1, (checkP p).2) else if checkT inn 0 ≠ 0 then (noTy, 0, 5) else verL p inn p.length 0 (st0 p.length) := rfl
  have hok := verP_chk (p := p)
  generalize verP p inn = res at *
  generalize checkP p = c at *
  obtain ⟨ck, ce⟩ := c
  simp only [encT_eta] at hck hct hvp hok
  apply fn_mode
  apply ver_Check_fnH
  simp -implicitDefEqProofs [ver_Check]
  refine aCallW_of rfl rfl hck ?_
  simp -implicitDefEqProofs
  refine ⟨fun he => ?_, fun he => ?_⟩
  · rw [hvp, if_pos he]
    exact gives_moded (gives_pure (by simp [AV.pur, verR, toTs, noTy])) rfl
  rw [if_neg (by simpa using he)] at hvp
  refine aCallW_of rfl rfl hct ?_
  simp -implicitDefEqProofs
  refine ⟨fun ht => ?_, fun ht => ?_⟩
  · rw [hvp, if_pos ht]
    exact gives_moded (gives_pure (by simp [AV.pur, verR, toTs, noTy])) rfl
  rw [if_neg (by simpa using ht)] at hvp
  obtain ⟨hp0, hp1, hpe⟩ := hok he
  have hml : p.length ≤ maxLen := by simp only [maxLen]; omega
  have hW0 : (List.replicate p.length (T.raw (Value.pointer none))).set 0 (((List.replicate p.length (T.raw (Value.pointer none)))[0]?.getD default).putT 0 [T.imm [T.slice []] 0]) = ((List.replicate p.length none).set 0 (some [])).map encW := by
    simp [List.map_set, List.getElem?_replicate, hp0, encW]
  simp -implicitDefEqProofs [hml]
  rw [hW0]
  have hin0 := inv0 p hp0
  refine ⟨by omega, hp0, ?_⟩
  refine loop_by (σ := Nat × LkSt × List (Option (List Ty)) × Option Ty) (n := 6) (fun q => [.p (.int .i64 q.1)]) (fun q => VH p inn q.2.2.1 q.2.2.2) (fun q => q.1 ≤ p.length ∧ InvW p.length q.2.1 q.2.2.1 q.2.2.2 ∧ verL p inn (p.length - q.1) q.1 q.2.1 = res) (fun q => p.length - q.1) [] (0, st0 p.length, (List.replicate p.length none).set 0 (some []), none) (fun _ => rfl) ?_ ⟨by simp, hin0, hvp.symm⟩ ?_
  · simp [ghosts, VH, outV]
  rintro ⟨i, st, W, out⟩ B ⟨h1, h2, h3⟩ hB
  simp only at h1 h2 h3 hB ⊢
  have hwl := h2.len
  simp -implicitDefEqProofs [ver_Check_L1, VH]
  constructor
  · intro hi
    have hiW : i < W.length := by omega
    refine ⟨hiW, ?_⟩
    obtain ⟨w, hw⟩ : ∃ w, W[i]? = some w := ⟨_, List.getElem?_eq_getElem hiW⟩
    have hwd : W.getD i none = w := by simp [List.getD_eq_getElem?_getD, hw]
    have hv := h3
    rw [show p.length - i = (p.length - (i + 1)) + 1 by omega] at hv
    simp only [verL] at hv
    have hway := h2.way i
    rw [hwd] at hway
    have w1 : IntKind.i64.wrap ((i : Int) + 1) = ((i + 1 : Nat) : Int) := by rw [IntWalk.i64_in _ (by omega)]; omega
    rw [w1]
    cases w with
    | none =>
      have hkn : st.kn.getD i false = false := by
        cases hk : st.kn.getD i false with
        | false => rfl
        | true => rw [hk] at hway; simp at hway
      rw [if_pos hkn] at hv
      simp -implicitDefEqProofs [hw, encW]
      refine ⟨rfl, ?_⟩
      simp -implicitDefEqProofs
      exact hB (i + 1, st, W, out) _ ⟨by simp only; omega, h2, hv⟩ (by simp only; omega) (by simp [VH]) (by simp [Ob.below, AV.under1]) (by simp) (by simp [AV.under, AV.under1])
    | some l =>
      have hkn : ¬ st.kn.getD i false = false := fun hk => by rw [hk] at hway; simp at hway
      rw [if_neg hkn] at hv
      have hx : p[i]? = some p[i] := List.getElem?_eq_getElem hi
      obtain ⟨g1, g2⟩ := h2.good i l hwd
      obtain ⟨s1, s2⟩ := step_same (inn := inn) h2 hx (hpe i _ hx) (by simpa using ht) hwd
      have hpl := placeV_spec p inn W out i p[i] l hi hp1 hwl rfl (by rw [List.getElem?_eq_getElem hiW] at hw; exact Option.some.inj hw) (okPl (hpe i _ hx) g2) g1
      generalize stepW p inn W out i p[i] l = R at *
      obtain ⟨e, W', out'⟩ := R
      generalize stepT p i inn st = R' at *
      obtain ⟨e', st'⟩ := R'
      simp only at s1 s2 hpl hv
      subst s1
      simp -implicitDefEqProofs [hw, encW]
      simp only [CHm, boxM] at hpl
      refine aCallF_of [0, 4, 3] hpl rfl (by simp [renF]) (by simp) (by simp [framed, renF]) (by simp [AV.under, AV.under1]) (by simp [Ob.below, AV.under1]) ?_
      simp -implicitDefEqProofs [renF, frameH, setAll]
      refine ⟨fun z => ?_, fun z => ?_⟩
      · rw [if_pos z] at hv
        rw [← hv]
        exact gives_moded (gives_pure (by simp [AV.pur, verR, toTs, noTy])) rfl
      · rw [if_neg (by simpa using z)] at hv
        have e2 : W.length = W'.length := by rw [hwl, (s2 z).len]
        simp only [w1, e2]
        exact hB (i + 1, st', W', out') _ ⟨by simp only; omega, s2 z, hv⟩ (by simp only; omega) (by simp [VH]) (by simp [Ob.below, AV.under1]) (by simp) (by simp [AV.under, AV.under1])
  · intro hge
    have hn : p.length - i = 0 := by omega
    rw [hn] at h3
    simp only [verL] at h3
    have ho := h2.outp
    cases out with
    | none =>
      have e : st.out = noTy := ho
      rw [← h3, e]
      simp -implicitDefEqProofs [outV]
      exact gives_moded (gives_pure (by simp [AV.pur, verR, toTs, noTy])) rfl
    | some t =>
      have e : st.out = t := ho.1
      rw [← h3, e]
      simp -implicitDefEqProofs [outV]
      exact gives_moded (gives_pure (by simp [AV.pur, verR, toTs, encT_eta])) rfl

end Go.Proofs.YtcdkdmjedkhpiaaDoor
