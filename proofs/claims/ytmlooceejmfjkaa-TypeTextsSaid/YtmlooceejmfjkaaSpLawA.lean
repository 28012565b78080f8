/- What typ.Text answers, over trees; the laws of the package runnellaw1: known, TypeWide, TypeDeep. -/
import Derived.Test.YtmlooceejmfjkaaSpTypC
import Derived.Test.YtmlooceejmfjkaaSpJoin
namespace Go.Proofs.Ytmlooceejmfjkaa
open Go Go.Abs

theorem TJ.mem_lens {x : List UInt8} : ∀ {l : List (List UInt8)}, x ∈ l → x.length ≤ TJ.lens l
  | y :: r, h => by
    simp only [List.mem_cons] at h
    simp only [TJ.lens]
    rcases h with rfl | h
    · omega
    · have := TJ.mem_lens h; omega

theorem TJ.mem_join {x sep : List UInt8} {l : List (List UInt8)} (h : x ∈ l) : x.length ≤ (TJ.join sep l).length := by
  cases l with
  | nil => simp at h
  | cons y r =>
    rw [TJ.join_length]
    have := TJ.mem_lens h
    omega

theorem TJ.length_join {c : UInt8} {l : List (List UInt8)} : l.length ≤ (TJ.join [c] l).length + 1 := by
  cases l with
  | nil => simp
  | cons y r =>
    rw [TJ.join_length]
    simp only [List.length_cons, List.length_nil]
    omega

mutual
def textT : Ty → List UInt8
  | .mk k of => if k = 4 then 40 :: (TJ.join [44] (textTs of) ++ [41]) else wordS k
def textTs : List Ty → List (List UInt8)
  | [] => []
  | t :: r => textT t :: textTs r
end

theorem textTs_eq (l : List Ty) : textTs l = l.map textT := by induction l <;> simp_all [textTs]

theorem text_spec : ∀ (t : Ty) (_ : (textT t).length ≤ 1000000000), Abs.Fn Try.prog typ_Text_i [] [.p (encT t)] (.p (.str (textT t))) []
  | .mk k of, h => by
    apply typ_Text_fn
    simp [typ_Text]
    refine ⟨fun hk => aCall_p rfl (word_spec k) (gives_p (by simp [textT, hk])), fun hk hl => ?_⟩
    subst hk
    simp only [textT, if_true, textTs_eq, List.length_cons, List.length_append, List.length_nil] at h
    have hle : of.length ≤ (TJ.join [44] (of.map textT)).length + 1 := by simpa using TJ.length_join (c := 44) (l := of.map textT)
    refine loop_by (σ := Nat) (n := 2) (fun i => [.own 1 ((of.map fun t => .str (textT t)).take i), .p (.int .i64 i)]) (fun i => [.box [.p (.int .i64 4), .p (.slice (of.map encT))], .row i 1]) (fun i => i ≤ of.length) (fun i => of.length - i) [.slot 0 1] 0 (fun _ => rfl) ⟨rfl, rfl⟩ (by simp) (fun i B hi hB => ?_)
    simp [typ_Text_L1]
    constructor
    · intro hlt
      have hm : of[i] ∈ of := by simp
      obtain ⟨a, b, hab⟩ := encT_agg of[i]
      have ih := text_spec of[i] (by
        have := TJ.mem_join (sep := [44]) (List.mem_map_of_mem (f := textT) hm)
        omega)
      rw [hab] at ih
      simp [hlt, hab]
      refine aCall_p rfl ih ?_
      simp
      have hmin : min i of.length = i := by omega
      refine ⟨by omega, ⟨fun e he => by have := List.mem_of_mem_take he; simp at this; obtain ⟨x, _, rfl⟩ := this; rfl, by simp, by simp; omega⟩, ?_⟩
      rw [IntWalk.i64_in _ (by omega)]
      have ht : (of.map fun t => T.str (textT t)).take i ++ [T.str (textT of[i])] = (of.map fun t => T.str (textT t)).take (i + 1) := by
        rw [List.take_succ_eq_append_getElem (by simpa using hlt)]; simp
      rw [ht]
      exact hB (i + 1) _ (by omega) (by omega) (by simp) (by simp [Ob.below, AV.under1]) (by simp) (by simp [AV.under, AV.under1])
    · intro hge
      have : i = of.length := by omega
      subst this
      rw [List.take_of_length_le (by simp)]
      refine aCall_p rfl (by simpa [Function.comp_def] using join_spec (of.map textT) [44] (by omega) (by simp; omega)) ?_
      simp [maxLen]
      exact ⟨by omega, by omega, gives_p (by simp [textT, textTs_eq])⟩
termination_by t => SizeOf.sizeOf t
decreasing_by
  have := List.sizeOf_lt_of_mem hm
  simp
  omega

theorem known1_spec : Abs.Fn Try.prog runnellaw1_known_i [] [] (.p (.bool true)) [] := by
  apply runnellaw1_known_fn
  simp [runnellaw1_known]
  refine aCallW_of rfl rfl (parse_spec _ (by simp)) ?_
  have e1 : parseT [40, 105, 110, 116, 44, 40, 116, 101, 120, 116, 44, 98, 111, 111, 108, 41, 41] = (.mk 4 [.mk 1 [], .mk 4 [.mk 3 [], .mk 2 []]], 0) := by rfl
  have e2 : parseT [40, 105, 110, 116] = (.mk 0 [], 2) := by rfl
  have e3 : parseT [40, 41] = (.mk 0 [], 1) := by rfl
  rw [e1]
  simp
  refine aCallW_of rfl rfl (parse_spec _ (by simp)) ?_
  rw [e2]
  simp
  refine aCallW_of rfl rfl (parse_spec _ (by simp)) ?_
  rw [e3]
  simp
  refine ⟨by decide, ?_⟩
  refine aCallT_of rfl (by simpa using text_spec (.mk 4 [.mk 1 [], .mk 4 [.mk 3 [], .mk 2 []]]) (by decide)) rfl ?_
  simp
  constructor
  · intro _
    refine aCallT_of rfl (by simpa using Check_spec (.mk 4 [.mk 1 [], .mk 4 [.mk 3 [], .mk 2 []]])) rfl ?_
    simp
    constructor
    · intro _
      refine aCallT_of rfl (by simpa using same_spec (.mk 4 [.mk 1 [], .mk 4 [.mk 3 [], .mk 2 []]]) (.mk 4 [.mk 1 [], .mk 4 [.mk 3 [], .mk 2 []]])) rfl ?_
      simp
      constructor
      · intro _
        refine aCallT_of rfl (by simpa using same_spec (.mk 4 [.mk 1 [], .mk 4 [.mk 3 [], .mk 2 []]]) (.mk 1 [])) rfl ?_
        simp
        exact gives_p (by rfl)
      · intro h; exact absurd h (by decide)
    · intro h; exact absurd (by rfl) h
  · intro h; exact absurd (by rfl) h

theorem tmod_nat {n : Int} {m : Nat} (h : 0 ≤ n) (hm : 0 < m) : ∃ k : Nat, k < m ∧ n.tmod m = (k : Int) := by
  rw [Int.tmod_eq_emod_of_nonneg h]
  have h1 := Int.emod_nonneg n (b := m) (by omega)
  have h2 := Int.emod_lt_of_pos n (b := m) (by omega)
  exact ⟨(n % m).toNat, by omega, by omega⟩

def leaf (k : Int) : Ty := .mk k []

theorem checkTs_leaf (j : Nat) (hj : j < 3) (d : Int) : ∀ m : Nat, checkTs (List.replicate m (leaf (1 + j))) d = 0
  | 0 => rfl
  | m + 1 => by
    have : checkT (leaf (1 + j)) d = 0 := by
      simp only [leaf, checkT]
      rw [if_pos (by omega)]
      simp
    simp [List.replicate_succ, checkTs, this, checkTs_leaf j hj d m]

theorem wide_spec (n k : Int) (hn : 0 ≤ n) (hk : 0 ≤ k) : Abs.Fn Try.prog runnellaw1_TypeWide_i [] [.p (.int .u8 n), .p (.int .u8 k)] (.p (.bool true)) [] := by
  apply runnellaw1_TypeWide_fn
  simp [runnellaw1_TypeWide]
  refine aCall_p rfl known1_spec ?_
  obtain ⟨m, hm, em⟩ := tmod_nat (m := 12) hn (by omega)
  obtain ⟨j, hj, ej⟩ := tmod_nat (m := 3) hk (by omega)
  simp at em ej
  simp [em]
  rw [IntWalk.i64_in _ (by omega)]
  refine loop_by (σ := Nat) (n := 2) (fun i => [.p (.int .i64 i)]) (fun i => [.box [.p (.int .i64 4), .own 1 ((List.replicate i (leaf (1 + j))).map encT)], .row i 2]) (fun i => i ≤ m) (fun i => m - i) [.cell 0 1 2] 0 (fun _ => rfl) ⟨rfl, rfl⟩ (by simp) (fun i B hi hB => ?_)
  simp [runnellaw1_TypeWide_L1, ej]
  refine ⟨fun hlt => ?_, fun hge => ?_⟩
  · simp (disch := omega) only [IntWalk.i64_in]
    refine ⟨⟨by simp, by simp, by simp; omega⟩, ?_⟩
    have := hB (i + 1) ([.box [.p (.int .i64 4), .own 1 ((List.replicate (i + 1) (leaf (1 + j))).map encT)], .row (i + 1) 2]) (by omega) (by omega) (by simp) (by simp [Ob.below, AV.under1]) (by simp) (by simp [AV.under, AV.under1])
    simpa [List.replicate_succ', leaf] using this
  · have : i = m := by omega
    subst this
    have hc := Check_spec (.mk 4 (List.replicate i (leaf (1 + j))))
    simp at hc
    refine ⟨fun h0 => ?_, fun h0 => ⟨fun h8 => ?_, fun h8 => ?_⟩⟩
    · refine aCall_p rfl (by simpa using hc) ?_
      simp
      exact gives_p (by simp [checkT, rowE, h0])
    · refine aCall_p rfl (by simpa using hc) ?_
      simp
      exact gives_p (by simp [checkT, rowE]; grind)
    · refine aCall_p rfl (by simpa using hc) ?_
      simp
      exact gives_p (by simp [checkT, rowE, checkTs_leaf j hj]; grind)

end Go.Proofs.Ytmlooceejmfjkaa
