/- What typ.Text answers, over trees. -/
import Derived.Test.YtijnpcociedigaaGreatDoorZSpTyp
import Derived.Test.YtijnpcociedigaaGreatDoorZSpJoin
namespace Go.Proofs.YtijnpcociedigaaGreatDoor
open Go Go.Abs

theorem TJ.mem_lens {x : List UInt8} : ∀ {l : List (List UInt8)}, x ∈ l → x.length ≤ TJ.lens l
  | y :: r, h => by
    simp only [List.mem_cons] at h
    simp only [TJ.lens]
    rcases h with rfl | h
    · omega
    · have := TJ.mem_lens h; omega

theorem TJ.mem_join {x sep : List UInt8} {l : List (List UInt8)} (h : x ∈ l) : x.length ≤ (TJ.join sep l).length := by
  cases l with
  | nil => simp at h
  | cons y r =>
    rw [TJ.join_length]
    have := TJ.mem_lens h
    omega

theorem TJ.length_join {c : UInt8} {l : List (List UInt8)} : l.length ≤ (TJ.join [c] l).length + 1 := by
  cases l with
  | nil => simp
  | cons y r =>
    rw [TJ.join_length]
    simp only [List.length_cons, List.length_nil]
    omega

mutual
def textT : Ty → List UInt8
  | .mk k of => if k = 4 then 40 :: (TJ.join [44] (textTs of) ++ [41]) else wordS k
def textTs : List Ty → List (List UInt8)
  | [] => []
  | t :: r => textT t :: textTs r
end

theorem textTs_eq (l : List Ty) : textTs l = l.map textT := by induction l <;> simp_all [textTs]

theorem text_spec : ∀ (t : Ty) (_ : (textT t).length ≤ 1000000000), Abs.Fn Tryz.prog typ_Text_i [] [.p (encT t)] (.p (.str (textT t))) []
  | .mk k of, h => by
    apply typ_Text_fn
    simp [typ_Text]
    refine ⟨fun hk => aCall_p rfl (word_spec k) (gives_p (by simp [textT, hk])), fun hk hl => ?_⟩
    subst hk
    simp only [textT, if_true, textTs_eq, List.length_cons, List.length_append, List.length_nil] at h
    have hle : of.length ≤ (TJ.join [44] (of.map textT)).length + 1 := by simpa using TJ.length_join (c := 44) (l := of.map textT)
    refine loop_by (σ := Nat) (n := 2) (fun i => [.own 1 ((of.map fun t => .str (textT t)).take i), .p (.int .i64 i)]) (fun i => [.box [.p (.int .i64 4), .p (.slice (of.map encT))], .row i 1]) (fun i => i ≤ of.length) (fun i => of.length - i) [.slot 0 1] 0 (fun _ => rfl) ⟨rfl, rfl⟩ (by simp) (fun i B hi hB => ?_)
    simp [typ_Text_L1]
    constructor
    · intro hlt
      have hm : of[i] ∈ of := by simp
      obtain ⟨a, b, hab⟩ := encT_agg of[i]
      have ih := text_spec of[i] (by
        have := TJ.mem_join (sep := [44]) (List.mem_map_of_mem (f := textT) hm)
        omega)
      rw [hab] at ih
      simp [hlt, hab]
      refine aCall_p rfl ih ?_
      simp
      have hmin : min i of.length = i := by omega
      refine ⟨by omega, ⟨fun e he => by have := List.mem_of_mem_take he; simp at this; obtain ⟨x, _, rfl⟩ := this; rfl, by simp, by simp; omega⟩, ?_⟩
      rw [IntWalk.i64_in _ (by omega)]
      have ht : (of.map fun t => T.str (textT t)).take i ++ [T.str (textT of[i])] = (of.map fun t => T.str (textT t)).take (i + 1) := by
        rw [List.take_succ_eq_append_getElem (by simpa using hlt)]; simp
      rw [ht]
      exact hB (i + 1) _ (by omega) (by omega) (by simp) (by simp [Ob.below, AV.under1]) (by simp) (by simp [AV.under, AV.under1])
    · intro hge
      have : i = of.length := by omega
      subst this
      rw [List.take_of_length_le (by simp)]
      refine aCall_p rfl (by simpa [Function.comp_def] using join_spec (of.map textT) [44] (by omega) (by simp; omega)) ?_
      simp [maxLen]
      exact ⟨by omega, by omega, gives_p (by simp [textT, textTs_eq])⟩
termination_by t => SizeOf.sizeOf t
decreasing_by
  have := List.sizeOf_lt_of_mem hm
  simp
  omega

end Go.Proofs.YtijnpcociedigaaGreatDoor

