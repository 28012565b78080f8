/- The package code over trees: a program in words. -/
import Derived.Test.YtgfnodmghaghpaaDoorZSpCodeF
set_option linter.unusedSimpArgs false
set_option linter.unusedVariables false
namespace Go.Proofs.YtgfnodmghaghpaaDoor
open Go Go.Abs

attribute [local irreducible] Abs.Fn

theorem textIs_len (p : List In) : (textIs p).length = p.length := by simp [textIs]
theorem textIs_get (p : List In) (i : Nat) (h : i < p.length) : (textIs p)[i]'(by rw [textIs_len]; exact h) = textI i p[i] := by simp [textIs]
theorem opsAll_len {op : List UInt8} (h : op ∈ opsAll) : op.length ≤ 4 := by
  simp only [opsAll, List.mem_cons, List.not_mem_nil, or_false] at h
  rcases h with rfl | rfl | rfl | rfl | rfl | rfl | rfl | rfl | rfl | rfl | rfl | rfl | rfl | rfl | rfl | rfl | rfl | rfl | rfl <;> decide

theorem cText_ok (p : List In) (hp : ∀ x ∈ p, OkI x) (hlen : p.length ≤ 4096) :
    Abs.Fn Tryd.prog code_Text_i [] [.p (.slice (p.map encI))] (.p (.slice ((textIs p).map .str))) [] := by
  have hops := ops_spec
  have htl := textIs_len p
  apply code_Text_fn
  simp [code_Text]
  refine aCallW_of rfl rfl hops ?_
  simp
  intro _
  refine loop_by (σ := Nat) (n := 1) (fun i => [.own 0 (((textIs p).map .str).take i), .p (.int .i64 i)]) (fun i => [.row i 1]) (fun i => i ≤ p.length) (fun i => p.length - i) [.slot 0 1] 0 (fun _ => rfl) (by simp [ghosts, ghost]) (by simp) (fun i B hi hB => ?_)
  simp [code_Text_L1]
  refine ⟨fun hlt => ?_, fun hge => ?_⟩
  · have hx := hp p[i] (by simp)
    obtain ⟨k19, kp, kf⟩ := opN_lt hx.op
    have hfl : formsL.length = 19 := rfl
    have hk : opN p[i].op < formsL.length := by omega
    have kf2 : formsL[opN p[i].op] = (p[i].op, formOf p[i].op) := by rw [List.getElem?_eq_getElem hk, Option.some.injEq] at kf; exact kf
    have hpl := place_spec formsL p[i].op
    rw [kp] at hpl
    have hol := opsAll_len hx.op
    have hi64 : I64 (i : Int) := ⟨by omega, by omega⟩
    have hit := itoa10_spec i hi64
    have hitl := itoa_len hi64
    have wi : IntKind.i64.wrap ((i : Int) + 1) = ((i + 1 : Nat) : Int) := by rw [IntWalk.i64_in _ (by omega)]; omega
    have hm : ∀ n : Nat, n ≤ 2000000 → n ≤ maxLen := fun n h => by unfold maxLen; omega
    have tk : List.take (i + 1) (List.map T.str (textIs p)) = List.take i (List.map T.str (textIs p)) ++ [T.str (textI i p[i])] := by
      rw [List.take_succ_eq_append_getElem (by simpa [htl] using hlt)]; simp [textIs_get p i hlt]
    have hmin : min i (textIs p).length = i := by omega
    simp [hlt, encI_eta]
    refine aCallT_of rfl hit rfl ?_
    simp [hlt, encI_eta]
    refine ⟨hm _ (by omega), hm _ (by omega), ?_⟩
    refine aCallW_of rfl rfl hpl ?_
    simp [hfl, k19, kf, kf2, encF]
    refine ⟨by omega, fun h1 => ?_, fun h1 => ⟨fun h2 => ?_, fun h2 => ?_⟩⟩
    · obtain ⟨v1, v2, v3, v4, v5⟩ := hx.val h1
      have hv := text2_spec p[i].v v3 v4 (by omega)
      simp only [encV_eta] at hv
      have ht : textI i p[i] = Lib.itoa i ++ 32 :: (p[i].op ++ 32 :: textV p[i].v) := by simp [textI, h1]
      refine aCallG_of [] hv rfl (by simp [renF, AV.norm]) (by simp) (by simp [framed, renF]) (by simp [AV.under, AV.under1]) (by simp [Ob.below]) ?_
      simp [renF, frameH, setAll, wi, hlt, encI_eta]
      refine ⟨hm _ (by omega), hm _ (by omega), ?_⟩
      refine ⟨by omega, ⟨fun e he => by obtain ⟨x, _, rfl⟩ := List.mem_map.1 (List.mem_of_mem_take he); rfl, by simp, by simp; omega⟩, ?_⟩
      refine cast (congrArg (fun x => B x _) ?_) (hB (i + 1) _ (by omega) (by omega) ?_ ?_ ?_ (by simp [AV.under, AV.under1]))
      · simp [tk, ht]
      · simp [tk]
      · simp [Ob.below, AV.under1]
      · simp
    · obtain ⟨n1, n2⟩ := hx.num h2
      have hn64 : I64 p[i].n := ⟨by omega, by omega⟩
      have hv := itoa10_spec p[i].n hn64
      have hvl := itoa_len hn64
      have ht : textI i p[i] = Lib.itoa i ++ 32 :: (p[i].op ++ 32 :: Lib.itoa p[i].n) := by simp [textI, h2]
      refine aCallW_of rfl rfl hv ?_
      simp [wi]
      refine ⟨hm _ (by omega), hm _ (by omega), ?_⟩
      refine ⟨by omega, ⟨fun e he => by obtain ⟨x, _, rfl⟩ := List.mem_map.1 (List.mem_of_mem_take he); rfl, by simp, by simp; omega⟩, ?_⟩
      refine cast (congrArg (fun x => B x _) ?_) (hB (i + 1) _ (by omega) (by omega) ?_ ?_ ?_ (by simp [AV.under, AV.under1]))
      · simp [tk, ht]
      · simp [tk]
      · simp [Ob.below, AV.under1]
      · simp
    · have ht : textI i p[i] = Lib.itoa i ++ 32 :: p[i].op := by simp [textI, h1, h2]
      simp [wi]
      refine ⟨by omega, ⟨fun e he => by obtain ⟨x, _, rfl⟩ := List.mem_map.1 (List.mem_of_mem_take he); rfl, by simp, by simp; omega⟩, ?_⟩
      refine cast (congrArg (fun x => B x _) ?_) (hB (i + 1) _ (by omega) (by omega) ?_ ?_ ?_ (by simp [AV.under, AV.under1]))
      · simp [tk, ht]
      · simp [tk]
      · simp [Ob.below, AV.under1]
      · simp
  · have hi : i = p.length := by omega
    subst hi
    have tkl : List.take p.length (List.map T.str (textIs p)) = List.map T.str (textIs p) := List.take_of_length_le (by simp [htl])
    rw [tkl]
    exact gives_pure (by simp [AV.pur])

end Go.Proofs.YtgfnodmghaghpaaDoor
