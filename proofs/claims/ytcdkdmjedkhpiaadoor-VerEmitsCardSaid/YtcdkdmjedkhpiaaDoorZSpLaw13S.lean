/- The laws VerStack, VerMeets, VerEmits. -/
import Derived.Test.YtcdkdmjedkhpiaaDoorZSpLaw13
import Derived.Test.YtcdkdmjedkhpiaaDoorZPuVerL

set_option linter.unusedSimpArgs false
set_option linter.unusedVariables false
namespace Go.Proofs.YtcdkdmjedkhpiaaDoor
open Go Go.Abs

attribute [local irreducible] Abs.Fn

theorem tX_eq : T.agg [.str [120], .int .i64 0, .int .i64 0, .bool false, .str [], .slice [], .int .i64 0] = encI xI := rfl
theorem tE_eq : T.agg [.str [101, 109, 105, 116], .int .i64 0, .int .i64 0, .bool false, .str [], .slice [], .int .i64 1] = encI emI := rfl
theorem tR_eq : T.agg [.str [114, 101, 116], .int .i64 0, .int .i64 0, .bool false, .str [], .slice [], .int .i64 0] = encI retI := rfl

theorem app7 {l : List In} (h : l.length ≤ 1000) {ms : List T} (hm : ms.length ≤ 10) (h7 : ∀ e ∈ ms, e.cells.length = 7) : appendable 7 88 (l.map encI) ms := by
  refine ⟨fun e he => ?_, h7, by simp; omega⟩
  obtain ⟨y, _, rfl⟩ := List.mem_map.1 he
  rfl

set_option maxRecDepth 100000 in
set_option maxHeartbeats 1000000 in
theorem VerStack_spec (n take : Int) (hn : 0 ≤ n ∧ n ≤ 255) (ht : 0 ≤ take ∧ take ≤ 255) : Abs.Fn Tryd.prog runnellaw13_VerStack_i [] [.p (.int .u8 n), .p (.int .u8 take)] (.p (.bool true)) [] := by
  obtain ⟨k, rfl⟩ : ∃ k : Nat, n = k := ⟨n.toNat, by omega⟩
  obtain ⟨t, rfl⟩ : ∃ t : Nat, take = t := ⟨take.toNat, by omega⟩
  have hk : k ≤ 255 := by omega
  have ht' : t ≤ 255 := by omega
  have ck : IntKind.i64.wrap (k : Int) = k := IntWalk.i64_in _ (by omega)
  have ct : IntKind.i64.wrap (t : Int) = t := IntWalk.i64_in _ (by omega)
  obtain ⟨u, i, e, hv, hc⟩ := stack_law k t hk ht'
  have hck := VCheck_spec (stackP k t) oneT13 (by rw [stackP_len]; omega)
  rw [hv] at hck
  apply runnellaw13_VerStack_fn
  simp [runnellaw13_VerStack]
  refine aCallW_of rfl rfl known13 ?_
  simp [ck]
  refine loop_by (σ := Nat) (n := 1) (fun j => [.own 0 ((List.replicate j xI).map encI), .p (.int .i64 j)]) (fun j => [.row j 7]) (fun j => j ≤ k) (fun j => k - j) [.slot 0 7] 0 (fun _ => rfl) ⟨rfl, rfl⟩ (by simp) (fun j B hj hB => ?_)
  simp [runnellaw13_VerStack_L1]
  refine ⟨fun hlt => ?_, fun hge => ?_⟩
  · have w1 : IntKind.i64.wrap ((j : Int) + 1) = ((j + 1 : Nat) : Int) := by rw [IntWalk.i64_in _ (by omega)]; omega
    rw [w1, tX_eq]
    have ha := app7 (l := List.replicate j xI) (ms := [encI xI]) (by simp; omega) (by simp) (by simp)
    simp only [List.map_replicate] at ha
    have he : List.replicate j (encI xI) ++ [encI xI] = (List.replicate (j + 1) xI).map encI := by simp [List.replicate_succ']
    refine ⟨ha, ?_⟩
    rw [he]
    exact hB (j + 1) _ (by omega) (by omega) (by simp) (by simp [Ob.below]) (by simp) (by simp [AV.under, AV.under1])
  · have hjk : j = k := by omega
    subst hjk
    simp [ct]
    refine loop_by (σ := Nat) (n := 1) (fun m => [.own 0 ((List.replicate j xI ++ List.replicate m emI).map encI), .p (.int .i64 m)]) (fun m => [.row (j + m) 7]) (fun m => m ≤ t) (fun m => t - m) [] 0 (fun _ => rfl) (by simp [ghosts]) (by simp) (fun m B2 hm hB2 => ?_)
    simp [runnellaw13_VerStack_L2]
    refine ⟨fun hlt => ?_, fun hge => ?_⟩
    · have w1 : IntKind.i64.wrap ((m : Int) + 1) = ((m + 1 : Nat) : Int) := by rw [IntWalk.i64_in _ (by omega)]; omega
      rw [w1, tE_eq]
      have ha := app7 (l := List.replicate j xI ++ List.replicate m emI) (ms := [encI emI]) (by simp; omega) (by simp) (by simp)
      simp only [List.map_replicate, List.map_append] at ha
      have he : List.replicate j (encI xI) ++ (List.replicate m (encI emI) ++ [encI emI]) = (List.replicate j xI ++ List.replicate (m + 1) emI).map encI := by simp [List.replicate_succ']
      refine ⟨ha, ?_⟩
      rw [he]
      exact hB2 (m + 1) _ (by omega) (by omega) (by simp [Nat.add_assoc]) (by simp [Ob.below]) (by simp) (by simp [AV.under, AV.under1])
    · have hmt : m = t := by omega
      subst hmt
      rw [tR_eq]
      have ha := app7 (l := List.replicate j xI ++ List.replicate m emI) (ms := [encI retI]) (by simp; omega) (by simp) (by simp)
      simp only [List.map_replicate, List.map_append] at ha
      refine ⟨ha, ?_⟩
      have hst : List.replicate j (encI xI) ++ (List.replicate m (encI emI) ++ [encI retI]) = (stackP j m).map encI := by simp [stackP]
      rw [hst]
      refine aCallN_of [] hck rfl (by simp [renF, treeA, oneT13]) (by simp) (by simp [framed, renF]) (by simp [AV.under, AV.under1]) (by simp [Ob.below, AV.under1]) ?_
      simp [renF, frameH, setAll, verR]
      have w2 : IntKind.i64.wrap ((j : Int) + j) = (j : Int) + j := IntWalk.i64_in _ (by omega)
      have w3 : IntKind.i64.wrap ((j : Int) + (m + 1) - 1) = (j : Int) + m := by rw [IntWalk.i64_in _ (by omega)]; omega
      rw [w2, w3]
      refine ⟨fun c => ?_, fun c => ⟨fun c' => ?_, fun c' => ⟨fun c2 => ?_, fun c2 => ?_⟩⟩⟩
      · rw [if_pos (by omega)] at hc
        exact gives_p (by simp [hc.1, hc.2])
      · rw [if_neg (by omega), if_pos c'] at hc
        exact gives_p (by simp [hc.1, hc.2])
      · rw [if_neg (by omega), if_neg (by omega), if_pos c2] at hc
        exact gives_p (by simp [hc.1, hc.2])
      · rw [if_neg (by omega), if_neg (by omega), if_neg (by omega)] at hc
        exact gives_p (by simp [hc])

theorem sameT13_spec {a b : Ty} (ha : Wd 1000000000 a) (hb : Wd 1000000000 b) : Abs.Fn Tryd.prog runnellaw4_SameT_i [] [.p (encT a), .p (encT b)] (.p (.bool (sameT a b))) [] := by
  apply runnellaw4_SameT_fn
  simp [runnellaw4_SameT]
  (first | refine aCall_fold rfl ?_ | refine aCallT_fold rfl ?_)
  (first | refine aCallU_p (of1_spec ha) ?_ | refine aCallTU_p (of1_spec ha) ?_ | refine aCallU_of (of1_spec ha) ?_ | refine aCallTU_of (of1_spec ha) rfl ?_ | refine aCallTU_of (of1_spec ha) (by simp [AV.pur]; rfl) ?_)
  try simp
  (first | refine aCall_fold rfl ?_ | refine aCallT_fold rfl ?_)
  (first | refine aCallU_p (of1_spec hb) ?_ | refine aCallTU_p (of1_spec hb) ?_ | refine aCallU_of (of1_spec hb) ?_ | refine aCallTU_of (of1_spec hb) rfl ?_ | refine aCallTU_of (of1_spec hb) (by simp [AV.pur]; rfl) ?_)
  try simp
  (first | refine aCall_fold rfl ?_ | refine aCallT_fold rfl ?_)
  (first | refine aCallU_p (sameType_spec a b) ?_ | refine aCallTU_p (sameType_spec a b) ?_ | refine aCallU_of (sameType_spec a b) ?_ | refine aCallTU_of (sameType_spec a b) rfl ?_ | refine aCallTU_of (sameType_spec a b) (by simp [AV.pur]; rfl) ?_)
  try simp
  exact gives_p rfl

set_option maxRecDepth 100000 in
set_option maxHeartbeats 1000000 in
theorem VerMeets_spec (a b : Va) : Abs.Fn Tryd.prog runnellaw13_VerMeets_i [] [.p (encV a), .p (encV b)] (.p (.bool true)) [] := by
  have hfew := few11_spec [.mk [] a 0, .mk [] b 0]
  have hca := Checkv_spec a
  have hcb := Checkv_spec b
  apply runnellaw13_VerMeets_fn
  simp only [encV_eta] at hca hcb
  simp [runnellaw13_VerMeets]
  refine aCallW_of rfl rfl known13 ?_
  simp
  refine aCallN_of [] hfew rfl (by simp [renF, treeA, encI]) (by simp) (by simp [framed, renF]) (by simp [AV.under, AV.under1]) (by simp [Ob.below, AV.under1]) ?_
  simp [renF, frameH, setAll]
  refine aMerge_intro (decide (checkV a 0 ≠ 0)) (fun _ => ?_) ?_
  · refine aCallN_of [] hca rfl (by simp [renF, treeA]) (by simp) (by simp [framed, renF]) (by simp [AV.under, AV.under1]) (by simp [Ob.below, AV.under1]) ?_
    simp [renF, frameH, setAll]
  refine aMerge_intro (decide (checkV b 0 ≠ 0)) (fun _ => ?_) ?_
  · refine aCallN_of [] hcb rfl (by simp [renF, treeA]) (by simp) (by simp [framed, renF]) (by simp [AV.under, AV.under1]) (by simp [Ob.below, AV.under1]) ?_
    simp [renF, frameH, setAll]
  simp
  refine ⟨fun _ => gives_p rfl, fun h1 h2 h3 => ?_⟩
  obtain ⟨_, hw⟩ := few13_wv h1
  have wa : Wv 1000000000 a := hw (.mk [] a 0) (by simp)
  have wb : Wv 1000000000 b := hw (.mk [] b 0) (by simp)
  have hck := VCheck_spec (meetP a b) twoT13 (by simp [meetP])
  rw [meet_law h2 h3] at hck
  have ea : typeOfV a = kindV a := by simp [typeOfV, h2]
  have eb : typeOfV b = kindV b := by simp [typeOfV, h3]
  have hta := TypeOfv_spec a fun _ => wa
  have htb := TypeOfv_spec b fun _ => wb
  rw [ea] at hta
  rw [eb] at htb
  have da : Wd 1000000000 (kindV a) := ty_wd (kindV_check a 0 h2) (by omega)
  have db : Wd 1000000000 (kindV b) := ty_wd (kindV_check b 0 h3) (by omega)
  have hs := sameT13_spec da db
  have hs2 := sameT13_spec da da
  rw [(sameT_iff _ _).2 rfl] at hs2
  generalize sameT (kindV a) (kindV b) = sm at *
  simp only [encV_eta, encT_eta] at hta htb hs hs2
  generalize kindV a = ta at *
  generalize kindV b = tb at *
  refine aCallN_of [] hck rfl (by simp [renF, treeA, meetP, encI, twoT13, xI, emI, retI, oX, oJf, oPush, oJmp, oEmit', oRet']) (by simp) (by simp [framed, renF]) (by simp [AV.under, AV.under1]) (by simp [Ob.below, AV.under1]) ?_
  cases sm with
  | true =>
    simp [renF, frameH, setAll, verR]
    refine aCallT_of (ts := [.agg [.int .i64 a.k, .int .i64 a.i, .bool a.b, .str a.s, .slice (a.t.map encV)]]) (caps := []) (by simp) hta rfl ?_
    simp [frameH, setAll]
    refine aCallT_of (ts := [.agg [.int .i64 b.k, .int .i64 b.i, .bool b.b, .str b.s, .slice (b.t.map encV)]]) (caps := []) (by simp) htb rfl ?_
    simp [frameH, setAll]
    refine aCallT_of (ts := [.agg [.int .i64 ta.kind, .slice (ta.of.map encT)], .agg [.int .i64 tb.kind, .slice (tb.of.map encT)]]) (caps := []) (by simp) hs rfl ?_
    simp [frameH, setAll]
    refine aCallT_of (ts := [.agg [.int .i64 a.k, .int .i64 a.i, .bool a.b, .str a.s, .slice (a.t.map encV)]]) (caps := []) (by simp) hta rfl ?_
    simp [frameH, setAll]
    refine aCallT_of (ts := [.agg [.int .i64 ta.kind, .slice (ta.of.map encT)], .agg [.int .i64 ta.kind, .slice (ta.of.map encT)]]) (caps := []) (by simp) hs2 rfl ?_
    simp [frameH, setAll]
    exact gives_p rfl
  | false =>
    simp [renF, frameH, setAll, verR]
    refine aCallT_of (ts := [.agg [.int .i64 a.k, .int .i64 a.i, .bool a.b, .str a.s, .slice (a.t.map encV)]]) (caps := []) (by simp) hta rfl ?_
    simp [frameH, setAll]
    refine aCallT_of (ts := [.agg [.int .i64 b.k, .int .i64 b.i, .bool b.b, .str b.s, .slice (b.t.map encV)]]) (caps := []) (by simp) htb rfl ?_
    simp [frameH, setAll]
    refine aCallT_of (ts := [.agg [.int .i64 ta.kind, .slice (ta.of.map encT)], .agg [.int .i64 tb.kind, .slice (tb.of.map encT)]]) (caps := []) (by simp) hs rfl ?_
    simp [frameH, setAll]
    exact gives_p rfl

end Go.Proofs.YtcdkdmjedkhpiaaDoor
