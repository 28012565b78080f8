/- The laws of the package runnellaw7: known; OpShapes; OpFields. -/
import Derived.Test.YtklnalofcjagnaaGreatZSpOpP
import Derived.Test.YtklnalofcjagnaaGreatZSpTypD
import Derived.Test.YtklnalofcjagnaaGreatZSpExprB
import Derived.Test.YtklnalofcjagnaaGreatZPuEx
import Derived.Test.YtklnalofcjagnaaGreatS2
set_option linter.unusedSimpArgs false
set_option linter.unusedVariables false
namespace Go.Proofs.YtklnalofcjagnaaGreat
open Go Go.Abs

attribute [local irreducible] Abs.Fn

theorem Out7_of {o : Opr} {ins : List Ty} {r : R Ty} (h : outP o ins = r) (hes : ∀ e ∈ o.es, We 1000000000 e ∧ sizeE e ≤ 1000000000) (hkey : We 1000000000 o.key ∧ sizeE o.key ≤ 1000000000) (hl : o.es.length ≤ 1000000) (hi : ins.length ≤ 1000000) :
    Abs.Fn Tryz.prog op_Out_i [] [.p (encO o), .p (.slice (ins.map encT))] (tyR r) [] := h ▸ Out7_spec o ins hes hkey hl hi

abbrev opK7 (k : Int) (es : List Ex) : Opr := ⟨k, [], .mk 0 [], es, zeroE, 0, 0⟩
abbrev flat7 : Opr := opK7 4 [eX, eL (intV 7)]
abbrev tally7 : Opr := ⟨6, [], .mk 0 [], [], eX, 0, 2⟩
abbrev src7 : Opr := ⟨1, [65], .mk 0 [], [], zeroE, 0, 0⟩
abbrev intT : Ty := .mk 1 []

theorem we_zero : We 1000000000 zeroE := .mk _ _ _ _ (.mk _ _ _ _ _ (by simp) (by simp) (by simp)) (by simp) (by simp)

theorem k7_1 : Abs.Fn Tryz.prog op_Out_i [] [.p (encO flat7), .p (.slice ([intT].map encT))] (tyR (.ok intT)) [] :=
  Out7_of rfl (fun e he => by
    simp only [List.mem_cons, List.not_mem_nil, or_false] at he
    rcases he with rfl | rfl
    · exact ⟨we_x, by simp [sizeE, sizeEs]⟩
    · exact ⟨we_l (wv_int _), by simp [sizeE, sizeEs]⟩) ⟨we_zero, by simp [sizeE, sizeEs]⟩ (by simp) (by simp)
theorem k7_2 : Abs.Fn Tryz.prog op_Out_i [] [.p (encO tally7), .p (.slice ([intT].map encT))] (tyR (.ok (.mk 4 [intT, intT]))) [] :=
  Out7_of rfl (fun e he => by simp at he) ⟨we_x, by simp [sizeE, sizeEs]⟩ (by simp) (by simp)
theorem k7_3 : Abs.Fn Tryz.prog op_Out_i [] [.p (encO src7), .p (.slice (([] : List Ty).map encT))] (tyR (.er 6)) [] :=
  Out7_of rfl (fun e he => by simp at he) ⟨we_zero, by simp [sizeE, sizeEs]⟩ (by simp) (by simp)
theorem k7_4 : Abs.Fn Tryz.prog op_Apply_i [] [.p (encO flat7), .p (encV (intV 3))] (allR (.ok [intV 3, intV 7])) [] :=
  Apply7_spec _ _ _ rfl (fun e he => by
    simp only [List.mem_cons, List.not_mem_nil, or_false] at he
    rcases he with rfl | rfl
    · exact we_x
    · exact we_l (wv_int _)) (wv_int _) (by simp) (by simp)
theorem k7_5 : Abs.Fn Tryz.prog op_Key_i [] [.p (encO tally7), .p (encV (intV 5))] (twoR (.ok (intV 5))) [] :=
  Key7_spec _ _ _ rfl we_x (wv_int _)

set_option maxRecDepth 100000 in
set_option maxHeartbeats 2000000 in
theorem known7_spec : Abs.Fn Tryz.prog runnellaw7_known_i [] [] (.p (.bool true)) [] := by
  have k1 := k7_1
  have k2 := k7_2
  have k3 := k7_3
  have k4 := k7_4
  have k5 := k7_5
  simp only [tyR, R.get, R.num, twoR, allR] at k1 k2 k3 k4 k5
  apply runnellaw7_known_fn
  unfold runnellaw7_known_P0
  simp
  rw [runnellaw7_known_c2_eq]
  unfold runnellaw7_known_P2
  simp
  (first | refine aCall_fold rfl ?_ | refine aCallT_fold rfl ?_)
  (first | refine aCallU_p (X_spec) ?_ | refine aCallTU_p (X_spec) ?_ | refine aCallU_of (X_spec) ?_ | refine aCallTU_of (X_spec) rfl ?_ | refine aCallTU_of (X_spec) (by simp [AV.pur]; rfl) ?_)
  try simp
  (first | refine aCall_fold rfl ?_ | refine aCallT_fold rfl ?_)
  (first | refine aCallU_p (Int_spec _) ?_ | refine aCallTU_p (Int_spec _) ?_ | refine aCallU_of (Int_spec _) ?_ | refine aCallTU_of (Int_spec _) rfl ?_ | refine aCallTU_of (Int_spec _) (by simp [AV.pur]; rfl) ?_)
  try simp
  (first | refine aCall_fold rfl ?_ | refine aCallT_fold rfl ?_)
  (first | refine aCallU_p (Lit_spec _) ?_ | refine aCallTU_p (Lit_spec _) ?_ | refine aCallU_of (Lit_spec _) ?_ | refine aCallTU_of (Lit_spec _) rfl ?_ | refine aCallTU_of (Lit_spec _) (by simp [AV.pur]; rfl) ?_)
  try simp
  rw [runnellaw7_known_c3_eq]
  unfold runnellaw7_known_P3
  simp
  (first | refine aCall_fold rfl ?_ | refine aCallT_fold rfl ?_)
  (first | refine aCallU_p (k1) ?_ | refine aCallTU_p (k1) ?_ | refine aCallU_of (k1) ?_ | refine aCallTU_of (k1) rfl ?_ | refine aCallTU_of (k1) (by simp [AV.pur]; rfl) ?_)
  try simp
  rw [runnellaw7_known_c4_eq]
  unfold runnellaw7_known_P4
  simp
  (first | refine aCall_fold rfl ?_ | refine aCallT_fold rfl ?_)
  (first | refine aCallU_p (Int_spec _) ?_ | refine aCallTU_p (Int_spec _) ?_ | refine aCallU_of (Int_spec _) ?_ | refine aCallTU_of (Int_spec _) rfl ?_ | refine aCallTU_of (Int_spec _) (by simp [AV.pur]; rfl) ?_)
  try simp
  (first | refine aCall_fold rfl ?_ | refine aCallT_fold rfl ?_)
  (first | refine aCallU_p (k4) ?_ | refine aCallTU_p (k4) ?_ | refine aCallU_of (k4) ?_ | refine aCallTU_of (k4) rfl ?_ | refine aCallTU_of (k4) (by simp [AV.pur]; rfl) ?_)
  try simp
  rw [runnellaw7_known_c5_eq]
  unfold runnellaw7_known_P5
  simp
  (first | refine aCall_fold rfl ?_ | refine aCallT_fold rfl ?_)
  (first | refine aCallU_p (X_spec) ?_ | refine aCallTU_p (X_spec) ?_ | refine aCallU_of (X_spec) ?_ | refine aCallTU_of (X_spec) rfl ?_ | refine aCallTU_of (X_spec) (by simp [AV.pur]; rfl) ?_)
  try simp
  rw [runnellaw7_known_c6_eq]
  unfold runnellaw7_known_P6
  simp
  (first | refine aCall_fold rfl ?_ | refine aCallT_fold rfl ?_)
  (first | refine aCallU_p (k2) ?_ | refine aCallTU_p (k2) ?_ | refine aCallU_of (k2) ?_ | refine aCallTU_of (k2) rfl ?_ | refine aCallTU_of (k2) (by simp [AV.pur]; rfl) ?_)
  try simp
  rw [runnellaw7_known_c7_eq]
  unfold runnellaw7_known_P7
  simp
  (first | refine aCall_fold rfl ?_ | refine aCallT_fold rfl ?_)
  (first | refine aCallU_p (k3) ?_ | refine aCallTU_p (k3) ?_ | refine aCallU_of (k3) ?_ | refine aCallTU_of (k3) rfl ?_ | refine aCallTU_of (k3) (by simp [AV.pur]; rfl) ?_)
  try simp
  rw [runnellaw7_known_c8_eq]
  unfold runnellaw7_known_P8
  simp
  (first | refine aCall_fold rfl ?_ | refine aCallT_fold rfl ?_)
  (first | refine aCallU_p (Int_spec _) ?_ | refine aCallTU_p (Int_spec _) ?_ | refine aCallU_of (Int_spec _) ?_ | refine aCallTU_of (Int_spec _) rfl ?_ | refine aCallTU_of (Int_spec _) (by simp [AV.pur]; rfl) ?_)
  try simp
  (first | refine aCall_fold rfl ?_ | refine aCallT_fold rfl ?_)
  (first | refine aCallU_p (k5) ?_ | refine aCallTU_p (k5) ?_ | refine aCallU_of (k5) ?_ | refine aCallTU_of (k5) rfl ?_ | refine aCallTU_of (k5) (by simp [AV.pur]; rfl) ?_)
  try simp
  rw [runnellaw7_known_c9_eq]
  unfold runnellaw7_known_P9
  have w0 : IntKind.i64.wrap 0 = 0 := by rfl
  have htx := text_spec (.mk 4 [intT, intT]) (by decide)
  have htt : textT (.mk 4 [intT, intT]) = [40, 105, 110, 116, 44, 105, 110, 116, 41] := by rfl
  rw [htt] at htx
  have n1 : nameS [97, 95, 49] = true := by rfl
  have n2 : nameS [49, 97] = false := by rfl
  have q1 : keyedO 6 = true := by rfl
  have q2 : keyedO 4 = false := by rfl
  simp [w0]
  refine aMerge_intro true (fun _ => ?_) ?_
  · (first | refine aCall_fold rfl ?_ | refine aCallT_fold rfl ?_)
    (first | refine aCallU_p (htx) ?_ | refine aCallTU_p (htx) ?_ | refine aCallU_of (htx) ?_ | refine aCallTU_of (htx) rfl ?_ | refine aCallTU_of (htx) (by simp [AV.pur]; rfl) ?_)
    try simp
  simp
  refine aMerge_intro true (fun _ => ?_) ?_
  · (first | refine aCall_fold rfl ?_ | refine aCallT_fold rfl ?_)
    (first | refine aCallU_p (keyed7_spec tally7) ?_ | refine aCallTU_p (keyed7_spec tally7) ?_ | refine aCallU_of (keyed7_spec tally7) ?_ | refine aCallTU_of (keyed7_spec tally7) rfl ?_ | refine aCallTU_of (keyed7_spec tally7) (by simp [AV.pur]; rfl) ?_)
    try simp [q1]
  simp
  refine aMerge_intro true (fun _ => ?_) ?_
  · (first | refine aCall_fold rfl ?_ | refine aCallT_fold rfl ?_)
    (first | refine aCallU_p (keyed7_spec flat7) ?_ | refine aCallTU_p (keyed7_spec flat7) ?_ | refine aCallU_of (keyed7_spec flat7) ?_ | refine aCallTU_of (keyed7_spec flat7) rfl ?_ | refine aCallTU_of (keyed7_spec flat7) (by simp [AV.pur]; rfl) ?_)
    try simp [q2]
  simp
  refine aMerge_intro true (fun _ => ?_) ?_
  · (first | refine aCall_fold rfl ?_ | refine aCallT_fold rfl ?_)
    (first | refine aCallU_p (name7_spec _) ?_ | refine aCallTU_p (name7_spec _) ?_ | refine aCallU_of (name7_spec _) ?_ | refine aCallTU_of (name7_spec _) rfl ?_ | refine aCallTU_of (name7_spec _) (by simp [AV.pur]; rfl) ?_)
    try simp [n1]
  simp
  refine aMerge_intro true (fun _ => ?_) ?_
  · (first | refine aCall_fold rfl ?_ | refine aCallT_fold rfl ?_)
    (first | refine aCallU_p (name7_spec _) ?_ | refine aCallTU_p (name7_spec _) ?_ | refine aCallU_of (name7_spec _) ?_ | refine aCallTU_of (name7_spec _) rfl ?_ | refine aCallTU_of (name7_spec _) (by simp [AV.pur]; rfl) ?_)
    try simp [n2]
  simp [aRes, tupOf]
  exact gives_p rfl

theorem cmpV_int7 (a b : Int) : cmpV (.mk 1 a false [] []) (.mk 1 b false [] []) = cmpI a b := by
  have h1 : cmpI 1 1 = 0 := by rfl
  have h2 : cmpI (truthI false) (truthI false) = 0 := by rfl
  have h3 : cmpS [] [] = 0 := by rfl
  simp only [cmpV, orI, cmpVs, h1, h2, h3, ne_eq, not_true, if_false]
  by_cases h : cmpI a b = 0 <;> simp [h]
theorem cmpI_lt7 (a b : Int) : cmpI a b < 0 ↔ a < b := by
  unfold cmpI
  split
  · simp; omega
  · split <;> simp <;> omega
theorem cmp_int7 (a b : Int) : cmpV (.mk 1 a false [] []) (.mk 1 b false [] []) < 0 ↔ a < b := by rw [cmpV_int7, cmpI_lt7]

theorem we_ops {op : List UInt8} {a : Int} : We 1000000000 (e2 op eX (eL (intV a))) := we_2 we_x (we_l (wv_int _))

theorem ap_m (a b : Int) : applyO (opK7 2 [e2 oAdd eX (eL (intV b))]) (intV a) = some (.ok [intV (w64 (a + b))]) := by
  simp [applyO, evL, evE, ev2, ev3, mkE]
theorem ap_f (a b : Int) : applyO (opK7 3 [e2 oLt eX (eL (intV b))]) (intV a) = some (.ok (if a < b then [intV a] else [])) := by
  simp [applyO, evL, evE, ev2, ev3, mkE, cmp_int7, Va.truth]
theorem ap_t (a b : Int) : applyO (opK7 4 [eX, eL (intV b), e2 oSub eX (eL (intV b))]) (intV a) = some (.ok [intV a, intV b, intV (w64 (a - b))]) := by
  simp [applyO, evL, evE, ev2, ev3, mkE]
theorem ap_d0 (a : Int) : applyO (opK7 4 [eX, e2 oDiv eX (eL (intV 0))]) (intV a) = some (.er 8) := by
  simp [applyO, evL, evE, ev2, ev3, mkE]
theorem ap_d (a b : Int) (h : b ≠ 0) : applyO (opK7 4 [eX, e2 oDiv eX (eL (intV b))]) (intV a) = some (.ok [intV a, intV (w64 (a.tdiv b))]) := by
  simp [applyO, evL, evE, ev2, ev3, mkE, h]

theorem ap7 {k : Int} {es : List Ex} {a : Int} {r : R (List Va)} (h : applyO (opK7 k es) (intV a) = some r) (hes : ∀ e ∈ es, We 1000000000 e) (hl : es.length ≤ 8) (h3 : k = 3 → es.length = 1) : Abs.Fn Tryz.prog op_Apply_i [] [.p (encO (opK7 k es)), .p (encV (intV a))] (allR r) [] :=
  Apply7_spec _ _ _ h hes (wv_int _) hl h3

end Go.Proofs.YtklnalofcjagnaaGreat
