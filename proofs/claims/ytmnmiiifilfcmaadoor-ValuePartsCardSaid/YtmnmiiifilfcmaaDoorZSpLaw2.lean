/- The laws of values. -/
import Derived.Test.YtmnmiiifilfcmaaDoorZSpText
import Derived.Test.YtmnmiiifilfcmaaDoorZSpValT
import Derived.Test.YtmnmiiifilfcmaaDoorZSpBudT
import Derived.Test.YtmnmiiifilfcmaaDoorS1
set_option linter.unusedSimpArgs false
set_option linter.unusedVariables false
namespace Go.Proofs.YtmnmiiifilfcmaaDoor
open Go Go.Abs

attribute [local irreducible] Abs.Fn

def known2V : Va := .mk 4 0 false [] [.mk 1 (-5) false [] [], .mk 3 0 false [97, 34, 1] [], .mk 2 0 true [] []]
theorem known2_text : textV known2V = [40, 45, 53, 44, 34, 97, 92, 50, 50, 92, 48, 49, 34, 44, 116, 114, 117, 101, 41] := by
  simp [known2V, textV, textVs, quoteS, escC, plainC, hexC, TJ.join, TJ.tail, Lib.itoa, Lib.decDigits]
theorem known2_type : textT (kindV known2V) = [40, 105, 110, 116, 44, 116, 101, 120, 116, 44, 98, 111, 111, 108, 41] := by
  simp [known2V, kindV, textT, textTs, wordS, TJ.join, TJ.tail]
theorem known2_rg : RgV known2V := by
  refine .mk _ _ _ _ _ ⟨by omega, by omega⟩ ⟨by omega, by omega⟩ (by simp [maxLen]) (by simp [maxLen]) (fun v hv => ?_)
  simp at hv
  rcases hv with rfl | rfl | rfl <;> exact .mk _ _ _ _ _ ⟨by omega, by omega⟩ ⟨by omega, by omega⟩ (by simp [maxLen]) (by simp [maxLen]) (by simp)
theorem known2_wv (n : Nat) (h : 10 ≤ n) : Wv n known2V := by
  refine .mk _ _ _ _ _ (by simp) (by simp; omega) (fun v hv => ?_)
  simp at hv
  rcases hv with rfl | rfl | rfl <;> exact .mk _ _ _ _ _ (by simp <;> omega) (by simp) (by simp)
theorem known2_ok : checkV known2V 0 = 0 := by decide

theorem known2_spec : Abs.Fn Tryd.prog runnellaw2_known_i [] [] (.p (.bool true)) [] := by
  apply runnellaw2_known_fn
  have k1 := typeOf2_spec (known2_wv 1000000000 (by omega))
  have k2 := Checkv_spec known2V
  have k3 := text2_spec known2V known2_rg (known2_wv _ (by omega)) (by rw [known2_text]; simp)
  have k4 := text_spec (kindV known2V) (by rw [known2_type]; simp)
  have k5 := is2_spec known2V (kindV known2V) (known2_wv _ (by omega))
  have k6 := is2_spec known2V (.mk 1 []) (known2_wv _ (by omega))
  have k7 := Same_spec known2V known2V
  have k8 := Checkv_spec (.mk 1 0 false [120] [])
  have k9 := Compare_spec known2V (intV 1)
  have k10 := Compare_spec (intV 1) (intV 2)
  have k11 := Tup_spec [intV (-5), strV [97, 34, 1], boolV true] (by simp)
  have e1 : typeOfV known2V = kindV known2V := by simp [typeOfV, known2_ok]
  rw [e1] at k1
  rw [known2_ok] at k2
  rw [known2_text] at k3
  rw [known2_type] at k4
  rw [show isV known2V (kindV known2V) = true by decide] at k5
  rw [show isV known2V (.mk 1 []) = false by decide] at k6
  rw [show decide (cmpV known2V known2V = 0) = true by decide] at k7
  rw [show checkV (.mk 1 0 false [120] []) 0 = 2 by decide] at k8
  rw [show cmpV known2V (intV 1) = 1 by decide] at k9
  rw [show cmpV (intV 1) (intV 2) = -1 by decide] at k10
  simp [runnellaw2_known]
  (first | refine aCall_fold rfl ?_ | refine aCallT_fold rfl ?_)
  (first | refine aCallU_p (Int_spec _) ?_ | refine aCallTU_p (Int_spec _) ?_ | refine aCallU_of (Int_spec _) ?_ | refine aCallTU_of (Int_spec _) rfl ?_ | refine aCallTU_of (Int_spec _) (by simp [AV.pur]; rfl) ?_)
  try simp
  (first | refine aCall_fold rfl ?_ | refine aCallT_fold rfl ?_)
  (first | refine aCallU_p (Str_spec _) ?_ | refine aCallTU_p (Str_spec _) ?_ | refine aCallU_of (Str_spec _) ?_ | refine aCallTU_of (Str_spec _) rfl ?_ | refine aCallTU_of (Str_spec _) (by simp [AV.pur]; rfl) ?_)
  try simp
  (first | refine aCall_fold rfl ?_ | refine aCallT_fold rfl ?_)
  (first | refine aCallU_p (Bool_spec _) ?_ | refine aCallTU_p (Bool_spec _) ?_ | refine aCallU_of (Bool_spec _) ?_ | refine aCallTU_of (Bool_spec _) rfl ?_ | refine aCallTU_of (Bool_spec _) (by simp [AV.pur]; rfl) ?_)
  try simp
  (first | refine aCall_fold rfl ?_ | refine aCallT_fold rfl ?_)
  (first | refine aCallU_p (k11) ?_ | refine aCallTU_p (k11) ?_ | refine aCallU_of (k11) ?_ | refine aCallTU_of (k11) rfl ?_ | refine aCallTU_of (k11) (by simp [AV.pur]; rfl) ?_)
  try simp
  (first | refine aCall_fold rfl ?_ | refine aCallT_fold rfl ?_)
  (first | refine aCallU_p (k1) ?_ | refine aCallTU_p (k1) ?_ | refine aCallU_of (k1) ?_ | refine aCallTU_of (k1) rfl ?_ | refine aCallTU_of (k1) (by simp [AV.pur]; rfl) ?_)
  try simp
  (first | refine aCall_fold rfl ?_ | refine aCallT_fold rfl ?_)
  (first | refine aCallU_p (k2) ?_ | refine aCallTU_p (k2) ?_ | refine aCallU_of (k2) ?_ | refine aCallTU_of (k2) rfl ?_ | refine aCallTU_of (k2) (by simp [AV.pur]; rfl) ?_)
  try simp
  (first | refine aCall_fold rfl ?_ | refine aCallT_fold rfl ?_)
  (first | refine aCallU_p (k3) ?_ | refine aCallTU_p (k3) ?_ | refine aCallU_of (k3) ?_ | refine aCallTU_of (k3) rfl ?_ | refine aCallTU_of (k3) (by simp [AV.pur]; rfl) ?_)
  try simp
  (first | refine aCall_fold rfl ?_ | refine aCallT_fold rfl ?_)
  (first | refine aCallU_p (k4) ?_ | refine aCallTU_p (k4) ?_ | refine aCallU_of (k4) ?_ | refine aCallTU_of (k4) rfl ?_ | refine aCallTU_of (k4) (by simp [AV.pur]; rfl) ?_)
  try simp
  (first | refine aCall_fold rfl ?_ | refine aCallT_fold rfl ?_)
  (first | refine aCallU_p (k5) ?_ | refine aCallTU_p (k5) ?_ | refine aCallU_of (k5) ?_ | refine aCallTU_of (k5) rfl ?_ | refine aCallTU_of (k5) (by simp [AV.pur]; rfl) ?_)
  try simp
  (first | refine aCall_fold rfl ?_ | refine aCallT_fold rfl ?_)
  (first | refine aCallU_p (k6) ?_ | refine aCallTU_p (k6) ?_ | refine aCallU_of (k6) ?_ | refine aCallTU_of (k6) rfl ?_ | refine aCallTU_of (k6) (by simp [AV.pur]; rfl) ?_)
  try simp
  (first | refine aCall_fold rfl ?_ | refine aCallT_fold rfl ?_)
  (first | refine aCallU_p (Int_spec _) ?_ | refine aCallTU_p (Int_spec _) ?_ | refine aCallU_of (Int_spec _) ?_ | refine aCallTU_of (Int_spec _) rfl ?_ | refine aCallTU_of (Int_spec _) (by simp [AV.pur]; rfl) ?_)
  try simp
  (first | refine aCall_fold rfl ?_ | refine aCallT_fold rfl ?_)
  (first | refine aCallU_p (Int_spec _) ?_ | refine aCallTU_p (Int_spec _) ?_ | refine aCallU_of (Int_spec _) ?_ | refine aCallTU_of (Int_spec _) rfl ?_ | refine aCallTU_of (Int_spec _) (by simp [AV.pur]; rfl) ?_)
  try simp
  (first | refine aCall_fold rfl ?_ | refine aCallT_fold rfl ?_)
  (first | refine aCallU_p (k10) ?_ | refine aCallTU_p (k10) ?_ | refine aCallU_of (k10) ?_ | refine aCallTU_of (k10) rfl ?_ | refine aCallTU_of (k10) (by simp [AV.pur]; rfl) ?_)
  try simp
  (first | refine aCall_fold rfl ?_ | refine aCallT_fold rfl ?_)
  (first | refine aCallU_p (k7) ?_ | refine aCallTU_p (k7) ?_ | refine aCallU_of (k7) ?_ | refine aCallTU_of (k7) rfl ?_ | refine aCallTU_of (k7) (by simp [AV.pur]; rfl) ?_)
  try simp
  (first | refine aCall_fold rfl ?_ | refine aCallT_fold rfl ?_)
  (first | refine aCallU_p (k8) ?_ | refine aCallTU_p (k8) ?_ | refine aCallU_of (k8) ?_ | refine aCallTU_of (k8) rfl ?_ | refine aCallTU_of (k8) (by simp [AV.pur]; rfl) ?_)
  try simp
  (first | refine aCall_fold rfl ?_ | refine aCallT_fold rfl ?_)
  (first | refine aCallU_p (Int_spec _) ?_ | refine aCallTU_p (Int_spec _) ?_ | refine aCallU_of (Int_spec _) ?_ | refine aCallTU_of (Int_spec _) rfl ?_ | refine aCallTU_of (Int_spec _) (by simp [AV.pur]; rfl) ?_)
  try simp
  (first | refine aCall_fold rfl ?_ | refine aCallT_fold rfl ?_)
  (first | refine aCallU_p (k9) ?_ | refine aCallTU_p (k9) ?_ | refine aCallU_of (k9) ?_ | refine aCallTU_of (k9) rfl ?_ | refine aCallTU_of (k9) (by simp [AV.pur]; rfl) ?_)
  try simp
  exact gives_p rfl


theorem wd_kind {n : Nat} : ∀ {v : Va}, Wv n v → Wd n (kindV v) := by
  intro v h
  induction h with
  | mk k i b s t hs ht ho ih =>
    rw [kindV_mk]
    refine .mk _ _ (by simpa using ht) (fun x hx => ?_)
    obtain ⟨y, hy, rfl⟩ := List.mem_map.1 hx
    exact ih y hy

theorem sameT_self' (t : Ty) : sameT t t = true := (sameT_iff t t).2 rfl

theorem made2_ok (i : Int) (b : Bool) (s : List UInt8) : decide (checkV (tupV [intV i, boolV b, strV s]) 0 = 0) = decide ((s.length : Int) ≤ 255) := by
  simp only [tupV, intV, boolV, strV, checkV, checkVs, spareV]
  have hr : rowE (([Va.mk 1 i false [] [], Va.mk 2 0 b [] [], Va.mk 3 0 false s []] : List Va).length : Nat) 0 = 0 := by simp [rowE]
  by_cases h : 255 < s.length
  · simp [h, rowE]
    omega
  · simp [h, rowE]
    omega

theorem ValueAny_spec (v : Va) (t : Ty) (hr : RgV v) : Abs.Fn Tryd.prog runnellaw2_ValueAny_i [] [.p (encV v), .p (encT t)] (.p (.bool true)) [] := by
  apply runnellaw2_ValueAny_fn
  have k1 := few2_spec v
  have k2 := few1_spec t
  simp [runnellaw2_ValueAny]
  (first | refine aCall_fold rfl ?_ | refine aCallT_fold rfl ?_)
  (first | refine aCallU_p (known2_spec) ?_ | refine aCallTU_p (known2_spec) ?_ | refine aCallU_of (known2_spec) ?_ | refine aCallTU_of (known2_spec) rfl ?_ | refine aCallTU_of (known2_spec) (by simp [AV.pur]; rfl) ?_)
  try simp
  (first | refine aCall_fold rfl ?_ | refine aCallT_fold rfl ?_)
  (first | refine aCallU_p (k1) ?_ | refine aCallTU_p (k1) ?_ | refine aCallU_of (k1) ?_ | refine aCallTU_of (k1) rfl ?_ | refine aCallTU_of (k1) (by simp [AV.pur]; rfl) ?_)
  try simp
  refine aMerge_intro (!fewT t) (fun _ => ?_) ?_
  · (first | refine aCall_fold rfl ?_ | refine aCallT_fold rfl ?_)
    (first | refine aCallU_p (k2) ?_ | refine aCallTU_p (k2) ?_ | refine aCallU_of (k2) ?_ | refine aCallTU_of (k2) rfl ?_ | refine aCallTU_of (k2) (by simp [AV.pur]; rfl) ?_)
    try simp
  simp
  refine ⟨fun _ => gives_p rfl, fun f1 f2 => ?_⟩
  have w1 : Wv 1000000000 v := (fewV_small f1).mono (by omega)
  have w2 : Wv 1000000 v := (fewV_small f1).mono (by omega)
  have w3 : Wd 1000000000 t := fewT_small f2
  have hx : (textV v).length ≤ 1000000000 := by have := fewV_text f1 hr; omega
  (first | refine aCall_fold rfl ?_ | refine aCallT_fold rfl ?_)
  (first | refine aCallU_p (of2_spec w1) ?_ | refine aCallTU_p (of2_spec w1) ?_ | refine aCallU_of (of2_spec w1) ?_ | refine aCallTU_of (of2_spec w1) rfl ?_ | refine aCallTU_of (of2_spec w1) (by simp [AV.pur]; rfl) ?_)
  try simp
  (first | refine aCall_fold rfl ?_ | refine aCallT_fold rfl ?_)
  (first | refine aCallU_p (CheckValue_spec _) ?_ | refine aCallTU_p (CheckValue_spec _) ?_ | refine aCallU_of (CheckValue_spec _) ?_ | refine aCallTU_of (CheckValue_spec _) rfl ?_ | refine aCallTU_of (CheckValue_spec _) (by simp [AV.pur]; rfl) ?_)
  try simp
  (first | refine aCall_fold rfl ?_ | refine aCallT_fold rfl ?_)
  (first | refine aCallU_p (Checkv_spec _) ?_ | refine aCallTU_p (Checkv_spec _) ?_ | refine aCallU_of (Checkv_spec _) ?_ | refine aCallTU_of (Checkv_spec _) rfl ?_ | refine aCallTU_of (Checkv_spec _) (by simp [AV.pur]; rfl) ?_)
  try simp
  (first | refine aCall_fold rfl ?_ | refine aCallT_fold rfl ?_)
  (first | refine aCallU_p (is2_spec _ _ w1) ?_ | refine aCallTU_p (is2_spec _ _ w1) ?_ | refine aCallU_of (is2_spec _ _ w1) ?_ | refine aCallTU_of (is2_spec _ _ w1) rfl ?_ | refine aCallTU_of (is2_spec _ _ w1) (by simp [AV.pur]; rfl) ?_)
  try simp
  (first | refine aCall_fold rfl ?_ | refine aCallT_fold rfl ?_)
  (first | refine aCallU_p (of1_spec w3) ?_ | refine aCallTU_p (of1_spec w3) ?_ | refine aCallU_of (of1_spec w3) ?_ | refine aCallTU_of (of1_spec w3) rfl ?_ | refine aCallTU_of (of1_spec w3) (by simp [AV.pur]; rfl) ?_)
  try simp
  (first | refine aCall_fold rfl ?_ | refine aCallT_fold rfl ?_)
  (first | refine aCallU_p (IsR_spec _ _ w1) ?_ | refine aCallTU_p (IsR_spec _ _ w1) ?_ | refine aCallU_of (IsR_spec _ _ w1) ?_ | refine aCallTU_of (IsR_spec _ _ w1) rfl ?_ | refine aCallTU_of (IsR_spec _ _ w1) (by simp [AV.pur]; rfl) ?_)
  try simp
  simp [runnellaw2_ValueAny_J1]
  refine ⟨fun hne => ?_, fun he => ?_⟩
  · (first | refine aCall_fold rfl ?_ | refine aCallT_fold rfl ?_)
    (first | refine aCallU_p (typeOf2_spec w1) ?_ | refine aCallTU_p (typeOf2_spec w1) ?_ | refine aCallU_of (typeOf2_spec w1) ?_ | refine aCallTU_of (typeOf2_spec w1) rfl ?_ | refine aCallTU_of (typeOf2_spec w1) (by simp [AV.pur]; rfl) ?_)
    try simp [typeOfV, hne]
    refine aMerge_intro true (fun _ => ?_) ?_
    · (first | refine aCall_fold rfl ?_ | refine aCallT_fold rfl ?_)
      (first | refine aCallU_p (typeOf2_spec w1) ?_ | refine aCallTU_p (typeOf2_spec w1) ?_ | refine aCallU_of (typeOf2_spec w1) ?_ | refine aCallTU_of (typeOf2_spec w1) rfl ?_ | refine aCallTU_of (typeOf2_spec w1) (by simp [AV.pur]; rfl) ?_)
      try simp [typeOfV, hne]
    simp
    exact gives_p rfl
  · have wk : Wd 1000000000 (kindV v) := wd_kind w1
    have e1 : typeOfV v = kindV v := by simp [typeOfV, he]
    (first | refine aCall_fold rfl ?_ | refine aCallT_fold rfl ?_)
    (first | refine aCallU_p (typeOf2_spec w1) ?_ | refine aCallTU_p (typeOf2_spec w1) ?_ | refine aCallU_of (typeOf2_spec w1) ?_ | refine aCallTU_of (typeOf2_spec w1) rfl ?_ | refine aCallTU_of (typeOf2_spec w1) (by simp [AV.pur]; rfl) ?_)
    try simp [e1]
    (first | refine aCall_fold rfl ?_ | refine aCallT_fold rfl ?_)
    (first | refine aCallU_p (of1_spec wk) ?_ | refine aCallTU_p (of1_spec wk) ?_ | refine aCallU_of (of1_spec wk) ?_ | refine aCallTU_of (of1_spec wk) rfl ?_ | refine aCallTU_of (of1_spec wk) (by simp [AV.pur]; rfl) ?_)
    try simp
    (first | refine aCall_fold rfl ?_ | refine aCallT_fold rfl ?_)
    (first | refine aCallU_p (typeOfR_spec w1) ?_ | refine aCallTU_p (typeOfR_spec w1) ?_ | refine aCallU_of (typeOfR_spec w1) ?_ | refine aCallTU_of (typeOfR_spec w1) rfl ?_ | refine aCallTU_of (typeOfR_spec w1) (by simp [AV.pur]; rfl) ?_)
    try simp
    (first | refine aCall_fold rfl ?_ | refine aCallT_fold rfl ?_)
    (first | refine aCallU_p (sameType_spec _ _) ?_ | refine aCallTU_p (sameType_spec _ _) ?_ | refine aCallU_of (sameType_spec _ _) ?_ | refine aCallTU_of (sameType_spec _ _) rfl ?_ | refine aCallTU_of (sameType_spec _ _) (by simp [AV.pur]; rfl) ?_)
    try simp [sameT_self']
    (first | refine aCall_fold rfl ?_ | refine aCallT_fold rfl ?_)
    (first | refine aCallU_p (text2_spec v hr w2 hx) ?_ | refine aCallTU_p (text2_spec v hr w2 hx) ?_ | refine aCallU_of (text2_spec v hr w2 hx) ?_ | refine aCallTU_of (text2_spec v hr w2 hx) rfl ?_ | refine aCallTU_of (text2_spec v hr w2 hx) (by simp [AV.pur]; rfl) ?_)
    try simp
    (first | refine aCall_fold rfl ?_ | refine aCallT_fold rfl ?_)
    (first | refine aCallU_p (valueText_spec v hr w2 hx) ?_ | refine aCallTU_p (valueText_spec v hr w2 hx) ?_ | refine aCallU_of (valueText_spec v hr w2 hx) ?_ | refine aCallTU_of (valueText_spec v hr w2 hx) rfl ?_ | refine aCallTU_of (valueText_spec v hr w2 hx) (by simp [AV.pur]; rfl) ?_)
    try simp
    (first | refine aCall_fold rfl ?_ | refine aCallT_fold rfl ?_)
    (first | refine aCallU_p (typeOf2_spec w1) ?_ | refine aCallTU_p (typeOf2_spec w1) ?_ | refine aCallU_of (typeOf2_spec w1) ?_ | refine aCallTU_of (typeOf2_spec w1) rfl ?_ | refine aCallTU_of (typeOf2_spec w1) (by simp [AV.pur]; rfl) ?_)
    try simp [e1]
    (first | refine aCall_fold rfl ?_ | refine aCallT_fold rfl ?_)
    (first | refine aCallU_p (is2_spec v (kindV v) w1) ?_ | refine aCallTU_p (is2_spec v (kindV v) w1) ?_ | refine aCallU_of (is2_spec v (kindV v) w1) ?_ | refine aCallTU_of (is2_spec v (kindV v) w1) rfl ?_ | refine aCallTU_of (is2_spec v (kindV v) w1) (by simp [AV.pur]; rfl) ?_)
    try simp
    exact gives_p (by simp [isV, he, sameT_self'])

theorem ValueMade_spec (i : Int) (b : Bool) (s : List UInt8) : Abs.Fn Tryd.prog runnellaw2_ValueMade_i [] [.p (.int .i64 i), .p (.bool b), .p (.str s)] (.p (.bool true)) [] := by
  apply runnellaw2_ValueMade_fn
  have k1 := Tup_spec [intV i, boolV b, strV s] (by simp)
  have k2 := Checkv_spec (tupV [intV i, boolV b, strV s])
  simp [runnellaw2_ValueMade]
  (first | refine aCall_fold rfl ?_ | refine aCallT_fold rfl ?_)
  (first | refine aCallU_p (known2_spec) ?_ | refine aCallTU_p (known2_spec) ?_ | refine aCallU_of (known2_spec) ?_ | refine aCallTU_of (known2_spec) rfl ?_ | refine aCallTU_of (known2_spec) (by simp [AV.pur]; rfl) ?_)
  try simp
  intro _
  refine ⟨fun _ => gives_p rfl, fun hs => ?_⟩
  (first | refine aCall_fold rfl ?_ | refine aCallT_fold rfl ?_)
  (first | refine aCallU_p (Int_spec _) ?_ | refine aCallTU_p (Int_spec _) ?_ | refine aCallU_of (Int_spec _) ?_ | refine aCallTU_of (Int_spec _) rfl ?_ | refine aCallTU_of (Int_spec _) (by simp [AV.pur]; rfl) ?_)
  try simp
  (first | refine aCall_fold rfl ?_ | refine aCallT_fold rfl ?_)
  (first | refine aCallU_p (Bool_spec _) ?_ | refine aCallTU_p (Bool_spec _) ?_ | refine aCallU_of (Bool_spec _) ?_ | refine aCallTU_of (Bool_spec _) rfl ?_ | refine aCallTU_of (Bool_spec _) (by simp [AV.pur]; rfl) ?_)
  try simp
  (first | refine aCall_fold rfl ?_ | refine aCallT_fold rfl ?_)
  (first | refine aCallU_p (Str_spec _) ?_ | refine aCallTU_p (Str_spec _) ?_ | refine aCallU_of (Str_spec _) ?_ | refine aCallTU_of (Str_spec _) rfl ?_ | refine aCallTU_of (Str_spec _) (by simp [AV.pur]; rfl) ?_)
  try simp
  (first | refine aCall_fold rfl ?_ | refine aCallT_fold rfl ?_)
  (first | refine aCallU_p (k1) ?_ | refine aCallTU_p (k1) ?_ | refine aCallU_of (k1) ?_ | refine aCallTU_of (k1) rfl ?_ | refine aCallTU_of (k1) (by simp [AV.pur]; rfl) ?_)
  try simp
  (first | refine aCall_fold rfl ?_ | refine aCallT_fold rfl ?_)
  (first | refine aCallU_p (k2) ?_ | refine aCallTU_p (k2) ?_ | refine aCallU_of (k2) ?_ | refine aCallTU_of (k2) rfl ?_ | refine aCallTU_of (k2) (by simp [AV.pur]; rfl) ?_)
  try simp
  intro _
  have e := made2_ok i b s
  simp only [tupV, intV, boolV, strV] at e
  have e2 := decide_eq_decide.1 e
  exact gives_p (by simp only [T.bool.injEq, beq_iff_eq, decide_eq_decide]; exact e2)

end Go.Proofs.YtmnmiiifilfcmaaDoor
