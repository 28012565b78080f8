/- The law OpFields. -/
import Derived.Test.YtklnalofcjagnaaZSpLaw7
set_option linter.unusedSimpArgs false
set_option linter.unusedVariables false
namespace Go.Proofs.Ytklnalofcjagnaa
open Go Go.Abs

attribute [local irreducible] Abs.Fn

@[simp] theorem we_leaf {op : List UInt8} {k i n : Int} {b : Bool} : We 1000000000 (.mk op (.mk k i b [] []) n []) := .mk _ _ _ _ (.mk _ _ _ _ _ (by simp) (by simp) (by simp)) (by simp) (by simp)
@[simp] theorem size_leaf {op : List UInt8} {v : Va} {n : Int} : sizeE (.mk op v n []) = 1 := by simp [sizeE, sizeEs]

theorem OutF {o : Opr} {ins : List Ty} (r : R Ty) (h : outP o ins = r) (hes : ∀ e ∈ o.es, We 1000000000 e ∧ sizeE e ≤ 1000000000) (hkey : We 1000000000 o.key ∧ sizeE o.key ≤ 1000000000) (hl : o.es.length ≤ 1000000) (hi : ins.length ≤ 1000000) :
    Abs.Fn Try.prog op_Out_i [] [.p (encO o), .p (.slice (ins.map encT))] (.tup [.p (encT (r.get (.mk 0 []))), .p (.int .i64 r.num)]) [] := Out7_of h hes hkey hl hi

set_option maxRecDepth 100000 in
set_option maxHeartbeats 4000000 in
theorem OpFields_spec (m f : Int) (hm : 0 ≤ m ∧ m ≤ 255) (hf : 0 ≤ f ∧ f ≤ 255) : Abs.Fn Try.prog runnellaw7_OpFields_i [] [.p (.int .u8 m), .p (.int .u8 f)] (.p (.bool true)) [] := by
  apply runnellaw7_OpFields_fn
  unfold runnellaw7_OpFields_P0
  simp
  (first | refine aCall_fold rfl ?_ | refine aCallT_fold rfl ?_)
  (first | refine aCallU_p (known7_spec) ?_ | refine aCallTU_p (known7_spec) ?_ | refine aCallU_of (known7_spec) ?_ | refine aCallTU_of (known7_spec) rfl ?_ | refine aCallTU_of (known7_spec) (by simp [AV.pur]; rfl) ?_)
  try simp
  have hm9 : m.tmod 9 = 0 ∨ m.tmod 9 = 1 ∨ m.tmod 9 = 2 ∨ m.tmod 9 = 3 ∨ m.tmod 9 = 4 ∨ m.tmod 9 = 5 ∨ m.tmod 9 = 6 ∨ m.tmod 9 = 7 ∨ m.tmod 9 = 8 := by
    rw [Int.tmod_eq_emod_of_nonneg hm.1]; omega
  have hf5 : f.tmod 5 = 0 ∨ f.tmod 5 = 1 ∨ f.tmod 5 = 2 ∨ f.tmod 5 = 3 ∨ f.tmod 5 = 4 := by
    rw [Int.tmod_eq_emod_of_nonneg hf.1]; omega
  have w0 : IntKind.i64.wrap 0 = 0 := by rfl
  have w1 : IntKind.i64.wrap 1 = 1 := by rfl
  have w2 : IntKind.i64.wrap 2 = 2 := by rfl
  have w3 : IntKind.i64.wrap 3 = 3 := by rfl
  have w4 : IntKind.i64.wrap 4 = 4 := by rfl
  have w5 : IntKind.i64.wrap 5 = 5 := by rfl
  have w6 : IntKind.i64.wrap 6 = 6 := by rfl
  have w7 : IntKind.i64.wrap 7 = 7 := by rfl
  have w8 : IntKind.i64.wrap 8 = 8 := by rfl
  have w9 : IntKind.i64.wrap 9 = 9 := by rfl
  rcases hm9 with hk | hk | hk | hk | hk | hk | hk | hk | hk
  · simp [hk, w0, w1, w2, w3, w4, w5, w6, w7, w8, w9]
    rw [runnellaw7_OpFields_c25_eq]
    unfold runnellaw7_OpFields_P25
    simp
    (first | refine aCall_fold rfl ?_ | refine aCallT_fold rfl ?_)
    (first | refine aCallU_p (OutF (ins := []) (.ok (.mk 1 [])) (by rfl) (by simp) (by simp) (by simp) (by simp)) ?_ | refine aCallTU_p (OutF (ins := []) (.ok (.mk 1 [])) (by rfl) (by simp) (by simp) (by simp) (by simp)) ?_ | refine aCallU_of (OutF (ins := []) (.ok (.mk 1 [])) (by rfl) (by simp) (by simp) (by simp) (by simp)) ?_ | refine aCallTU_of (OutF (ins := []) (.ok (.mk 1 [])) (by rfl) (by simp) (by simp) (by simp) (by simp)) rfl ?_ | refine aCallTU_of (OutF (ins := []) (.ok (.mk 1 [])) (by rfl) (by simp) (by simp) (by simp) (by simp)) (by simp [AV.pur]; rfl) ?_)
    try simp [R.get, R.num]
    rcases hf5 with hq | hq | hq | hq | hq
    · simp [hq]
      rw [runnellaw7_OpFields_c43_eq]
      unfold runnellaw7_OpFields_P43
      simp
      (first | refine aCall_fold rfl ?_ | refine aCallT_fold rfl ?_)
      (first | refine aCallU_p (OutF (ins := []) (.er 1) (by rfl) (by simp) (by simp) (by simp) (by simp)) ?_ | refine aCallTU_p (OutF (ins := []) (.er 1) (by rfl) (by simp) (by simp) (by simp) (by simp)) ?_ | refine aCallU_of (OutF (ins := []) (.er 1) (by rfl) (by simp) (by simp) (by simp) (by simp)) ?_ | refine aCallTU_of (OutF (ins := []) (.er 1) (by rfl) (by simp) (by simp) (by simp) (by simp)) rfl ?_ | refine aCallTU_of (OutF (ins := []) (.er 1) (by rfl) (by simp) (by simp) (by simp) (by simp)) (by simp [AV.pur]; rfl) ?_)
      try simp [R.get, R.num]
      simp [aRes, tupOf]
      exact gives_p rfl
    · simp [hq]
      rw [runnellaw7_OpFields_c43_eq]
      unfold runnellaw7_OpFields_P43
      simp
      (first | refine aCall_fold rfl ?_ | refine aCallT_fold rfl ?_)
      (first | refine aCallU_p (OutF (ins := []) (.er 1) (by rfl) (by simp) (by simp) (by simp) (by simp)) ?_ | refine aCallTU_p (OutF (ins := []) (.er 1) (by rfl) (by simp) (by simp) (by simp) (by simp)) ?_ | refine aCallU_of (OutF (ins := []) (.er 1) (by rfl) (by simp) (by simp) (by simp) (by simp)) ?_ | refine aCallTU_of (OutF (ins := []) (.er 1) (by rfl) (by simp) (by simp) (by simp) (by simp)) rfl ?_ | refine aCallTU_of (OutF (ins := []) (.er 1) (by rfl) (by simp) (by simp) (by simp) (by simp)) (by simp [AV.pur]; rfl) ?_)
      try simp [R.get, R.num]
      simp [aRes, tupOf]
      exact gives_p rfl
    · simp [hq]
      try refine ⟨by simp [appendable], ?_⟩
      repeat ((first | refine aCall_fold rfl ?_ | refine aCallT_fold rfl ?_); (first | refine aCallU_p (X_spec) ?_ | refine aCallTU_p (X_spec) ?_ | refine aCallU_of (X_spec) ?_ | refine aCallTU_of (X_spec) rfl ?_ | refine aCallTU_of (X_spec) (by simp [AV.pur]; rfl) ?_); (try simp))
      try refine ⟨by simp [appendable], ?_⟩
      rw [runnellaw7_OpFields_c43_eq]
      unfold runnellaw7_OpFields_P43
      simp
      (first | refine aCall_fold rfl ?_ | refine aCallT_fold rfl ?_)
      (first | refine aCallU_p (OutF (ins := []) (.er 1) (by rfl) (by simp) (by simp) (by simp) (by simp)) ?_ | refine aCallTU_p (OutF (ins := []) (.er 1) (by rfl) (by simp) (by simp) (by simp) (by simp)) ?_ | refine aCallU_of (OutF (ins := []) (.er 1) (by rfl) (by simp) (by simp) (by simp) (by simp)) ?_ | refine aCallTU_of (OutF (ins := []) (.er 1) (by rfl) (by simp) (by simp) (by simp) (by simp)) rfl ?_ | refine aCallTU_of (OutF (ins := []) (.er 1) (by rfl) (by simp) (by simp) (by simp) (by simp)) (by simp [AV.pur]; rfl) ?_)
      try simp [R.get, R.num]
      simp [aRes, tupOf]
      exact gives_p rfl
    · simp [hq]
      rw [runnellaw7_OpFields_c43_eq]
      unfold runnellaw7_OpFields_P43
      simp
      try refine ⟨by simp [appendable], ?_⟩
      try refine ⟨by simp [appendable], ?_⟩
      (first | refine aCall_fold rfl ?_ | refine aCallT_fold rfl ?_)
      (first | refine aCallU_p (OutF (.er 1) (by rfl) (by simp) (by simp) (by simp) (by simp)) ?_ | refine aCallTU_p (OutF (.er 1) (by rfl) (by simp) (by simp) (by simp) (by simp)) ?_ | refine aCallU_of (OutF (.er 1) (by rfl) (by simp) (by simp) (by simp) (by simp)) ?_ | refine aCallTU_of (OutF (.er 1) (by rfl) (by simp) (by simp) (by simp) (by simp)) rfl ?_ | refine aCallTU_of (OutF (.er 1) (by rfl) (by simp) (by simp) (by simp) (by simp)) (by simp [AV.pur]; rfl) ?_)
      try simp [R.get, R.num]
      simp [aRes, tupOf]
      exact gives_p rfl
    · simp [hq, hk, w0, w1, w2, w3, w4, w5, w6, w7, w8, w9]
      rw [runnellaw7_OpFields_c43_eq]
      unfold runnellaw7_OpFields_P43
      simp
      (first | refine aCall_fold rfl ?_ | refine aCallT_fold rfl ?_)
      (first | refine aCallU_p (OutF (ins := []) (.er 6) (by rfl) (by simp) (by simp) (by simp) (by simp)) ?_ | refine aCallTU_p (OutF (ins := []) (.er 6) (by rfl) (by simp) (by simp) (by simp) (by simp)) ?_ | refine aCallU_of (OutF (ins := []) (.er 6) (by rfl) (by simp) (by simp) (by simp) (by simp)) ?_ | refine aCallTU_of (OutF (ins := []) (.er 6) (by rfl) (by simp) (by simp) (by simp) (by simp)) rfl ?_ | refine aCallTU_of (OutF (ins := []) (.er 6) (by rfl) (by simp) (by simp) (by simp) (by simp)) (by simp [AV.pur]; rfl) ?_)
      try simp [R.get, R.num]
      simp [aRes, tupOf]
      exact gives_p rfl
  · simp [hk, w0, w1, w2, w3, w4, w5, w6, w7, w8, w9]
    repeat ((first | refine aCall_fold rfl ?_ | refine aCallT_fold rfl ?_); (first | refine aCallU_p (X_spec) ?_ | refine aCallTU_p (X_spec) ?_ | refine aCallU_of (X_spec) ?_ | refine aCallTU_of (X_spec) rfl ?_ | refine aCallTU_of (X_spec) (by simp [AV.pur]; rfl) ?_); (try simp [w0, w1, w2, w3, w4, w5, w6, w7, w8, w9]))
    rw [runnellaw7_OpFields_c25_eq]
    unfold runnellaw7_OpFields_P25
    simp
    (first | refine aCall_fold rfl ?_ | refine aCallT_fold rfl ?_)
    (first | refine aCallU_p (OutF (.ok (.mk 1 [])) (by rfl) (by simp) (by simp) (by simp) (by simp)) ?_ | refine aCallTU_p (OutF (.ok (.mk 1 [])) (by rfl) (by simp) (by simp) (by simp) (by simp)) ?_ | refine aCallU_of (OutF (.ok (.mk 1 [])) (by rfl) (by simp) (by simp) (by simp) (by simp)) ?_ | refine aCallTU_of (OutF (.ok (.mk 1 [])) (by rfl) (by simp) (by simp) (by simp) (by simp)) rfl ?_ | refine aCallTU_of (OutF (.ok (.mk 1 [])) (by rfl) (by simp) (by simp) (by simp) (by simp)) (by simp [AV.pur]; rfl) ?_)
    try simp [R.get, R.num]
    rcases hf5 with hq | hq | hq | hq | hq
    · simp [hq]
      rw [runnellaw7_OpFields_c43_eq]
      unfold runnellaw7_OpFields_P43
      simp
      (first | refine aCall_fold rfl ?_ | refine aCallT_fold rfl ?_)
      (first | refine aCallU_p (OutF (.er 1) (by rfl) (by simp) (by simp) (by simp) (by simp)) ?_ | refine aCallTU_p (OutF (.er 1) (by rfl) (by simp) (by simp) (by simp) (by simp)) ?_ | refine aCallU_of (OutF (.er 1) (by rfl) (by simp) (by simp) (by simp) (by simp)) ?_ | refine aCallTU_of (OutF (.er 1) (by rfl) (by simp) (by simp) (by simp) (by simp)) rfl ?_ | refine aCallTU_of (OutF (.er 1) (by rfl) (by simp) (by simp) (by simp) (by simp)) (by simp [AV.pur]; rfl) ?_)
      try simp [R.get, R.num]
      simp [aRes, tupOf]
      exact gives_p rfl
    · simp [hq]
      rw [runnellaw7_OpFields_c43_eq]
      unfold runnellaw7_OpFields_P43
      simp
      (first | refine aCall_fold rfl ?_ | refine aCallT_fold rfl ?_)
      (first | refine aCallU_p (OutF (.er 1) (by rfl) (by simp) (by simp) (by simp) (by simp)) ?_ | refine aCallTU_p (OutF (.er 1) (by rfl) (by simp) (by simp) (by simp) (by simp)) ?_ | refine aCallU_of (OutF (.er 1) (by rfl) (by simp) (by simp) (by simp) (by simp)) ?_ | refine aCallTU_of (OutF (.er 1) (by rfl) (by simp) (by simp) (by simp) (by simp)) rfl ?_ | refine aCallTU_of (OutF (.er 1) (by rfl) (by simp) (by simp) (by simp) (by simp)) (by simp [AV.pur]; rfl) ?_)
      try simp [R.get, R.num]
      simp [aRes, tupOf]
      exact gives_p rfl
    · simp [hq]
      try refine ⟨by simp [appendable], ?_⟩
      repeat ((first | refine aCall_fold rfl ?_ | refine aCallT_fold rfl ?_); (first | refine aCallU_p (X_spec) ?_ | refine aCallTU_p (X_spec) ?_ | refine aCallU_of (X_spec) ?_ | refine aCallTU_of (X_spec) rfl ?_ | refine aCallTU_of (X_spec) (by simp [AV.pur]; rfl) ?_); (try simp))
      try refine ⟨by simp [appendable], ?_⟩
      rw [runnellaw7_OpFields_c43_eq]
      unfold runnellaw7_OpFields_P43
      simp
      (first | refine aCall_fold rfl ?_ | refine aCallT_fold rfl ?_)
      (first | refine aCallU_p (OutF (.er 1) (by rfl) (by simp) (by simp) (by simp) (by simp)) ?_ | refine aCallTU_p (OutF (.er 1) (by rfl) (by simp) (by simp) (by simp) (by simp)) ?_ | refine aCallU_of (OutF (.er 1) (by rfl) (by simp) (by simp) (by simp) (by simp)) ?_ | refine aCallTU_of (OutF (.er 1) (by rfl) (by simp) (by simp) (by simp) (by simp)) rfl ?_ | refine aCallTU_of (OutF (.er 1) (by rfl) (by simp) (by simp) (by simp) (by simp)) (by simp [AV.pur]; rfl) ?_)
      try simp [R.get, R.num]
      simp [aRes, tupOf]
      exact gives_p rfl
    · simp [hq]
      rw [runnellaw7_OpFields_c43_eq]
      unfold runnellaw7_OpFields_P43
      simp
      try refine ⟨by simp [appendable], ?_⟩
      try refine ⟨by simp [appendable], ?_⟩
      (first | refine aCall_fold rfl ?_ | refine aCallT_fold rfl ?_)
      (first | refine aCallU_p (OutF (.er 1) (by rfl) (by simp) (by simp) (by simp) (by simp)) ?_ | refine aCallTU_p (OutF (.er 1) (by rfl) (by simp) (by simp) (by simp) (by simp)) ?_ | refine aCallU_of (OutF (.er 1) (by rfl) (by simp) (by simp) (by simp) (by simp)) ?_ | refine aCallTU_of (OutF (.er 1) (by rfl) (by simp) (by simp) (by simp) (by simp)) rfl ?_ | refine aCallTU_of (OutF (.er 1) (by rfl) (by simp) (by simp) (by simp) (by simp)) (by simp [AV.pur]; rfl) ?_)
      try simp [R.get, R.num]
      simp [aRes, tupOf]
      exact gives_p rfl
    · simp [hq, hk, w0, w1, w2, w3, w4, w5, w6, w7, w8, w9]
      rw [runnellaw7_OpFields_c43_eq]
      unfold runnellaw7_OpFields_P43
      simp
      (first | refine aCall_fold rfl ?_ | refine aCallT_fold rfl ?_)
      (first | refine aCallU_p (OutF (.er 1) (by rfl) (by simp) (by simp) (by simp) (by simp)) ?_ | refine aCallTU_p (OutF (.er 1) (by rfl) (by simp) (by simp) (by simp) (by simp)) ?_ | refine aCallU_of (OutF (.er 1) (by rfl) (by simp) (by simp) (by simp) (by simp)) ?_ | refine aCallTU_of (OutF (.er 1) (by rfl) (by simp) (by simp) (by simp) (by simp)) rfl ?_ | refine aCallTU_of (OutF (.er 1) (by rfl) (by simp) (by simp) (by simp) (by simp)) (by simp [AV.pur]; rfl) ?_)
      try simp [R.get, R.num]
      simp [aRes, tupOf]
      exact gives_p rfl
  · simp [hk, w0, w1, w2, w3, w4, w5, w6, w7, w8, w9]
    (first | refine aCall_fold rfl ?_ | refine aCallT_fold rfl ?_)
    (first | refine aCallU_p (Bool_spec _) ?_ | refine aCallTU_p (Bool_spec _) ?_ | refine aCallU_of (Bool_spec _) ?_ | refine aCallTU_of (Bool_spec _) rfl ?_ | refine aCallTU_of (Bool_spec _) (by simp [AV.pur]; rfl) ?_)
    try simp
    (first | refine aCall_fold rfl ?_ | refine aCallT_fold rfl ?_)
    (first | refine aCallU_p (Lit_spec _) ?_ | refine aCallTU_p (Lit_spec _) ?_ | refine aCallU_of (Lit_spec _) ?_ | refine aCallTU_of (Lit_spec _) rfl ?_ | refine aCallTU_of (Lit_spec _) (by simp [AV.pur]; rfl) ?_)
    try simp
    rw [runnellaw7_OpFields_c25_eq]
    unfold runnellaw7_OpFields_P25
    simp
    (first | refine aCall_fold rfl ?_ | refine aCallT_fold rfl ?_)
    (first | refine aCallU_p (OutF (.ok (.mk 1 [])) (by rfl) (by simp) (by simp) (by simp) (by simp)) ?_ | refine aCallTU_p (OutF (.ok (.mk 1 [])) (by rfl) (by simp) (by simp) (by simp) (by simp)) ?_ | refine aCallU_of (OutF (.ok (.mk 1 [])) (by rfl) (by simp) (by simp) (by simp) (by simp)) ?_ | refine aCallTU_of (OutF (.ok (.mk 1 [])) (by rfl) (by simp) (by simp) (by simp) (by simp)) rfl ?_ | refine aCallTU_of (OutF (.ok (.mk 1 [])) (by rfl) (by simp) (by simp) (by simp) (by simp)) (by simp [AV.pur]; rfl) ?_)
    try simp [R.get, R.num]
    rcases hf5 with hq | hq | hq | hq | hq
    · simp [hq]
      rw [runnellaw7_OpFields_c43_eq]
      unfold runnellaw7_OpFields_P43
      simp
      (first | refine aCall_fold rfl ?_ | refine aCallT_fold rfl ?_)
      (first | refine aCallU_p (OutF (.er 1) (by rfl) (by simp) (by simp) (by simp) (by simp)) ?_ | refine aCallTU_p (OutF (.er 1) (by rfl) (by simp) (by simp) (by simp) (by simp)) ?_ | refine aCallU_of (OutF (.er 1) (by rfl) (by simp) (by simp) (by simp) (by simp)) ?_ | refine aCallTU_of (OutF (.er 1) (by rfl) (by simp) (by simp) (by simp) (by simp)) rfl ?_ | refine aCallTU_of (OutF (.er 1) (by rfl) (by simp) (by simp) (by simp) (by simp)) (by simp [AV.pur]; rfl) ?_)
      try simp [R.get, R.num]
      simp [aRes, tupOf]
      exact gives_p rfl
    · simp [hq]
      rw [runnellaw7_OpFields_c43_eq]
      unfold runnellaw7_OpFields_P43
      simp
      (first | refine aCall_fold rfl ?_ | refine aCallT_fold rfl ?_)
      (first | refine aCallU_p (OutF (.er 1) (by rfl) (by simp) (by simp) (by simp) (by simp)) ?_ | refine aCallTU_p (OutF (.er 1) (by rfl) (by simp) (by simp) (by simp) (by simp)) ?_ | refine aCallU_of (OutF (.er 1) (by rfl) (by simp) (by simp) (by simp) (by simp)) ?_ | refine aCallTU_of (OutF (.er 1) (by rfl) (by simp) (by simp) (by simp) (by simp)) rfl ?_ | refine aCallTU_of (OutF (.er 1) (by rfl) (by simp) (by simp) (by simp) (by simp)) (by simp [AV.pur]; rfl) ?_)
      try simp [R.get, R.num]
      simp [aRes, tupOf]
      exact gives_p rfl
    · simp [hq]
      try refine ⟨by simp [appendable], ?_⟩
      repeat ((first | refine aCall_fold rfl ?_ | refine aCallT_fold rfl ?_); (first | refine aCallU_p (X_spec) ?_ | refine aCallTU_p (X_spec) ?_ | refine aCallU_of (X_spec) ?_ | refine aCallTU_of (X_spec) rfl ?_ | refine aCallTU_of (X_spec) (by simp [AV.pur]; rfl) ?_); (try simp))
      try refine ⟨by simp [appendable], ?_⟩
      rw [runnellaw7_OpFields_c43_eq]
      unfold runnellaw7_OpFields_P43
      simp
      (first | refine aCall_fold rfl ?_ | refine aCallT_fold rfl ?_)
      (first | refine aCallU_p (OutF (.er 1) (by rfl) (by simp) (by simp) (by simp) (by simp)) ?_ | refine aCallTU_p (OutF (.er 1) (by rfl) (by simp) (by simp) (by simp) (by simp)) ?_ | refine aCallU_of (OutF (.er 1) (by rfl) (by simp) (by simp) (by simp) (by simp)) ?_ | refine aCallTU_of (OutF (.er 1) (by rfl) (by simp) (by simp) (by simp) (by simp)) rfl ?_ | refine aCallTU_of (OutF (.er 1) (by rfl) (by simp) (by simp) (by simp) (by simp)) (by simp [AV.pur]; rfl) ?_)
      try simp [R.get, R.num]
      simp [aRes, tupOf]
      exact gives_p rfl
    · simp [hq]
      rw [runnellaw7_OpFields_c43_eq]
      unfold runnellaw7_OpFields_P43
      simp
      try refine ⟨by simp [appendable], ?_⟩
      try refine ⟨by simp [appendable], ?_⟩
      (first | refine aCall_fold rfl ?_ | refine aCallT_fold rfl ?_)
      (first | refine aCallU_p (OutF (.er 1) (by rfl) (by simp) (by simp) (by simp) (by simp)) ?_ | refine aCallTU_p (OutF (.er 1) (by rfl) (by simp) (by simp) (by simp) (by simp)) ?_ | refine aCallU_of (OutF (.er 1) (by rfl) (by simp) (by simp) (by simp) (by simp)) ?_ | refine aCallTU_of (OutF (.er 1) (by rfl) (by simp) (by simp) (by simp) (by simp)) rfl ?_ | refine aCallTU_of (OutF (.er 1) (by rfl) (by simp) (by simp) (by simp) (by simp)) (by simp [AV.pur]; rfl) ?_)
      try simp [R.get, R.num]
      simp [aRes, tupOf]
      exact gives_p rfl
    · simp [hq, hk, w0, w1, w2, w3, w4, w5, w6, w7, w8, w9]
      rw [runnellaw7_OpFields_c43_eq]
      unfold runnellaw7_OpFields_P43
      simp
      (first | refine aCall_fold rfl ?_ | refine aCallT_fold rfl ?_)
      (first | refine aCallU_p (OutF (.er 1) (by rfl) (by simp) (by simp) (by simp) (by simp)) ?_ | refine aCallTU_p (OutF (.er 1) (by rfl) (by simp) (by simp) (by simp) (by simp)) ?_ | refine aCallU_of (OutF (.er 1) (by rfl) (by simp) (by simp) (by simp) (by simp)) ?_ | refine aCallTU_of (OutF (.er 1) (by rfl) (by simp) (by simp) (by simp) (by simp)) rfl ?_ | refine aCallTU_of (OutF (.er 1) (by rfl) (by simp) (by simp) (by simp) (by simp)) (by simp [AV.pur]; rfl) ?_)
      try simp [R.get, R.num]
      simp [aRes, tupOf]
      exact gives_p rfl
  · simp [hk, w0, w1, w2, w3, w4, w5, w6, w7, w8, w9]
    repeat ((first | refine aCall_fold rfl ?_ | refine aCallT_fold rfl ?_); (first | refine aCallU_p (X_spec) ?_ | refine aCallTU_p (X_spec) ?_ | refine aCallU_of (X_spec) ?_ | refine aCallTU_of (X_spec) rfl ?_ | refine aCallTU_of (X_spec) (by simp [AV.pur]; rfl) ?_); (try simp [w0, w1, w2, w3, w4, w5, w6, w7, w8, w9]))
    rw [runnellaw7_OpFields_c25_eq]
    unfold runnellaw7_OpFields_P25
    simp
    (first | refine aCall_fold rfl ?_ | refine aCallT_fold rfl ?_)
    (first | refine aCallU_p (OutF (.ok (.mk 1 [])) (by rfl) (by simp) (by simp) (by simp) (by simp)) ?_ | refine aCallTU_p (OutF (.ok (.mk 1 [])) (by rfl) (by simp) (by simp) (by simp) (by simp)) ?_ | refine aCallU_of (OutF (.ok (.mk 1 [])) (by rfl) (by simp) (by simp) (by simp) (by simp)) ?_ | refine aCallTU_of (OutF (.ok (.mk 1 [])) (by rfl) (by simp) (by simp) (by simp) (by simp)) rfl ?_ | refine aCallTU_of (OutF (.ok (.mk 1 [])) (by rfl) (by simp) (by simp) (by simp) (by simp)) (by simp [AV.pur]; rfl) ?_)
    try simp [R.get, R.num]
    rcases hf5 with hq | hq | hq | hq | hq
    · simp [hq]
      rw [runnellaw7_OpFields_c43_eq]
      unfold runnellaw7_OpFields_P43
      simp
      (first | refine aCall_fold rfl ?_ | refine aCallT_fold rfl ?_)
      (first | refine aCallU_p (OutF (.er 1) (by rfl) (by simp) (by simp) (by simp) (by simp)) ?_ | refine aCallTU_p (OutF (.er 1) (by rfl) (by simp) (by simp) (by simp) (by simp)) ?_ | refine aCallU_of (OutF (.er 1) (by rfl) (by simp) (by simp) (by simp) (by simp)) ?_ | refine aCallTU_of (OutF (.er 1) (by rfl) (by simp) (by simp) (by simp) (by simp)) rfl ?_ | refine aCallTU_of (OutF (.er 1) (by rfl) (by simp) (by simp) (by simp) (by simp)) (by simp [AV.pur]; rfl) ?_)
      try simp [R.get, R.num]
      simp [aRes, tupOf]
      exact gives_p rfl
    · simp [hq]
      rw [runnellaw7_OpFields_c43_eq]
      unfold runnellaw7_OpFields_P43
      simp
      (first | refine aCall_fold rfl ?_ | refine aCallT_fold rfl ?_)
      (first | refine aCallU_p (OutF (.er 1) (by rfl) (by simp) (by simp) (by simp) (by simp)) ?_ | refine aCallTU_p (OutF (.er 1) (by rfl) (by simp) (by simp) (by simp) (by simp)) ?_ | refine aCallU_of (OutF (.er 1) (by rfl) (by simp) (by simp) (by simp) (by simp)) ?_ | refine aCallTU_of (OutF (.er 1) (by rfl) (by simp) (by simp) (by simp) (by simp)) rfl ?_ | refine aCallTU_of (OutF (.er 1) (by rfl) (by simp) (by simp) (by simp) (by simp)) (by simp [AV.pur]; rfl) ?_)
      try simp [R.get, R.num]
      simp [aRes, tupOf]
      exact gives_p rfl
    · simp [hq]
      try refine ⟨by simp [appendable], ?_⟩
      repeat ((first | refine aCall_fold rfl ?_ | refine aCallT_fold rfl ?_); (first | refine aCallU_p (X_spec) ?_ | refine aCallTU_p (X_spec) ?_ | refine aCallU_of (X_spec) ?_ | refine aCallTU_of (X_spec) rfl ?_ | refine aCallTU_of (X_spec) (by simp [AV.pur]; rfl) ?_); (try simp))
      try refine ⟨by simp [appendable], ?_⟩
      rw [runnellaw7_OpFields_c43_eq]
      unfold runnellaw7_OpFields_P43
      simp
      (first | refine aCall_fold rfl ?_ | refine aCallT_fold rfl ?_)
      (first | refine aCallU_p (OutF (.er 1) (by rfl) (by simp) (by simp) (by simp) (by simp)) ?_ | refine aCallTU_p (OutF (.er 1) (by rfl) (by simp) (by simp) (by simp) (by simp)) ?_ | refine aCallU_of (OutF (.er 1) (by rfl) (by simp) (by simp) (by simp) (by simp)) ?_ | refine aCallTU_of (OutF (.er 1) (by rfl) (by simp) (by simp) (by simp) (by simp)) rfl ?_ | refine aCallTU_of (OutF (.er 1) (by rfl) (by simp) (by simp) (by simp) (by simp)) (by simp [AV.pur]; rfl) ?_)
      try simp [R.get, R.num]
      simp [aRes, tupOf]
      exact gives_p rfl
    · simp [hq]
      rw [runnellaw7_OpFields_c43_eq]
      unfold runnellaw7_OpFields_P43
      simp
      try refine ⟨by simp [appendable], ?_⟩
      try refine ⟨by simp [appendable], ?_⟩
      (first | refine aCall_fold rfl ?_ | refine aCallT_fold rfl ?_)
      (first | refine aCallU_p (OutF (.er 1) (by rfl) (by simp) (by simp) (by simp) (by simp)) ?_ | refine aCallTU_p (OutF (.er 1) (by rfl) (by simp) (by simp) (by simp) (by simp)) ?_ | refine aCallU_of (OutF (.er 1) (by rfl) (by simp) (by simp) (by simp) (by simp)) ?_ | refine aCallTU_of (OutF (.er 1) (by rfl) (by simp) (by simp) (by simp) (by simp)) rfl ?_ | refine aCallTU_of (OutF (.er 1) (by rfl) (by simp) (by simp) (by simp) (by simp)) (by simp [AV.pur]; rfl) ?_)
      try simp [R.get, R.num]
      simp [aRes, tupOf]
      exact gives_p rfl
    · simp [hq, hk, w0, w1, w2, w3, w4, w5, w6, w7, w8, w9]
      rw [runnellaw7_OpFields_c43_eq]
      unfold runnellaw7_OpFields_P43
      simp
      (first | refine aCall_fold rfl ?_ | refine aCallT_fold rfl ?_)
      (first | refine aCallU_p (OutF (.er 1) (by rfl) (by simp) (by simp) (by simp) (by simp)) ?_ | refine aCallTU_p (OutF (.er 1) (by rfl) (by simp) (by simp) (by simp) (by simp)) ?_ | refine aCallU_of (OutF (.er 1) (by rfl) (by simp) (by simp) (by simp) (by simp)) ?_ | refine aCallTU_of (OutF (.er 1) (by rfl) (by simp) (by simp) (by simp) (by simp)) rfl ?_ | refine aCallTU_of (OutF (.er 1) (by rfl) (by simp) (by simp) (by simp) (by simp)) (by simp [AV.pur]; rfl) ?_)
      try simp [R.get, R.num]
      simp [aRes, tupOf]
      exact gives_p rfl
  · simp [hk, w0, w1, w2, w3, w4, w5, w6, w7, w8, w9]
    repeat ((first | refine aCall_fold rfl ?_ | refine aCallT_fold rfl ?_); (first | refine aCallU_p (X_spec) ?_ | refine aCallTU_p (X_spec) ?_ | refine aCallU_of (X_spec) ?_ | refine aCallTU_of (X_spec) rfl ?_ | refine aCallTU_of (X_spec) (by simp [AV.pur]; rfl) ?_); (try simp [w0, w1, w2, w3, w4, w5, w6, w7, w8, w9]))
    rw [runnellaw7_OpFields_c25_eq]
    unfold runnellaw7_OpFields_P25
    simp
    (first | refine aCall_fold rfl ?_ | refine aCallT_fold rfl ?_)
    (first | refine aCallU_p (OutF (.ok (.mk 4 [.mk 1 [], .mk 1 []])) (by rfl) (by simp) (by simp) (by simp) (by simp)) ?_ | refine aCallTU_p (OutF (.ok (.mk 4 [.mk 1 [], .mk 1 []])) (by rfl) (by simp) (by simp) (by simp) (by simp)) ?_ | refine aCallU_of (OutF (.ok (.mk 4 [.mk 1 [], .mk 1 []])) (by rfl) (by simp) (by simp) (by simp) (by simp)) ?_ | refine aCallTU_of (OutF (.ok (.mk 4 [.mk 1 [], .mk 1 []])) (by rfl) (by simp) (by simp) (by simp) (by simp)) rfl ?_ | refine aCallTU_of (OutF (.ok (.mk 4 [.mk 1 [], .mk 1 []])) (by rfl) (by simp) (by simp) (by simp) (by simp)) (by simp [AV.pur]; rfl) ?_)
    try simp [R.get, R.num]
    rcases hf5 with hq | hq | hq | hq | hq
    · simp [hq]
      rw [runnellaw7_OpFields_c43_eq]
      unfold runnellaw7_OpFields_P43
      simp
      (first | refine aCall_fold rfl ?_ | refine aCallT_fold rfl ?_)
      (first | refine aCallU_p (OutF (.er 1) (by rfl) (by simp) (by simp) (by simp) (by simp)) ?_ | refine aCallTU_p (OutF (.er 1) (by rfl) (by simp) (by simp) (by simp) (by simp)) ?_ | refine aCallU_of (OutF (.er 1) (by rfl) (by simp) (by simp) (by simp) (by simp)) ?_ | refine aCallTU_of (OutF (.er 1) (by rfl) (by simp) (by simp) (by simp) (by simp)) rfl ?_ | refine aCallTU_of (OutF (.er 1) (by rfl) (by simp) (by simp) (by simp) (by simp)) (by simp [AV.pur]; rfl) ?_)
      try simp [R.get, R.num]
      simp [aRes, tupOf]
      exact gives_p rfl
    · simp [hq]
      rw [runnellaw7_OpFields_c43_eq]
      unfold runnellaw7_OpFields_P43
      simp
      (first | refine aCall_fold rfl ?_ | refine aCallT_fold rfl ?_)
      (first | refine aCallU_p (OutF (.er 1) (by rfl) (by simp) (by simp) (by simp) (by simp)) ?_ | refine aCallTU_p (OutF (.er 1) (by rfl) (by simp) (by simp) (by simp) (by simp)) ?_ | refine aCallU_of (OutF (.er 1) (by rfl) (by simp) (by simp) (by simp) (by simp)) ?_ | refine aCallTU_of (OutF (.er 1) (by rfl) (by simp) (by simp) (by simp) (by simp)) rfl ?_ | refine aCallTU_of (OutF (.er 1) (by rfl) (by simp) (by simp) (by simp) (by simp)) (by simp [AV.pur]; rfl) ?_)
      try simp [R.get, R.num]
      simp [aRes, tupOf]
      exact gives_p rfl
    · simp [hq]
      try refine ⟨by simp [appendable], ?_⟩
      repeat ((first | refine aCall_fold rfl ?_ | refine aCallT_fold rfl ?_); (first | refine aCallU_p (X_spec) ?_ | refine aCallTU_p (X_spec) ?_ | refine aCallU_of (X_spec) ?_ | refine aCallTU_of (X_spec) rfl ?_ | refine aCallTU_of (X_spec) (by simp [AV.pur]; rfl) ?_); (try simp))
      try refine ⟨by simp [appendable], ?_⟩
      rw [runnellaw7_OpFields_c43_eq]
      unfold runnellaw7_OpFields_P43
      simp
      (first | refine aCall_fold rfl ?_ | refine aCallT_fold rfl ?_)
      (first | refine aCallU_p (OutF (.er 1) (by rfl) (by simp) (by simp) (by simp) (by simp)) ?_ | refine aCallTU_p (OutF (.er 1) (by rfl) (by simp) (by simp) (by simp) (by simp)) ?_ | refine aCallU_of (OutF (.er 1) (by rfl) (by simp) (by simp) (by simp) (by simp)) ?_ | refine aCallTU_of (OutF (.er 1) (by rfl) (by simp) (by simp) (by simp) (by simp)) rfl ?_ | refine aCallTU_of (OutF (.er 1) (by rfl) (by simp) (by simp) (by simp) (by simp)) (by simp [AV.pur]; rfl) ?_)
      try simp [R.get, R.num]
      simp [aRes, tupOf]
      exact gives_p rfl
    · simp [hq]
      rw [runnellaw7_OpFields_c43_eq]
      unfold runnellaw7_OpFields_P43
      simp
      try refine ⟨by simp [appendable], ?_⟩
      try refine ⟨by simp [appendable], ?_⟩
      (first | refine aCall_fold rfl ?_ | refine aCallT_fold rfl ?_)
      (first | refine aCallU_p (OutF (.er 1) (by rfl) (by simp) (by simp) (by simp) (by simp)) ?_ | refine aCallTU_p (OutF (.er 1) (by rfl) (by simp) (by simp) (by simp) (by simp)) ?_ | refine aCallU_of (OutF (.er 1) (by rfl) (by simp) (by simp) (by simp) (by simp)) ?_ | refine aCallTU_of (OutF (.er 1) (by rfl) (by simp) (by simp) (by simp) (by simp)) rfl ?_ | refine aCallTU_of (OutF (.er 1) (by rfl) (by simp) (by simp) (by simp) (by simp)) (by simp [AV.pur]; rfl) ?_)
      try simp [R.get, R.num]
      simp [aRes, tupOf]
      exact gives_p rfl
    · simp [hq, hk, w0, w1, w2, w3, w4, w5, w6, w7, w8, w9]
      rw [runnellaw7_OpFields_c43_eq]
      unfold runnellaw7_OpFields_P43
      simp
      (first | refine aCall_fold rfl ?_ | refine aCallT_fold rfl ?_)
      (first | refine aCallU_p (OutF (.er 1) (by rfl) (by simp) (by simp) (by simp) (by simp)) ?_ | refine aCallTU_p (OutF (.er 1) (by rfl) (by simp) (by simp) (by simp) (by simp)) ?_ | refine aCallU_of (OutF (.er 1) (by rfl) (by simp) (by simp) (by simp) (by simp)) ?_ | refine aCallTU_of (OutF (.er 1) (by rfl) (by simp) (by simp) (by simp) (by simp)) rfl ?_ | refine aCallTU_of (OutF (.er 1) (by rfl) (by simp) (by simp) (by simp) (by simp)) (by simp [AV.pur]; rfl) ?_)
      try simp [R.get, R.num]
      simp [aRes, tupOf]
      exact gives_p rfl
  · simp [hk, w0, w1, w2, w3, w4, w5, w6, w7, w8, w9]
    repeat ((first | refine aCall_fold rfl ?_ | refine aCallT_fold rfl ?_); (first | refine aCallU_p (X_spec) ?_ | refine aCallTU_p (X_spec) ?_ | refine aCallU_of (X_spec) ?_ | refine aCallTU_of (X_spec) rfl ?_ | refine aCallTU_of (X_spec) (by simp [AV.pur]; rfl) ?_); (try simp [w0, w1, w2, w3, w4, w5, w6, w7, w8, w9]))
    rw [runnellaw7_OpFields_c25_eq]
    unfold runnellaw7_OpFields_P25
    simp
    (first | refine aCall_fold rfl ?_ | refine aCallT_fold rfl ?_)
    (first | refine aCallU_p (OutF (.ok (.mk 4 [.mk 1 [], .mk 1 []])) (by rfl) (by simp) (by simp) (by simp) (by simp)) ?_ | refine aCallTU_p (OutF (.ok (.mk 4 [.mk 1 [], .mk 1 []])) (by rfl) (by simp) (by simp) (by simp) (by simp)) ?_ | refine aCallU_of (OutF (.ok (.mk 4 [.mk 1 [], .mk 1 []])) (by rfl) (by simp) (by simp) (by simp) (by simp)) ?_ | refine aCallTU_of (OutF (.ok (.mk 4 [.mk 1 [], .mk 1 []])) (by rfl) (by simp) (by simp) (by simp) (by simp)) rfl ?_ | refine aCallTU_of (OutF (.ok (.mk 4 [.mk 1 [], .mk 1 []])) (by rfl) (by simp) (by simp) (by simp) (by simp)) (by simp [AV.pur]; rfl) ?_)
    try simp [R.get, R.num]
    rcases hf5 with hq | hq | hq | hq | hq
    · simp [hq]
      rw [runnellaw7_OpFields_c43_eq]
      unfold runnellaw7_OpFields_P43
      simp
      (first | refine aCall_fold rfl ?_ | refine aCallT_fold rfl ?_)
      (first | refine aCallU_p (OutF (.er 1) (by rfl) (by simp) (by simp) (by simp) (by simp)) ?_ | refine aCallTU_p (OutF (.er 1) (by rfl) (by simp) (by simp) (by simp) (by simp)) ?_ | refine aCallU_of (OutF (.er 1) (by rfl) (by simp) (by simp) (by simp) (by simp)) ?_ | refine aCallTU_of (OutF (.er 1) (by rfl) (by simp) (by simp) (by simp) (by simp)) rfl ?_ | refine aCallTU_of (OutF (.er 1) (by rfl) (by simp) (by simp) (by simp) (by simp)) (by simp [AV.pur]; rfl) ?_)
      try simp [R.get, R.num]
      simp [aRes, tupOf]
      exact gives_p rfl
    · simp [hq]
      rw [runnellaw7_OpFields_c43_eq]
      unfold runnellaw7_OpFields_P43
      simp
      (first | refine aCall_fold rfl ?_ | refine aCallT_fold rfl ?_)
      (first | refine aCallU_p (OutF (.er 1) (by rfl) (by simp) (by simp) (by simp) (by simp)) ?_ | refine aCallTU_p (OutF (.er 1) (by rfl) (by simp) (by simp) (by simp) (by simp)) ?_ | refine aCallU_of (OutF (.er 1) (by rfl) (by simp) (by simp) (by simp) (by simp)) ?_ | refine aCallTU_of (OutF (.er 1) (by rfl) (by simp) (by simp) (by simp) (by simp)) rfl ?_ | refine aCallTU_of (OutF (.er 1) (by rfl) (by simp) (by simp) (by simp) (by simp)) (by simp [AV.pur]; rfl) ?_)
      try simp [R.get, R.num]
      simp [aRes, tupOf]
      exact gives_p rfl
    · simp [hq]
      try refine ⟨by simp [appendable], ?_⟩
      repeat ((first | refine aCall_fold rfl ?_ | refine aCallT_fold rfl ?_); (first | refine aCallU_p (X_spec) ?_ | refine aCallTU_p (X_spec) ?_ | refine aCallU_of (X_spec) ?_ | refine aCallTU_of (X_spec) rfl ?_ | refine aCallTU_of (X_spec) (by simp [AV.pur]; rfl) ?_); (try simp))
      try refine ⟨by simp [appendable], ?_⟩
      rw [runnellaw7_OpFields_c43_eq]
      unfold runnellaw7_OpFields_P43
      simp
      (first | refine aCall_fold rfl ?_ | refine aCallT_fold rfl ?_)
      (first | refine aCallU_p (OutF (.er 1) (by rfl) (by simp) (by simp) (by simp) (by simp)) ?_ | refine aCallTU_p (OutF (.er 1) (by rfl) (by simp) (by simp) (by simp) (by simp)) ?_ | refine aCallU_of (OutF (.er 1) (by rfl) (by simp) (by simp) (by simp) (by simp)) ?_ | refine aCallTU_of (OutF (.er 1) (by rfl) (by simp) (by simp) (by simp) (by simp)) rfl ?_ | refine aCallTU_of (OutF (.er 1) (by rfl) (by simp) (by simp) (by simp) (by simp)) (by simp [AV.pur]; rfl) ?_)
      try simp [R.get, R.num]
      simp [aRes, tupOf]
      exact gives_p rfl
    · simp [hq]
      rw [runnellaw7_OpFields_c43_eq]
      unfold runnellaw7_OpFields_P43
      simp
      try refine ⟨by simp [appendable], ?_⟩
      try refine ⟨by simp [appendable], ?_⟩
      (first | refine aCall_fold rfl ?_ | refine aCallT_fold rfl ?_)
      (first | refine aCallU_p (OutF (.er 1) (by rfl) (by simp) (by simp) (by simp) (by simp)) ?_ | refine aCallTU_p (OutF (.er 1) (by rfl) (by simp) (by simp) (by simp) (by simp)) ?_ | refine aCallU_of (OutF (.er 1) (by rfl) (by simp) (by simp) (by simp) (by simp)) ?_ | refine aCallTU_of (OutF (.er 1) (by rfl) (by simp) (by simp) (by simp) (by simp)) rfl ?_ | refine aCallTU_of (OutF (.er 1) (by rfl) (by simp) (by simp) (by simp) (by simp)) (by simp [AV.pur]; rfl) ?_)
      try simp [R.get, R.num]
      simp [aRes, tupOf]
      exact gives_p rfl
    · simp [hq, hk, w0, w1, w2, w3, w4, w5, w6, w7, w8, w9]
      rw [runnellaw7_OpFields_c43_eq]
      unfold runnellaw7_OpFields_P43
      simp
      (first | refine aCall_fold rfl ?_ | refine aCallT_fold rfl ?_)
      (first | refine aCallU_p (OutF (.er 1) (by rfl) (by simp) (by simp) (by simp) (by simp)) ?_ | refine aCallTU_p (OutF (.er 1) (by rfl) (by simp) (by simp) (by simp) (by simp)) ?_ | refine aCallU_of (OutF (.er 1) (by rfl) (by simp) (by simp) (by simp) (by simp)) ?_ | refine aCallTU_of (OutF (.er 1) (by rfl) (by simp) (by simp) (by simp) (by simp)) rfl ?_ | refine aCallTU_of (OutF (.er 1) (by rfl) (by simp) (by simp) (by simp) (by simp)) (by simp [AV.pur]; rfl) ?_)
      try simp [R.get, R.num]
      simp [aRes, tupOf]
      exact gives_p rfl
  · simp [hk, w0, w1, w2, w3, w4, w5, w6, w7, w8, w9]
    repeat ((first | refine aCall_fold rfl ?_ | refine aCallT_fold rfl ?_); (first | refine aCallU_p (X_spec) ?_ | refine aCallTU_p (X_spec) ?_ | refine aCallU_of (X_spec) ?_ | refine aCallTU_of (X_spec) rfl ?_ | refine aCallTU_of (X_spec) (by simp [AV.pur]; rfl) ?_); (try simp [w0, w1, w2, w3, w4, w5, w6, w7, w8, w9]))
    rw [runnellaw7_OpFields_c25_eq]
    unfold runnellaw7_OpFields_P25
    simp
    (first | refine aCall_fold rfl ?_ | refine aCallT_fold rfl ?_)
    (first | refine aCallU_p (OutF (.ok (.mk 1 [])) (by rfl) (by simp) (by simp) (by simp) (by simp)) ?_ | refine aCallTU_p (OutF (.ok (.mk 1 [])) (by rfl) (by simp) (by simp) (by simp) (by simp)) ?_ | refine aCallU_of (OutF (.ok (.mk 1 [])) (by rfl) (by simp) (by simp) (by simp) (by simp)) ?_ | refine aCallTU_of (OutF (.ok (.mk 1 [])) (by rfl) (by simp) (by simp) (by simp) (by simp)) rfl ?_ | refine aCallTU_of (OutF (.ok (.mk 1 [])) (by rfl) (by simp) (by simp) (by simp) (by simp)) (by simp [AV.pur]; rfl) ?_)
    try simp [R.get, R.num]
    rcases hf5 with hq | hq | hq | hq | hq
    · simp [hq]
      rw [runnellaw7_OpFields_c43_eq]
      unfold runnellaw7_OpFields_P43
      simp
      (first | refine aCall_fold rfl ?_ | refine aCallT_fold rfl ?_)
      (first | refine aCallU_p (OutF (.er 1) (by rfl) (by simp) (by simp) (by simp) (by simp)) ?_ | refine aCallTU_p (OutF (.er 1) (by rfl) (by simp) (by simp) (by simp) (by simp)) ?_ | refine aCallU_of (OutF (.er 1) (by rfl) (by simp) (by simp) (by simp) (by simp)) ?_ | refine aCallTU_of (OutF (.er 1) (by rfl) (by simp) (by simp) (by simp) (by simp)) rfl ?_ | refine aCallTU_of (OutF (.er 1) (by rfl) (by simp) (by simp) (by simp) (by simp)) (by simp [AV.pur]; rfl) ?_)
      try simp [R.get, R.num]
      simp [aRes, tupOf]
      exact gives_p rfl
    · simp [hq]
      rw [runnellaw7_OpFields_c43_eq]
      unfold runnellaw7_OpFields_P43
      simp
      (first | refine aCall_fold rfl ?_ | refine aCallT_fold rfl ?_)
      (first | refine aCallU_p (OutF (.er 1) (by rfl) (by simp) (by simp) (by simp) (by simp)) ?_ | refine aCallTU_p (OutF (.er 1) (by rfl) (by simp) (by simp) (by simp) (by simp)) ?_ | refine aCallU_of (OutF (.er 1) (by rfl) (by simp) (by simp) (by simp) (by simp)) ?_ | refine aCallTU_of (OutF (.er 1) (by rfl) (by simp) (by simp) (by simp) (by simp)) rfl ?_ | refine aCallTU_of (OutF (.er 1) (by rfl) (by simp) (by simp) (by simp) (by simp)) (by simp [AV.pur]; rfl) ?_)
      try simp [R.get, R.num]
      simp [aRes, tupOf]
      exact gives_p rfl
    · simp [hq]
      try refine ⟨by simp [appendable], ?_⟩
      repeat ((first | refine aCall_fold rfl ?_ | refine aCallT_fold rfl ?_); (first | refine aCallU_p (X_spec) ?_ | refine aCallTU_p (X_spec) ?_ | refine aCallU_of (X_spec) ?_ | refine aCallTU_of (X_spec) rfl ?_ | refine aCallTU_of (X_spec) (by simp [AV.pur]; rfl) ?_); (try simp))
      try refine ⟨by simp [appendable], ?_⟩
      rw [runnellaw7_OpFields_c43_eq]
      unfold runnellaw7_OpFields_P43
      simp
      (first | refine aCall_fold rfl ?_ | refine aCallT_fold rfl ?_)
      (first | refine aCallU_p (OutF (.er 1) (by rfl) (by simp) (by simp) (by simp) (by simp)) ?_ | refine aCallTU_p (OutF (.er 1) (by rfl) (by simp) (by simp) (by simp) (by simp)) ?_ | refine aCallU_of (OutF (.er 1) (by rfl) (by simp) (by simp) (by simp) (by simp)) ?_ | refine aCallTU_of (OutF (.er 1) (by rfl) (by simp) (by simp) (by simp) (by simp)) rfl ?_ | refine aCallTU_of (OutF (.er 1) (by rfl) (by simp) (by simp) (by simp) (by simp)) (by simp [AV.pur]; rfl) ?_)
      try simp [R.get, R.num]
      simp [aRes, tupOf]
      exact gives_p rfl
    · simp [hq]
      rw [runnellaw7_OpFields_c43_eq]
      unfold runnellaw7_OpFields_P43
      simp
      try refine ⟨by simp [appendable], ?_⟩
      try refine ⟨by simp [appendable], ?_⟩
      (first | refine aCall_fold rfl ?_ | refine aCallT_fold rfl ?_)
      (first | refine aCallU_p (OutF (.er 1) (by rfl) (by simp) (by simp) (by simp) (by simp)) ?_ | refine aCallTU_p (OutF (.er 1) (by rfl) (by simp) (by simp) (by simp) (by simp)) ?_ | refine aCallU_of (OutF (.er 1) (by rfl) (by simp) (by simp) (by simp) (by simp)) ?_ | refine aCallTU_of (OutF (.er 1) (by rfl) (by simp) (by simp) (by simp) (by simp)) rfl ?_ | refine aCallTU_of (OutF (.er 1) (by rfl) (by simp) (by simp) (by simp) (by simp)) (by simp [AV.pur]; rfl) ?_)
      try simp [R.get, R.num]
      simp [aRes, tupOf]
      exact gives_p rfl
    · simp [hq, hk, w0, w1, w2, w3, w4, w5, w6, w7, w8, w9]
      rw [runnellaw7_OpFields_c43_eq]
      unfold runnellaw7_OpFields_P43
      simp
      (first | refine aCall_fold rfl ?_ | refine aCallT_fold rfl ?_)
      (first | refine aCallU_p (OutF (.er 1) (by rfl) (by simp) (by simp) (by simp) (by simp)) ?_ | refine aCallTU_p (OutF (.er 1) (by rfl) (by simp) (by simp) (by simp) (by simp)) ?_ | refine aCallU_of (OutF (.er 1) (by rfl) (by simp) (by simp) (by simp) (by simp)) ?_ | refine aCallTU_of (OutF (.er 1) (by rfl) (by simp) (by simp) (by simp) (by simp)) rfl ?_ | refine aCallTU_of (OutF (.er 1) (by rfl) (by simp) (by simp) (by simp) (by simp)) (by simp [AV.pur]; rfl) ?_)
      try simp [R.get, R.num]
      simp [aRes, tupOf]
      exact gives_p rfl
  · simp [hk, w0, w1, w2, w3, w4, w5, w6, w7, w8, w9]
    rw [runnellaw7_OpFields_c25_eq]
    unfold runnellaw7_OpFields_P25
    simp
    (first | refine aCall_fold rfl ?_ | refine aCallT_fold rfl ?_)
    (first | refine aCallU_p (OutF (.ok (.mk 1 [])) (by rfl) (by simp) (by simp) (by simp) (by simp)) ?_ | refine aCallTU_p (OutF (.ok (.mk 1 [])) (by rfl) (by simp) (by simp) (by simp) (by simp)) ?_ | refine aCallU_of (OutF (.ok (.mk 1 [])) (by rfl) (by simp) (by simp) (by simp) (by simp)) ?_ | refine aCallTU_of (OutF (.ok (.mk 1 [])) (by rfl) (by simp) (by simp) (by simp) (by simp)) rfl ?_ | refine aCallTU_of (OutF (.ok (.mk 1 [])) (by rfl) (by simp) (by simp) (by simp) (by simp)) (by simp [AV.pur]; rfl) ?_)
    try simp [R.get, R.num]
    rcases hf5 with hq | hq | hq | hq | hq
    · simp [hq]
      rw [runnellaw7_OpFields_c43_eq]
      unfold runnellaw7_OpFields_P43
      simp
      (first | refine aCall_fold rfl ?_ | refine aCallT_fold rfl ?_)
      (first | refine aCallU_p (OutF (.er 1) (by rfl) (by simp) (by simp) (by simp) (by simp)) ?_ | refine aCallTU_p (OutF (.er 1) (by rfl) (by simp) (by simp) (by simp) (by simp)) ?_ | refine aCallU_of (OutF (.er 1) (by rfl) (by simp) (by simp) (by simp) (by simp)) ?_ | refine aCallTU_of (OutF (.er 1) (by rfl) (by simp) (by simp) (by simp) (by simp)) rfl ?_ | refine aCallTU_of (OutF (.er 1) (by rfl) (by simp) (by simp) (by simp) (by simp)) (by simp [AV.pur]; rfl) ?_)
      try simp [R.get, R.num]
      simp [aRes, tupOf]
      exact gives_p rfl
    · simp [hq]
      rw [runnellaw7_OpFields_c43_eq]
      unfold runnellaw7_OpFields_P43
      simp
      (first | refine aCall_fold rfl ?_ | refine aCallT_fold rfl ?_)
      (first | refine aCallU_p (OutF (.er 1) (by rfl) (by simp) (by simp) (by simp) (by simp)) ?_ | refine aCallTU_p (OutF (.er 1) (by rfl) (by simp) (by simp) (by simp) (by simp)) ?_ | refine aCallU_of (OutF (.er 1) (by rfl) (by simp) (by simp) (by simp) (by simp)) ?_ | refine aCallTU_of (OutF (.er 1) (by rfl) (by simp) (by simp) (by simp) (by simp)) rfl ?_ | refine aCallTU_of (OutF (.er 1) (by rfl) (by simp) (by simp) (by simp) (by simp)) (by simp [AV.pur]; rfl) ?_)
      try simp [R.get, R.num]
      simp [aRes, tupOf]
      exact gives_p rfl
    · simp [hq]
      try refine ⟨by simp [appendable], ?_⟩
      repeat ((first | refine aCall_fold rfl ?_ | refine aCallT_fold rfl ?_); (first | refine aCallU_p (X_spec) ?_ | refine aCallTU_p (X_spec) ?_ | refine aCallU_of (X_spec) ?_ | refine aCallTU_of (X_spec) rfl ?_ | refine aCallTU_of (X_spec) (by simp [AV.pur]; rfl) ?_); (try simp))
      try refine ⟨by simp [appendable], ?_⟩
      rw [runnellaw7_OpFields_c43_eq]
      unfold runnellaw7_OpFields_P43
      simp
      (first | refine aCall_fold rfl ?_ | refine aCallT_fold rfl ?_)
      (first | refine aCallU_p (OutF (.er 1) (by rfl) (by simp) (by simp) (by simp) (by simp)) ?_ | refine aCallTU_p (OutF (.er 1) (by rfl) (by simp) (by simp) (by simp) (by simp)) ?_ | refine aCallU_of (OutF (.er 1) (by rfl) (by simp) (by simp) (by simp) (by simp)) ?_ | refine aCallTU_of (OutF (.er 1) (by rfl) (by simp) (by simp) (by simp) (by simp)) rfl ?_ | refine aCallTU_of (OutF (.er 1) (by rfl) (by simp) (by simp) (by simp) (by simp)) (by simp [AV.pur]; rfl) ?_)
      try simp [R.get, R.num]
      simp [aRes, tupOf]
      exact gives_p rfl
    · simp [hq]
      rw [runnellaw7_OpFields_c43_eq]
      unfold runnellaw7_OpFields_P43
      simp
      try refine ⟨by simp [appendable], ?_⟩
      try refine ⟨by simp [appendable], ?_⟩
      (first | refine aCall_fold rfl ?_ | refine aCallT_fold rfl ?_)
      (first | refine aCallU_p (OutF (.er 1) (by rfl) (by simp) (by simp) (by simp) (by simp)) ?_ | refine aCallTU_p (OutF (.er 1) (by rfl) (by simp) (by simp) (by simp) (by simp)) ?_ | refine aCallU_of (OutF (.er 1) (by rfl) (by simp) (by simp) (by simp) (by simp)) ?_ | refine aCallTU_of (OutF (.er 1) (by rfl) (by simp) (by simp) (by simp) (by simp)) rfl ?_ | refine aCallTU_of (OutF (.er 1) (by rfl) (by simp) (by simp) (by simp) (by simp)) (by simp [AV.pur]; rfl) ?_)
      try simp [R.get, R.num]
      simp [aRes, tupOf]
      exact gives_p rfl
    · simp [hq, hk, w0, w1, w2, w3, w4, w5, w6, w7, w8, w9]
      rw [runnellaw7_OpFields_c43_eq]
      unfold runnellaw7_OpFields_P43
      simp
      (first | refine aCall_fold rfl ?_ | refine aCallT_fold rfl ?_)
      (first | refine aCallU_p (OutF (.er 1) (by rfl) (by simp) (by simp) (by simp) (by simp)) ?_ | refine aCallTU_p (OutF (.er 1) (by rfl) (by simp) (by simp) (by simp) (by simp)) ?_ | refine aCallU_of (OutF (.er 1) (by rfl) (by simp) (by simp) (by simp) (by simp)) ?_ | refine aCallTU_of (OutF (.er 1) (by rfl) (by simp) (by simp) (by simp) (by simp)) rfl ?_ | refine aCallTU_of (OutF (.er 1) (by rfl) (by simp) (by simp) (by simp) (by simp)) (by simp [AV.pur]; rfl) ?_)
      try simp [R.get, R.num]
      simp [aRes, tupOf]
      exact gives_p rfl
  · simp [hk, w0, w1, w2, w3, w4, w5, w6, w7, w8, w9]
    rw [runnellaw7_OpFields_c25_eq]
    unfold runnellaw7_OpFields_P25
    simp
    (first | refine aCall_fold rfl ?_ | refine aCallT_fold rfl ?_)
    (first | refine aCallU_p (OutF (.ok (.mk 1 [])) (by rfl) (by simp) (by simp) (by simp) (by simp)) ?_ | refine aCallTU_p (OutF (.ok (.mk 1 [])) (by rfl) (by simp) (by simp) (by simp) (by simp)) ?_ | refine aCallU_of (OutF (.ok (.mk 1 [])) (by rfl) (by simp) (by simp) (by simp) (by simp)) ?_ | refine aCallTU_of (OutF (.ok (.mk 1 [])) (by rfl) (by simp) (by simp) (by simp) (by simp)) rfl ?_ | refine aCallTU_of (OutF (.ok (.mk 1 [])) (by rfl) (by simp) (by simp) (by simp) (by simp)) (by simp [AV.pur]; rfl) ?_)
    try simp [R.get, R.num]
    rcases hf5 with hq | hq | hq | hq | hq
    · simp [hq]
      rw [runnellaw7_OpFields_c43_eq]
      unfold runnellaw7_OpFields_P43
      simp
      (first | refine aCall_fold rfl ?_ | refine aCallT_fold rfl ?_)
      (first | refine aCallU_p (OutF (.er 1) (by rfl) (by simp) (by simp) (by simp) (by simp)) ?_ | refine aCallTU_p (OutF (.er 1) (by rfl) (by simp) (by simp) (by simp) (by simp)) ?_ | refine aCallU_of (OutF (.er 1) (by rfl) (by simp) (by simp) (by simp) (by simp)) ?_ | refine aCallTU_of (OutF (.er 1) (by rfl) (by simp) (by simp) (by simp) (by simp)) rfl ?_ | refine aCallTU_of (OutF (.er 1) (by rfl) (by simp) (by simp) (by simp) (by simp)) (by simp [AV.pur]; rfl) ?_)
      try simp [R.get, R.num]
      simp [aRes, tupOf]
      exact gives_p rfl
    · simp [hq]
      rw [runnellaw7_OpFields_c43_eq]
      unfold runnellaw7_OpFields_P43
      simp
      (first | refine aCall_fold rfl ?_ | refine aCallT_fold rfl ?_)
      (first | refine aCallU_p (OutF (.er 1) (by rfl) (by simp) (by simp) (by simp) (by simp)) ?_ | refine aCallTU_p (OutF (.er 1) (by rfl) (by simp) (by simp) (by simp) (by simp)) ?_ | refine aCallU_of (OutF (.er 1) (by rfl) (by simp) (by simp) (by simp) (by simp)) ?_ | refine aCallTU_of (OutF (.er 1) (by rfl) (by simp) (by simp) (by simp) (by simp)) rfl ?_ | refine aCallTU_of (OutF (.er 1) (by rfl) (by simp) (by simp) (by simp) (by simp)) (by simp [AV.pur]; rfl) ?_)
      try simp [R.get, R.num]
      simp [aRes, tupOf]
      exact gives_p rfl
    · simp [hq]
      try refine ⟨by simp [appendable], ?_⟩
      repeat ((first | refine aCall_fold rfl ?_ | refine aCallT_fold rfl ?_); (first | refine aCallU_p (X_spec) ?_ | refine aCallTU_p (X_spec) ?_ | refine aCallU_of (X_spec) ?_ | refine aCallTU_of (X_spec) rfl ?_ | refine aCallTU_of (X_spec) (by simp [AV.pur]; rfl) ?_); (try simp))
      try refine ⟨by simp [appendable], ?_⟩
      rw [runnellaw7_OpFields_c43_eq]
      unfold runnellaw7_OpFields_P43
      simp
      (first | refine aCall_fold rfl ?_ | refine aCallT_fold rfl ?_)
      (first | refine aCallU_p (OutF (.er 1) (by rfl) (by simp) (by simp) (by simp) (by simp)) ?_ | refine aCallTU_p (OutF (.er 1) (by rfl) (by simp) (by simp) (by simp) (by simp)) ?_ | refine aCallU_of (OutF (.er 1) (by rfl) (by simp) (by simp) (by simp) (by simp)) ?_ | refine aCallTU_of (OutF (.er 1) (by rfl) (by simp) (by simp) (by simp) (by simp)) rfl ?_ | refine aCallTU_of (OutF (.er 1) (by rfl) (by simp) (by simp) (by simp) (by simp)) (by simp [AV.pur]; rfl) ?_)
      try simp [R.get, R.num]
      simp [aRes, tupOf]
      exact gives_p rfl
    · simp [hq]
      rw [runnellaw7_OpFields_c43_eq]
      unfold runnellaw7_OpFields_P43
      simp
      try refine ⟨by simp [appendable], ?_⟩
      try refine ⟨by simp [appendable], ?_⟩
      (first | refine aCall_fold rfl ?_ | refine aCallT_fold rfl ?_)
      (first | refine aCallU_p (OutF (.er 1) (by rfl) (by simp) (by simp) (by simp) (by simp)) ?_ | refine aCallTU_p (OutF (.er 1) (by rfl) (by simp) (by simp) (by simp) (by simp)) ?_ | refine aCallU_of (OutF (.er 1) (by rfl) (by simp) (by simp) (by simp) (by simp)) ?_ | refine aCallTU_of (OutF (.er 1) (by rfl) (by simp) (by simp) (by simp) (by simp)) rfl ?_ | refine aCallTU_of (OutF (.er 1) (by rfl) (by simp) (by simp) (by simp) (by simp)) (by simp [AV.pur]; rfl) ?_)
      try simp [R.get, R.num]
      simp [aRes, tupOf]
      exact gives_p rfl
    · simp [hq, hk, w0, w1, w2, w3, w4, w5, w6, w7, w8, w9]
      rw [runnellaw7_OpFields_c43_eq]
      unfold runnellaw7_OpFields_P43
      simp
      (first | refine aCall_fold rfl ?_ | refine aCallT_fold rfl ?_)
      (first | refine aCallU_p (OutF (.er 6) (by rfl) (by simp) (by simp) (by simp) (by simp)) ?_ | refine aCallTU_p (OutF (.er 6) (by rfl) (by simp) (by simp) (by simp) (by simp)) ?_ | refine aCallU_of (OutF (.er 6) (by rfl) (by simp) (by simp) (by simp) (by simp)) ?_ | refine aCallTU_of (OutF (.er 6) (by rfl) (by simp) (by simp) (by simp) (by simp)) rfl ?_ | refine aCallTU_of (OutF (.er 6) (by rfl) (by simp) (by simp) (by simp) (by simp)) (by simp [AV.pur]; rfl) ?_)
      try simp [R.get, R.num]
      simp [aRes, tupOf]
      exact gives_p rfl

end Go.Proofs.Ytklnalofcjagnaa
