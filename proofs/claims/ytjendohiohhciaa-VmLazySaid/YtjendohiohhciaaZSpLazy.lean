/- The law VmLazy. -/
import Derived.Test.YtjendohiohhciaaZPuComp
import Derived.Test.YtjendohiohhciaaZPuEx
import Derived.Test.YtjendohiohhciaaZSpTo
import Derived.Test.YtjendohiohhciaaZSpLaw14
import Derived.Test.YtjendohiohhciaaZSpGenW
import Derived.Test.YtjendohiohhciaaZSpOkG
import Derived.Test.YtjendohiohhciaaZSpEvalC
import Derived.Test.YtjendohiohhciaaS2
set_option linter.unusedSimpArgs false
set_option linter.unusedVariables false
namespace Go.Proofs.Ytjendohiohhciaa
open Go Go.Abs

attribute [local irreducible] Abs.Fn

abbrev T1 : Ty := plainT 1
abbrev T2 : Ty := plainT 2
abbrev e3 (a b c : Ex) : Ex := .mk oIf zeroV 0 [a, b, c]
abbrev badE : Ex := e2 oEq (e2 oRem eX (eL (intV 0))) eX
abbrev lt5 : Ex := e2 oLt eX (eL (intV 5))

theorem ck_andor {op : List UInt8} (hop : op = oAnd ∨ op = oOr) {a b : Ex} {d : Int} (hd : d ≤ 12) (ha : ckE a T1 (d + 1) = .ok T2) (hb : ckE b T1 (d + 1) = .ok T2) : ckE (e2 op a b) T1 d = .ok T2 := by
  have h12 : ¬ 12 < d := by omega
  simp only [T1, T2, plainT] at ha hb ⊢
  rcases hop with rfl | rfl <;> simp [ckE, ckL, ha, hb, arE, fieldsE, cmpV_self, h12, opT, Ty.kind, plainT]
theorem ck_if {a b c : Ex} {d : Int} (hd : d ≤ 12) (ha : ckE a T1 (d + 1) = .ok T2) (hb : ckE b T1 (d + 1) = .ok T2) (hc : ckE c T1 (d + 1) = .ok T2) : ckE (e3 a b c) T1 d = .ok T2 := by
  have h12 : ¬ 12 < d := by omega
  simp only [T1, T2, plainT] at ha hb hc ⊢
  simp [ckE, ckL, ha, hb, hc, arE, fieldsE, cmpV_self, h12, opT, Ty.kind, plainT, sameT, sameTs]
theorem ck_lit {b : Bool} {d : Int} (hd : d ≤ 12) : ckE (eL (boolV b)) T1 d = .ok T2 := by
  have h12 : ¬ 12 < d := by omega
  simp [ckE, arE, fieldsE, h12, checkV, spareV, plainT, boolV]
theorem ck_lt5 {d : Int} (hd : d ≤ 11) : ckE lt5 T1 d = .ok T2 := by
  have h12 : ¬ 12 < d := by omega
  have h13 : ¬ 12 < d + 1 := by omega
  simp [ckE, ckL, arE, fieldsE, cmpV_self, h12, h13, opT, Ty.kind, plainT, checkV, spareV, intV, sameT, sameTs]
theorem ck_bad {d : Int} (hd : d ≤ 10) : ckE badE T1 d = .ok T2 := by
  have h12 : ¬ 12 < d := by omega
  have h13 : ¬ 12 < d + 1 := by omega
  have h14 : ¬ 12 < d + 1 + 1 := by omega
  simp [ckE, ckL, arE, fieldsE, cmpV_self, h12, h13, h14, opT, Ty.kind, plainT, checkV, spareV, intV, sameT, sameTs]

structure OkL (i : Nat) (e : Ex) : Prop where
  ck : ∀ d : Int, 0 ≤ d → d + i ≤ 10 → ckE e T1 d = .ok T2
  we : We 1000000000 e
  sz : sizeE e ≤ 3 + 8 * i

theorem we_bad : We 1000000000 badE := we_2 (we_2 we_x (we_l (wv_int _))) we_x
theorem we_3 {a b c : Ex} (ha : We 1000000000 a) (hb : We 1000000000 b) (hc : We 1000000000 c) : We 1000000000 (e3 a b c) := .mk _ _ _ _ (by simp) (by simp) (by simp [ha, hb, hc])

theorem okL_zero : OkL 0 lt5 := ⟨fun d _ h => ck_lt5 (by omega), we_2 we_x (we_l (wv_int _)), by simp [sizeE, sizeEs]⟩

theorem okL_mono {i : Nat} {e : Ex} (h : OkL i e) : OkL (i + 1) e := ⟨fun d h0 h1 => h.ck d h0 (by omega), h.we, by have := h.sz; omega⟩
theorem okL_te {i : Nat} {e : Ex} {op : List UInt8} (hop : op = oAnd ∨ op = oOr) (b : Bool) (h : OkL i e) : OkL (i + 1) (e2 op (eL (boolV b)) e) :=
  ⟨fun d h0 h1 => ck_andor hop (by omega) (ck_lit (by omega)) (h.ck _ (by omega) (by omega)), we_2 (we_l (wv_bool _)) h.we, by have := h.sz; simp only [sizeE, sizeEs]; omega⟩
theorem okL_eb {i : Nat} {e : Ex} {op : List UInt8} (hop : op = oAnd ∨ op = oOr) (h : OkL i e) : OkL (i + 1) (e2 op e badE) :=
  ⟨fun d h0 h1 => ck_andor hop (by omega) (h.ck _ (by omega) (by omega)) (ck_bad (by omega)), we_2 h.we we_bad, by have := h.sz; simp only [sizeE, sizeEs]; omega⟩
theorem okL_teb {i : Nat} {e : Ex} (b : Bool) (h : OkL i e) : OkL (i + 1) (e3 (eL (boolV b)) e badE) :=
  ⟨fun d h0 h1 => ck_if (by omega) (ck_lit (by omega)) (h.ck _ (by omega) (by omega)) (ck_bad (by omega)), we_3 (we_l (wv_bool _)) h.we we_bad, by have := h.sz; simp only [sizeE, sizeEs]; omega⟩
theorem okL_etb {i : Nat} {e : Ex} (b : Bool) (h : OkL i e) : OkL (i + 1) (e3 e (eL (boolV b)) badE) :=
  ⟨fun d h0 h1 => ck_if (by omega) (h.ck _ (by omega) (by omega)) (ck_lit (by omega)) (ck_bad (by omega)), we_3 h.we (we_l (wv_bool _)) we_bad, by have := h.sz; simp only [sizeE, sizeEs]; omega⟩

def boxX (e : Ex) : Ob := .box [.p (.str e.op), .p (.int .i64 e.v.k), .p (.int .i64 e.v.i), .p (.bool e.v.b), .p (.str e.v.s), .p (.slice (e.v.t.map encV)), .p (.int .i64 e.n), .p (.slice (e.a.map encE))]

set_option maxRecDepth 100000 in
set_option maxHeartbeats 4000000 in
theorem VmLazy_spec (l : List Int) (n : Int) (hl : ∀ x ∈ l, 0 ≤ x ∧ x ≤ 255) : Abs.Fn Try.prog runnellaw14_VmLazy_i [] [.p (.slice (l.map (.int .u8))), .p (.int .i64 n)] (.p (.bool true)) [] := by
  apply runnellaw14_VmLazy_fn
  unfold runnellaw14_VmLazy_P0
  simp
  (first | refine aCall_fold rfl ?_ | refine aCallT_fold rfl ?_)
  (first | refine aCallU_p (known14) ?_ | refine aCallTU_p (known14) ?_ | refine aCallU_of (known14) ?_ | refine aCallTU_of (known14) rfl ?_ | refine aCallTU_of (known14) (by simp [AV.pur]; rfl) ?_)
  try simp
  intro hml
  refine ⟨fun _ => ?_, fun h9 => ?_⟩
  · simp [aRes, tupOf]
    exact gives_p rfl
  (first | refine aCall_fold rfl ?_ | refine aCallT_fold rfl ?_)
  (first | refine aCallU_p (X_spec) ?_ | refine aCallTU_p (X_spec) ?_ | refine aCallU_of (X_spec) ?_ | refine aCallTU_of (X_spec) rfl ?_ | refine aCallTU_of (X_spec) (by simp [AV.pur]; rfl) ?_)
  try simp
  (first | refine aCall_fold rfl ?_ | refine aCallT_fold rfl ?_)
  (first | refine aCallU_p (Int_spec 0) ?_ | refine aCallTU_p (Int_spec 0) ?_ | refine aCallU_of (Int_spec 0) ?_ | refine aCallTU_of (Int_spec 0) rfl ?_ | refine aCallTU_of (Int_spec 0) (by simp [AV.pur]; rfl) ?_)
  try simp
  (first | refine aCall_fold rfl ?_ | refine aCallT_fold rfl ?_)
  (first | refine aCallU_p (Lit_spec (intV 0)) ?_ | refine aCallTU_p (Lit_spec (intV 0)) ?_ | refine aCallU_of (Lit_spec (intV 0)) ?_ | refine aCallTU_of (Lit_spec (intV 0)) rfl ?_ | refine aCallTU_of (Lit_spec (intV 0)) (by simp [AV.pur]; rfl) ?_)
  try simp
  (first | refine aCall_fold rfl ?_ | refine aCallT_fold rfl ?_)
  (first | refine aCallU_p (Op4_spec oRem [eX, eL (intV 0)]) ?_ | refine aCallTU_p (Op4_spec oRem [eX, eL (intV 0)]) ?_ | refine aCallU_of (Op4_spec oRem [eX, eL (intV 0)]) ?_ | refine aCallTU_of (Op4_spec oRem [eX, eL (intV 0)]) rfl ?_ | refine aCallTU_of (Op4_spec oRem [eX, eL (intV 0)]) (by simp [AV.pur]; rfl) ?_)
  try simp
  (first | refine aCall_fold rfl ?_ | refine aCallT_fold rfl ?_)
  (first | refine aCallU_p (X_spec) ?_ | refine aCallTU_p (X_spec) ?_ | refine aCallU_of (X_spec) ?_ | refine aCallTU_of (X_spec) rfl ?_ | refine aCallTU_of (X_spec) (by simp [AV.pur]; rfl) ?_)
  try simp
  (first | refine aCall_fold rfl ?_ | refine aCallT_fold rfl ?_)
  (first | refine aCallU_p (Op4_spec oEq [e2 oRem eX (eL (intV 0)), eX]) ?_ | refine aCallTU_p (Op4_spec oEq [e2 oRem eX (eL (intV 0)), eX]) ?_ | refine aCallU_of (Op4_spec oEq [e2 oRem eX (eL (intV 0)), eX]) ?_ | refine aCallTU_of (Op4_spec oEq [e2 oRem eX (eL (intV 0)), eX]) rfl ?_ | refine aCallTU_of (Op4_spec oEq [e2 oRem eX (eL (intV 0)), eX]) (by simp [AV.pur]; rfl) ?_)
  try simp
  (first | refine aCall_fold rfl ?_ | refine aCallT_fold rfl ?_)
  (first | refine aCallU_p (X_spec) ?_ | refine aCallTU_p (X_spec) ?_ | refine aCallU_of (X_spec) ?_ | refine aCallTU_of (X_spec) rfl ?_ | refine aCallTU_of (X_spec) (by simp [AV.pur]; rfl) ?_)
  try simp
  (first | refine aCall_fold rfl ?_ | refine aCallT_fold rfl ?_)
  (first | refine aCallU_p (Int_spec 5) ?_ | refine aCallTU_p (Int_spec 5) ?_ | refine aCallU_of (Int_spec 5) ?_ | refine aCallTU_of (Int_spec 5) rfl ?_ | refine aCallTU_of (Int_spec 5) (by simp [AV.pur]; rfl) ?_)
  try simp
  (first | refine aCall_fold rfl ?_ | refine aCallT_fold rfl ?_)
  (first | refine aCallU_p (Lit_spec (intV 5)) ?_ | refine aCallTU_p (Lit_spec (intV 5)) ?_ | refine aCallU_of (Lit_spec (intV 5)) ?_ | refine aCallTU_of (Lit_spec (intV 5)) rfl ?_ | refine aCallTU_of (Lit_spec (intV 5)) (by simp [AV.pur]; rfl) ?_)
  try simp
  (first | refine aCall_fold rfl ?_ | refine aCallT_fold rfl ?_)
  (first | refine aCallU_p (Op4_spec oLt [eX, eL (intV 5)]) ?_ | refine aCallTU_p (Op4_spec oLt [eX, eL (intV 5)]) ?_ | refine aCallU_of (Op4_spec oLt [eX, eL (intV 5)]) ?_ | refine aCallTU_of (Op4_spec oLt [eX, eL (intV 5)]) rfl ?_ | refine aCallTU_of (Op4_spec oLt [eX, eL (intV 5)]) (by simp [AV.pur]; rfl) ?_)
  try simp
  refine loop_by (σ := Nat × Ex) (n := 2) (fun q => [.p (.int .i64 q.1)]) (fun q => [boxX badE, boxX q.2]) (fun q => q.1 ≤ l.length ∧ OkL q.1 q.2) (fun q => l.length - q.1) [] (0, lt5) (fun _ => rfl) (by simp [ghosts, boxX]) ⟨by simp, okL_zero⟩ (fun q B hq hB => ?_)
  obtain ⟨i, e⟩ := q
  obtain ⟨hi, he⟩ := hq
  simp only at hi he
  unfold runnellaw14_VmLazy_L1
  simp [boxX]
  intro _
  refine ⟨fun hlt => ?_, fun hge => ?_⟩
  · have key : ∀ (e' : Ex) (H2 : List Ob), OkL (i + 1) e' → H2.take 2 = [boxX badE, boxX e'] → 2 ≤ H2.length → B [.p (.int .i64 ((i : Int) + 1))] H2 := fun e' H2 a1 a2 a3 => by
      have := hB (i + 1, e') H2 ⟨by simp only; omega, a1⟩ (by simp only; omega) a2 (by rw [a2]; simp [boxX, Ob.below, AV.under1]) a3 (by simp [AV.under, AV.under1])
      simpa using this
    have w1 : IntKind.i64.wrap ((i : Int) + 1) = (i : Int) + 1 := IntWalk.i64_in _ (by omega)
    simp [hlt, List.getElem?_eq_getElem hlt]
    generalize (decide ((IntKind.u8.wrap (l[i].tdiv 8)).tmod 2 = 0)) = t
    (first | refine aCall_fold rfl ?_ | refine aCallT_fold rfl ?_)
    (first | refine aCallU_p (Bool_spec t) ?_ | refine aCallTU_p (Bool_spec t) ?_ | refine aCallU_of (Bool_spec t) ?_ | refine aCallTU_of (Bool_spec t) rfl ?_ | refine aCallTU_of (Bool_spec t) (by simp [AV.pur]; rfl) ?_)
    try simp
    (first | refine aCall_fold rfl ?_ | refine aCallT_fold rfl ?_)
    (first | refine aCallU_p (Lit_spec (boolV t)) ?_ | refine aCallTU_p (Lit_spec (boolV t)) ?_ | refine aCallU_of (Lit_spec (boolV t)) ?_ | refine aCallTU_of (Lit_spec (boolV t)) rfl ?_ | refine aCallTU_of (Lit_spec (boolV t)) (by simp [AV.pur]; rfl) ?_)
    try simp [hlt, List.getElem?_eq_getElem hlt]
    generalize l[i].tmod 6 = c
    refine ⟨fun _ => ?_, fun _ => ⟨fun _ => ?_, fun _ => ⟨fun _ => ?_, fun _ => ⟨fun _ => ?_, fun _ => ⟨fun _ => ?_, fun _ => ⟨fun _ => ?_, fun _ => ?_⟩⟩⟩⟩⟩⟩
    · skip
      (first | refine aCall_fold rfl ?_ | refine aCallT_fold rfl ?_)
      (first | refine aCallU_p (Op4_spec oAnd [eL (boolV t), e]) ?_ | refine aCallTU_p (Op4_spec oAnd [eL (boolV t), e]) ?_ | refine aCallU_of (Op4_spec oAnd [eL (boolV t), e]) ?_ | refine aCallTU_of (Op4_spec oAnd [eL (boolV t), e]) rfl ?_ | refine aCallTU_of (Op4_spec oAnd [eL (boolV t), e]) (by simp [AV.pur]; rfl) ?_)
      try simp
      rw [runnellaw14_VmLazy_c9_eq]
      unfold runnellaw14_VmLazy_P9
      simp [w1]
      exact key (e2 oAnd (eL (boolV t)) e) _ (okL_te (.inl rfl) t he) (by simp [boxX]) (by simp)
    · skip
      (first | refine aCall_fold rfl ?_ | refine aCallT_fold rfl ?_)
      (first | refine aCallU_p (Op4_spec oOr [eL (boolV t), e]) ?_ | refine aCallTU_p (Op4_spec oOr [eL (boolV t), e]) ?_ | refine aCallU_of (Op4_spec oOr [eL (boolV t), e]) ?_ | refine aCallTU_of (Op4_spec oOr [eL (boolV t), e]) rfl ?_ | refine aCallTU_of (Op4_spec oOr [eL (boolV t), e]) (by simp [AV.pur]; rfl) ?_)
      try simp
      rw [runnellaw14_VmLazy_c9_eq]
      unfold runnellaw14_VmLazy_P9
      simp [w1]
      exact key (e2 oOr (eL (boolV t)) e) _ (okL_te (.inr rfl) t he) (by simp [boxX]) (by simp)
    · skip
      (first | refine aCall_fold rfl ?_ | refine aCallT_fold rfl ?_)
      (first | refine aCallU_p (Op4_spec oIf [eL (boolV t), e, badE]) ?_ | refine aCallTU_p (Op4_spec oIf [eL (boolV t), e, badE]) ?_ | refine aCallU_of (Op4_spec oIf [eL (boolV t), e, badE]) ?_ | refine aCallTU_of (Op4_spec oIf [eL (boolV t), e, badE]) rfl ?_ | refine aCallTU_of (Op4_spec oIf [eL (boolV t), e, badE]) (by simp [AV.pur]; rfl) ?_)
      try simp
      rw [runnellaw14_VmLazy_c9_eq]
      unfold runnellaw14_VmLazy_P9
      simp [w1]
      exact key (e3 (eL (boolV t)) e badE) _ (okL_teb t he) (by simp [boxX]) (by simp)
    · skip
      (first | refine aCall_fold rfl ?_ | refine aCallT_fold rfl ?_)
      (first | refine aCallU_p (Op4_spec oAnd [e, badE]) ?_ | refine aCallTU_p (Op4_spec oAnd [e, badE]) ?_ | refine aCallU_of (Op4_spec oAnd [e, badE]) ?_ | refine aCallTU_of (Op4_spec oAnd [e, badE]) rfl ?_ | refine aCallTU_of (Op4_spec oAnd [e, badE]) (by simp [AV.pur]; rfl) ?_)
      try simp
      rw [runnellaw14_VmLazy_c9_eq]
      unfold runnellaw14_VmLazy_P9
      simp [w1]
      exact key (e2 oAnd e badE) _ (okL_eb (.inl rfl) he) (by simp [boxX]) (by simp)
    · skip
      (first | refine aCall_fold rfl ?_ | refine aCallT_fold rfl ?_)
      (first | refine aCallU_p (Op4_spec oOr [e, badE]) ?_ | refine aCallTU_p (Op4_spec oOr [e, badE]) ?_ | refine aCallU_of (Op4_spec oOr [e, badE]) ?_ | refine aCallTU_of (Op4_spec oOr [e, badE]) rfl ?_ | refine aCallTU_of (Op4_spec oOr [e, badE]) (by simp [AV.pur]; rfl) ?_)
      try simp
      rw [runnellaw14_VmLazy_c9_eq]
      unfold runnellaw14_VmLazy_P9
      simp [w1]
      exact key (e2 oOr e badE) _ (okL_eb (.inr rfl) he) (by simp [boxX]) (by simp)
    · skip
      (first | refine aCall_fold rfl ?_ | refine aCallT_fold rfl ?_)
      (first | refine aCallU_p (Op4_spec oIf [e, eL (boolV t), badE]) ?_ | refine aCallTU_p (Op4_spec oIf [e, eL (boolV t), badE]) ?_ | refine aCallU_of (Op4_spec oIf [e, eL (boolV t), badE]) ?_ | refine aCallTU_of (Op4_spec oIf [e, eL (boolV t), badE]) rfl ?_ | refine aCallTU_of (Op4_spec oIf [e, eL (boolV t), badE]) (by simp [AV.pur]; rfl) ?_)
      try simp
      rw [runnellaw14_VmLazy_c9_eq]
      unfold runnellaw14_VmLazy_P9
      simp [w1]
      exact key (e3 e (eL (boolV t)) badE) _ (okL_etb t he) (by simp [boxX]) (by simp)
    · rw [runnellaw14_VmLazy_c9_eq]
      unfold runnellaw14_VmLazy_P9
      simp [w1]
      exact key e _ (okL_mono he) (by simp [boxX]) (by simp)
  · rw [runnellaw14_VmLazy_c24_eq]
    unfold runnellaw14_VmLazy_P24
    have hck := he.ck 0 (by omega) (by omega)
    have hsz := he.sz
    obtain ⟨r, hr, hof⟩ := evE_sound e T1 0 (intV n) T2 hck (of_intV n)
    have hrun := vmRun_spec (genKey e) (intV n) _ (genKey_run hck (of_intV n) he.we (wv_int n) (by omega) hr) (by have := genE_len e; simp [genKey, emitsI]; omega)
    have c1 := of4_spec he.we
    have c2 := genExprR_spec (ckE_OkG _ _ _ _ hck) (by omega)
    have c3 := to11_o (genE e) (by have := genE_len e; omega) (genE_wv e he.we)
    have c4 := Eval_spec e (intV n) he.we (wv_int n) r hr
    have c5 := EvalR_spec e (intV n) (ckE_ne _ _ _ _ hck) he.we (wv_int n) r hr
    simp only [encE_eta] at c1 c2 c4 c5
    simp [genKey, emitsI, encI_eta, oneI, oEmit, oRet] at hrun
    simp
    refine aCallW_of rfl rfl c1 ?_
    simp
    refine aCallW_of rfl rfl c2 ?_
    simp
    refine aCallW_of rfl rfl c3 ?_
    simp
    refine ⟨⟨encI7t _, by simp, by have := genE_len e; simp; omega⟩, ?_⟩
    refine aCallW_of rfl rfl (Int_spec n) ?_
    simp [intV]
    refine aCallW_of rfl rfl (by simpa [intV] using hrun) ?_
    have cI := Int_spec n
    have cV := V_spec n
    simp [intV] at cI cV c4 c5
    have hof' : (∃ b, r = .ok (boolV b)) ∨ ∃ f, r = .er f ∧ f ≠ 0 := by
      cases r with
      | ok v => obtain ⟨b, hb⟩ := (of_kind hof rfl).2.1 rfl; exact .inl ⟨b, by rw [hb]⟩
      | er f => exact .inr ⟨f, rfl, hof⟩
    rcases hof' with ⟨b, rfl⟩ | ⟨f, rfl, hf⟩
    · simp [oneR, runR, boolV]
      refine aCallT_of rfl cI rfl ?_
      simp
      refine aCallT_of rfl c4 (by simp [twoR, AV.pur, toTs]; rfl) ?_
      simp [twoR, R.get, R.num, boolV]
      refine aCallW_of rfl rfl c1 ?_
      simp
      refine aCallW_of rfl rfl cV ?_
      simp
      refine aCallW_of rfl rfl c5 ?_
      simp [twoR, R.get, R.num, boolV]
      refine ⟨by simp [maxLen], ?_⟩
      simp [aRes, tupOf]
      exact gives_p rfl
    · simp [oneR, runR]
      refine aCallT_of rfl cI rfl ?_
      simp
      refine aCallT_of rfl c4 (by simp [twoR, AV.pur, toTs]; rfl) ?_
      simp [twoR, R.get, R.num]
      refine aCallW_of rfl rfl c1 ?_
      simp
      refine aCallW_of rfl rfl cV ?_
      simp
      refine aCallW_of rfl rfl c5 ?_
      simp [twoR, R.get, R.num, hf]
      simp [aRes, tupOf]
      exact gives_p rfl

end Go.Proofs.Ytjendohiohhciaa
