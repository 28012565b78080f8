/- The law VmFused. -/
import Derived.Test.YtjendohiohhciaaZPuFused
import Derived.Test.YtjendohiohhciaaZSpTo
import Derived.Test.YtjendohiohhciaaZSpLaw14
import Derived.Test.YtjendohiohhciaaZSpLaw12
import Derived.Test.YtjendohiohhciaaZSpGenAny
set_option linter.unusedSimpArgs false
set_option linter.unusedVariables false
namespace Go.Proofs.Ytjendohiohhciaa
open Go Go.Abs

attribute [local irreducible] Abs.Fn

theorem genOf_len (k : Int) (es : List Ex) : (genOf k es).length ≤ 4 * sizeEs es + 4 := by
  have h1 := genEs_len es
  have h2 : (joinI (genEs es)).length = ((genEs es).map List.length).sum := joinI_length _
  unfold genOf
  split
  · simp [emitsI]; omega
  · split
    · simp [emitsI]; omega
    · simp [emitsI]

theorem made_spec (o : Opr) (ht : Wd 1000000000 o.t) (hk : We 1000000000 o.key) (hes : ∀ e ∈ o.es, We 1000000000 e) (hl : o.es.length ≤ 1000000) (hok : ∀ e ∈ o.es, OkG e) (hs : sizeEs o.es ≤ 100000) (h1 : o.k = 2 ∨ o.k = 3 ∨ o.k = 5 → o.es.length = 1) :
    Abs.Fn Try.prog runnellaw14_made_i [] [.p (encO o)] (.p (encPr (genOf o.k o.es))) [] := by
  have c1 := of7_spec ht hk hes hl
  have c2 := GenR_spec o hok hs h1
  have c3 := to11_spec (genOf o.k o.es) (by have := genOf_len o.k o.es; omega) (genOf_wv hes)
  simp only [encO_eta] at c1 c2
  apply runnellaw14_made_fn
  simp [runnellaw14_made]
  refine aCallW_of rfl rfl c1 ?_
  simp
  refine aCallW_of rfl rfl c2 ?_
  simp
  refine aCallW_of rfl rfl c3 ?_
  exact gives_p rfl

theorem okx : OkG eX := xE_ok
theorem okl (v : Va) : OkG (eL v) := litE_ok v
theorem ok2 {op : List UInt8} {a b : Ex} (h : op ≠ oJmp ∧ op ≠ oJf ∧ op ≠ oAt ∧ op ≠ oIf) (ha : OkG a) (hb : OkG b) : OkG (e2 op a b) := by
  simp [OkG_iff, ha, hb, h]

/-- An operator of expressions alone. -/
abbrev opK (k : Int) (es : List Ex) : Opr := ⟨k, [], .mk 0 [], es, zeroE, 0, 0⟩

theorem madeK {k : Int} {es : List Ex} (hes : ∀ e ∈ es, We 1000000000 e ∧ OkG e) (hl : es.length ≤ 1000000) (hs : sizeEs es ≤ 100000) (h1 : k = 2 ∨ k = 3 ∨ k = 5 → es.length = 1) :
    Abs.Fn Try.prog runnellaw14_made_i [] [.p (encO (opK k es))] (.p (encPr (genOf k es))) [] :=
  made_spec (opK k es) (.mk _ _ (by simp) (by simp)) (.mk _ _ _ _ (by simp) (by simp) (by simp)) (fun e he => (hes e he).1) hl (fun e he => (hes e he).2) hs h1

theorem mF (a : Int) : Abs.Fn Try.prog runnellaw14_made_i [] [.p (encO (opK 4 (fE a)))] (.p (encPr (fP a))) [] := by
  refine madeK ?_ (by simp) (by simp [sizeEs, sizeE]) (by simp)
  intro e he
  simp only [List.mem_cons, List.not_mem_nil, or_false] at he
  rcases he with rfl | rfl
  · exact ⟨we_x, okx⟩
  · exact ⟨we_2 we_x (we_l (wv_int _)), ok2 (by decide) okx (okl _)⟩
theorem mG (b : Int) : Abs.Fn Try.prog runnellaw14_made_i [] [.p (encO (opK 3 (gE b)))] (.p (encPr (gP b))) [] := by
  refine madeK ?_ (by simp) (by simp [sizeEs, sizeE]) (by simp)
  intro e he
  simp only [List.mem_cons, List.not_mem_nil, or_false] at he
  subst he
  exact ⟨we_2 we_x (we_l (wv_int _)), ok2 (by decide) okx (okl _)⟩
theorem mH : Abs.Fn Try.prog runnellaw14_made_i [] [.p (encO (opK 2 hE))] (.p (encPr hP)) [] := by
  refine madeK ?_ (by simp) (by simp [sizeEs, sizeE]) (by simp)
  intro e he
  simp only [List.mem_cons, List.not_mem_nil, or_false] at he
  subst he
  exact ⟨we_2 (we_l (wv_int _)) we_x, ok2 (by decide) (okl _) okx⟩

/-- What is wanted of the first so many, what misses. -/
def wantK (b x a : Int) (k : Nat) : List Int := (List.range k).flatMap fun j : Nat => fOut b (x + j * a)
def badK (b x a : Int) (k : Nat) : List (Nat × Va) := (List.range k).flatMap fun j : Nat => fMiss b (x + j * a)
theorem wantK_succ (b x a : Int) (k : Nat) : wantK b x a (k + 1) = wantK b x a k ++ fOut b (x + k * a) := by simp [wantK, List.range_succ]
theorem badK_succ (b x a : Int) (k : Nat) : badK b x a (k + 1) = badK b x a k ++ fMiss b (x + k * a) := by simp [badK, List.range_succ]
theorem badK_all (b x a : Int) (k : Nat) : ∀ q ∈ badK b x a k, q = (2, intV 0) := by
  intro q hq
  simp only [badK, List.mem_flatMap] at hq
  obtain ⟨j, _, hq⟩ := hq
  unfold fMiss at hq
  split at hq
  · split at hq
    · simpa using hq
    · simp at hq
  · simp at hq
theorem fOut_len (b y : Int) : (fOut b y).length ≤ 1 := by unfold fOut; repeat' split
                                                           all_goals simp
theorem fMiss_len (b y : Int) : (fMiss b y).length ≤ 1 := by unfold fMiss; repeat' split
                                                             all_goals simp
theorem want2 (b x a : Int) : wantK b x a 2 = fOut b x ++ fOut b (x + a) := by simp [wantK, List.range_succ]
theorem bad2 (b x a : Int) : badK b x a 2 = fMiss b x ++ fMiss b (x + a) := by simp [badK, List.range_succ]
theorem wantK_len (b x a : Int) (k : Nat) : (wantK b x a k).length ≤ k := by
  induction k with
  | zero => simp [wantK]
  | succ k ih => rw [wantK_succ]; have := fOut_len b (x + k * a); simp; omega
theorem badK_len (b x a : Int) (k : Nat) : (badK b x a k).length ≤ k := by
  induction k with
  | zero => simp [badK]
  | succ k ih => rw [badK_succ]; have := fMiss_len b (x + k * a); simp; omega

theorem VmFused_spec (l : List Int) (a b : Int) (hl : ∀ x ∈ l, -128 ≤ x ∧ x ≤ 127) (ha : -128 ≤ a ∧ a ≤ 127) (hb : -128 ≤ b ∧ b ≤ 127) :
    Abs.Fn Try.prog runnellaw14_VmFused_i [] [.p (.slice (l.map (.int .i8))), .p (.int .i8 a), .p (.int .i8 b)] (.p (.bool true)) [] := by
  have wa : IntKind.i64.wrap a = a := IntWalk.i64_in _ (by omega)
  have wb : IntKind.i64.wrap b = b := IntWalk.i64_in _ (by omega)
  have c1 := mF a
  have c2 := mG b
  have c3 := mH
  have x1 := X_spec
  have l1 := fun v => Lit_spec v
  have o1 := fun op a => Op4_spec op a
  apply runnellaw14_VmFused_fn
  simp [runnellaw14_VmFused, wa, wb]
  (first | refine aCall_fold rfl ?_ | refine aCallT_fold rfl ?_)
  (first | refine aCallU_p (known14) ?_ | refine aCallTU_p (known14) ?_ | refine aCallU_of (known14) ?_ | refine aCallTU_of (known14) rfl ?_ | refine aCallTU_of (known14) (by simp [AV.pur]; rfl) ?_)
  try simp
  intro hml
  refine ⟨fun _ => gives_p rfl, fun h40 => ?_⟩
  (first | refine aCall_fold rfl ?_ | refine aCallT_fold rfl ?_)
  (first | refine aCallU_p (X_spec) ?_ | refine aCallTU_p (X_spec) ?_ | refine aCallU_of (X_spec) ?_ | refine aCallTU_of (X_spec) rfl ?_ | refine aCallTU_of (X_spec) (by simp [AV.pur]; rfl) ?_)
  try simp [wa, wb]
  (first | refine aCall_fold rfl ?_ | refine aCallT_fold rfl ?_)
  (first | refine aCallU_p (X_spec) ?_ | refine aCallTU_p (X_spec) ?_ | refine aCallU_of (X_spec) ?_ | refine aCallTU_of (X_spec) rfl ?_ | refine aCallTU_of (X_spec) (by simp [AV.pur]; rfl) ?_)
  try simp [wa, wb]
  (first | refine aCall_fold rfl ?_ | refine aCallT_fold rfl ?_)
  (first | refine aCallU_p (Int_spec a) ?_ | refine aCallTU_p (Int_spec a) ?_ | refine aCallU_of (Int_spec a) ?_ | refine aCallTU_of (Int_spec a) rfl ?_ | refine aCallTU_of (Int_spec a) (by simp [AV.pur]; rfl) ?_)
  try simp [wa, wb]
  (first | refine aCall_fold rfl ?_ | refine aCallT_fold rfl ?_)
  (first | refine aCallU_p (Lit_spec (intV a)) ?_ | refine aCallTU_p (Lit_spec (intV a)) ?_ | refine aCallU_of (Lit_spec (intV a)) ?_ | refine aCallTU_of (Lit_spec (intV a)) rfl ?_ | refine aCallTU_of (Lit_spec (intV a)) (by simp [AV.pur]; rfl) ?_)
  try simp [wa, wb]
  (first | refine aCall_fold rfl ?_ | refine aCallT_fold rfl ?_)
  (first | refine aCallU_p (Op4_spec oAdd [eX, eL (intV a)]) ?_ | refine aCallTU_p (Op4_spec oAdd [eX, eL (intV a)]) ?_ | refine aCallU_of (Op4_spec oAdd [eX, eL (intV a)]) ?_ | refine aCallTU_of (Op4_spec oAdd [eX, eL (intV a)]) rfl ?_ | refine aCallTU_of (Op4_spec oAdd [eX, eL (intV a)]) (by simp [AV.pur]; rfl) ?_)
  try simp [wa, wb]
  refine aCallW_of rfl rfl (by simpa using c1) ?_
  simp [wa, wb]
  (first | refine aCall_fold rfl ?_ | refine aCallT_fold rfl ?_)
  (first | refine aCallU_p (X_spec) ?_ | refine aCallTU_p (X_spec) ?_ | refine aCallU_of (X_spec) ?_ | refine aCallTU_of (X_spec) rfl ?_ | refine aCallTU_of (X_spec) (by simp [AV.pur]; rfl) ?_)
  try simp [wa, wb]
  (first | refine aCall_fold rfl ?_ | refine aCallT_fold rfl ?_)
  (first | refine aCallU_p (Int_spec b) ?_ | refine aCallTU_p (Int_spec b) ?_ | refine aCallU_of (Int_spec b) ?_ | refine aCallTU_of (Int_spec b) rfl ?_ | refine aCallTU_of (Int_spec b) (by simp [AV.pur]; rfl) ?_)
  try simp [wa, wb]
  (first | refine aCall_fold rfl ?_ | refine aCallT_fold rfl ?_)
  (first | refine aCallU_p (Lit_spec (intV b)) ?_ | refine aCallTU_p (Lit_spec (intV b)) ?_ | refine aCallU_of (Lit_spec (intV b)) ?_ | refine aCallTU_of (Lit_spec (intV b)) rfl ?_ | refine aCallTU_of (Lit_spec (intV b)) (by simp [AV.pur]; rfl) ?_)
  try simp [wa, wb]
  (first | refine aCall_fold rfl ?_ | refine aCallT_fold rfl ?_)
  (first | refine aCallU_p (Op4_spec oLt [eX, eL (intV b)]) ?_ | refine aCallTU_p (Op4_spec oLt [eX, eL (intV b)]) ?_ | refine aCallU_of (Op4_spec oLt [eX, eL (intV b)]) ?_ | refine aCallTU_of (Op4_spec oLt [eX, eL (intV b)]) rfl ?_ | refine aCallTU_of (Op4_spec oLt [eX, eL (intV b)]) (by simp [AV.pur]; rfl) ?_)
  try simp [wa, wb]
  refine aCallW_of rfl rfl (by simpa using c2) ?_
  simp [wa, wb]
  (first | refine aCall_fold rfl ?_ | refine aCallT_fold rfl ?_)
  (first | refine aCallU_p (Int_spec 1000) ?_ | refine aCallTU_p (Int_spec 1000) ?_ | refine aCallU_of (Int_spec 1000) ?_ | refine aCallTU_of (Int_spec 1000) rfl ?_ | refine aCallTU_of (Int_spec 1000) (by simp [AV.pur]; rfl) ?_)
  try simp [wa, wb]
  (first | refine aCall_fold rfl ?_ | refine aCallT_fold rfl ?_)
  (first | refine aCallU_p (Lit_spec (intV 1000)) ?_ | refine aCallTU_p (Lit_spec (intV 1000)) ?_ | refine aCallU_of (Lit_spec (intV 1000)) ?_ | refine aCallTU_of (Lit_spec (intV 1000)) rfl ?_ | refine aCallTU_of (Lit_spec (intV 1000)) (by simp [AV.pur]; rfl) ?_)
  try simp [wa, wb]
  (first | refine aCall_fold rfl ?_ | refine aCallT_fold rfl ?_)
  (first | refine aCallU_p (X_spec) ?_ | refine aCallTU_p (X_spec) ?_ | refine aCallU_of (X_spec) ?_ | refine aCallTU_of (X_spec) rfl ?_ | refine aCallTU_of (X_spec) (by simp [AV.pur]; rfl) ?_)
  try simp [wa, wb]
  (first | refine aCall_fold rfl ?_ | refine aCallT_fold rfl ?_)
  (first | refine aCallU_p (Op4_spec oDiv [eL (intV 1000), eX]) ?_ | refine aCallTU_p (Op4_spec oDiv [eL (intV 1000), eX]) ?_ | refine aCallU_of (Op4_spec oDiv [eL (intV 1000), eX]) ?_ | refine aCallTU_of (Op4_spec oDiv [eL (intV 1000), eX]) rfl ?_ | refine aCallTU_of (Op4_spec oDiv [eL (intV 1000), eX]) (by simp [AV.pur]; rfl) ?_)
  try simp [wa, wb]
  refine aCallW_of rfl rfl (by simpa using c3) ?_
  simp [wa, wb]
  refine loop_by (σ := Nat) (n := 0) (fun i => [.p (.int .i64 i)]) (fun _ => []) (fun i => i ≤ l.length) (fun i => l.length - i) [] 0 (fun _ => rfl) (by simp [ghosts]) (by simp) (fun i B hi hB => ?_)
  simp [runnellaw14_VmFused_L1]
  intro _
  refine ⟨fun hlt => ?_, fun hge => gives_p rfl⟩
  have hx := hl l[i] (by simp)
  simp [hlt]
  generalize hxx : l[i] = x at hx
  have wx : IntKind.i64.wrap x = x := IntWalk.i64_in _ (by omega)
  have wxa : w64 (x + a) = x + a := IntWalk.i64_in _ (by omega)
  have hch := Chain_spec [fP a, gP b, hP] (by simp) (okLen_all _) (intV x) _ _ (fused_run a b x) (by have := fOut_len b x; have := fOut_len b (w64 (x + a)); simp; omega) (by have := fMiss_len b x; have := fMiss_len b (w64 (x + a)); simp; omega)
  rw [wxa, ← want2, ← bad2] at hch
  simp only [wx]
  (first | refine aCall_fold rfl ?_ | refine aCallT_fold rfl ?_)
  (first | refine aCallU_p (Int_spec x) ?_ | refine aCallTU_p (Int_spec x) ?_ | refine aCallU_of (Int_spec x) ?_ | refine aCallTU_of (Int_spec x) rfl ?_ | refine aCallTU_of (Int_spec x) (by simp [AV.pur]; rfl) ?_)
  try simp
  refine aCallW_of rfl rfl (by simpa [encPr] using hch) ?_
  simp
  simp only [wx]
  refine loop_by (σ := Nat) (n := 1) (fun k => [.own 0 ((wantK b x a k).map (.int .i64)), .p (.int .i64 (badK b x a k).length), .p (.int .i64 k)]) (fun k => [.row (wantK b x a k).length 1]) (fun k => k ≤ 2) (fun k => 2 - k) [.slot 0 1] 0 (fun _ => rfl) (by simp [ghosts, ghost, wantK, badK]) (by simp) (fun k B2 hk hB2 => ?_)
  have w1 : IntKind.i64.wrap ((k : Int) * a) = (k : Int) * a := by
    rcases (by omega : k = 0 ∨ k = 1 ∨ k = 2) with rfl | rfl | rfl <;> exact IntWalk.i64_in _ (by omega)
  have w2 : IntKind.i64.wrap (x + (k : Int) * a) = x + (k : Int) * a := by
    rcases (by omega : k = 0 ∨ k = 1 ∨ k = 2) with rfl | rfl | rfl <;> exact IntWalk.i64_in _ (by omega)
  have w3 : IntKind.i64.wrap ((k : Int) + 1) = ((k + 1 : Nat) : Int) := by rw [IntWalk.i64_in _ (by omega)]; push_cast; rfl
  have hbl := badK_len b x a k
  have hwl := wantK_len b x a k
  have w4 : IntKind.i64.wrap (((badK b x a k).length : Int) + 1) = (((badK b x a k).length + 1 : Nat) : Int) := by rw [IntWalk.i64_in _ (by omega)]; push_cast; rfl
  have hws := wantK_succ b x a k
  have hbs := badK_succ b x a k
  simp [runnellaw14_VmFused_L2, wa, wb, w1, w2, w3, w4]
  generalize hy : x + (k : Int) * a = y at *
  refine ⟨fun hlt2 => ?_, fun hge => ?_⟩
  · have key := fun H2 h1 h2 => hB2 (k + 1) H2 (by omega) (by omega) h1 (by rw [h1]; simp [Ob.below]) h2 (by simp [AV.under, AV.under1])
    rw [hws, hbs] at key
    refine ⟨fun hby => ?_, fun hyb => ⟨fun hy0 => ?_, fun hy0 => ?_⟩⟩
    · have := key [.row (wantK b x a k).length 1] (by simp [fOut, Int.not_lt.2 hby]) (by simp)
      simpa [fOut, fMiss, Int.not_lt.2 hby] using this
    · have := key [.row (wantK b x a k).length 1] (by simp [fOut, hyb, hy0]) (by simp)
      have hb0 : 0 < b := by omega
      simpa [fOut, fMiss, hyb, hy0, hb0] using this
    · have := key [.row ((wantK b x a k).length + 1) 1] (by simp [fOut, hyb, hy0]) (by simp)
      refine ⟨hy0, ⟨by simp, by simp, by simp; omega⟩, ?_⟩
      simpa [fOut, fMiss, hyb, hy0] using this
  · have hk2 : k = 2 := by omega
    subst hk2
    clear hB2
    intro m1 _
    refine ⟨fun h => absurd h (by simp), fun _ _ => ?_⟩
    have hall := badK_all b x a 2
    generalize wantK b x a 2 = W at *
    generalize badK b x a 2 = M at *
    refine loop_by (σ := Nat) (n := 1) (fun j => [.p (.int .i64 j)]) (fun _ => [.row W.length 1]) (fun j => j ≤ W.length) (fun j => W.length - j) [] 0 (fun _ => rfl) (by simp [ghosts]) (by simp) (fun j B3 hj hB3 => ?_)
    have w5 : IntKind.i64.wrap ((j : Int) + 1) = ((j + 1 : Nat) : Int) := by rw [IntWalk.i64_in _ (by omega)]; push_cast; rfl
    simp [runnellaw14_VmFused_L3, m1, w5]
    refine ⟨fun hjl => ?_, fun hjl => ?_⟩
    · simp [hjl, List.getElem?_eq_getElem hjl, intV]
      have := hB3 (j + 1) [.row W.length 1] (by omega) (by omega) (by simp) (by simp [Ob.below]) (by simp) (by simp [AV.under, AV.under1])
      simpa using this
    · clear hB3
      refine loop_by (σ := Nat) (n := 1) (fun j => [.p (.int .i64 j)]) (fun _ => [.row W.length 1]) (fun j => j ≤ M.length) (fun j => M.length - j) [] 0 (fun _ => rfl) (by simp [ghosts]) (by simp) (fun j B4 hj4 hB4 => ?_)
      have w6 : IntKind.i64.wrap ((j : Int) + 1) = ((j + 1 : Nat) : Int) := by rw [IntWalk.i64_in _ (by omega)]; push_cast; rfl
      have m2 : M.length ≤ maxLen := Nat.le_trans hbl (by simp [maxLen])
      simp [runnellaw14_VmFused_L4, m2, w6]
      refine ⟨fun hjm => ?_, fun hjm => ?_⟩
      · have he := hall M[j] (by simp)
        simp [hjm, List.getElem?_eq_getElem hjm, he, encM, intV]
        have := hB4 (j + 1) [.row W.length 1] (by omega) (by omega) (by simp) (by simp [Ob.below]) (by simp) (by simp [AV.under, AV.under1])
        simpa using this
      · have w7 : IntKind.i64.wrap ((i : Int) + 1) = ((i + 1 : Nat) : Int) := by rw [IntWalk.i64_in _ (by omega)]; push_cast; rfl
        simp only [w7]
        exact hB (i + 1) [.row W.length 1] (by omega) (by omega) (by simp) (by simp) (by simp) (by simp [AV.under, AV.under1])

theorem VmFused_row (l : List Int) (a b : Int) (hl : ∀ x ∈ l, -128 ≤ x ∧ x ≤ 127) (ha : -128 ≤ a ∧ a ≤ 127) (hb : -128 ≤ b ∧ b ≤ 127) :
    Abs.Fn Try.prog runnellaw14_VmFused_i [] [.p (.slice (l.map (.int .i8))), .p (.int .i8 a), .p (.int .i8 b)] (.p (.bool true)) [] := VmFused_spec l a b hl ha hb

end Go.Proofs.Ytjendohiohhciaa
