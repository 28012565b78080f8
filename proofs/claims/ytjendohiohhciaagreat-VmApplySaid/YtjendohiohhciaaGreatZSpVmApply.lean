/- The law VmApply. -/
import Derived.Test.YtjendohiohhciaaGreatZPuApply
import Derived.Test.YtjendohiohhciaaGreatZSpApply
import Derived.Test.YtjendohiohhciaaGreatZSpLaw14
import Derived.Test.YtjendohiohhciaaGreatZSpSame
import Derived.Test.YtjendohiohhciaaGreatZSpLaw6
set_option linter.unusedSimpArgs false
set_option linter.unusedVariables false
namespace Go.Proofs.YtjendohiohhciaaGreat
open Go Go.Abs

attribute [local irreducible] Abs.Fn

theorem genOf_len (k : Int) (es : List Ex) : (genOf k es).length ≤ 4 * sizeEs es + 4 := by
  have h1 := genEs_len es
  have h2 : (joinI (genEs es)).length = ((genEs es).map List.length).sum := joinI_length _
  unfold genOf
  split
  · simp [emitsI]; omega
  · split
    · simp [emitsI]; omega
    · simp [emitsI]

theorem runR_pur (r : R (List Va)) : (runR r).pur = some (runR r) := by cases r <;> rfl

set_option maxRecDepth 100000 in
set_option maxHeartbeats 1000000 in
theorem VmApply_spec (o : Opr) (x : Va) : Abs.Fn Tryz.prog runnellaw14_VmApply_i [] [.p (encO o), .p (encV x)] (.p (.bool true)) [] := by
  have hfew := few7_spec o
  have hgood := good2_spec x
  apply runnellaw14_VmApply_fn
  simp only [encO_eta, encV_eta] at hfew hgood
  simp [runnellaw14_VmApply]
  refine aCallW_of rfl rfl known14 ?_
  simp
  refine aCallW_of rfl rfl hfew ?_
  simp
  refine aMerge_intro (!goodV x) (fun _ => ?_) ?_
  · refine aCallW_of rfl rfl hgood ?_
    simp
  simp
  refine ⟨fun _ => gives_p rfl, fun f1 f2 => ?_⟩
  obtain ⟨w1, w2, w3, w4⟩ := fewO_small f1
  have hwx : Wv 1000000000 x := by
    simp [goodV] at f2
    exact (fewV_small f2.1).mono (by omega)
  have hck : checkV x 0 = 0 := by
    simp [goodV] at f2
    exact f2.2
  have hof := of7_spec w1 w2.1 (fun e he => (w3 e he).1) (by omega)
  have ho2 := of2_spec hwx
  have hty := typeOfR_spec hwx
  simp only [encO_eta, encV_eta] at hof ho2 hty
  refine aCallW_of rfl rfl hof ?_
  simp
  refine aCallW_of rfl rfl ho2 ?_
  simp
  refine ⟨fun _ => gives_p rfl, fun hk1 hk2 => ?_⟩
  refine aCallT_of rfl hty (by simp [AV.pur]; rfl) ?_
  simp
  have hout := OutR_spec o [kindV x] (fun e he => ⟨(w3 e he).1, by have := (w3 e he).2; omega⟩) ⟨w2.1, by have := w2.2; omega⟩ (by omega)
  simp only [encO_eta, encT_eta, List.map_cons, List.map_nil] at hout
  refine aCallT_of rfl hout (by simp [tyR, AV.pur, toTs]; rfl) ?_
  cases hr : outO o [kindV x] with
  | er f =>
    have hf0 := outO_er hr
    simp [tyR, R.get, R.num, hf0]
    exact gives_p rfl
  | ok u =>
    obtain ⟨hff, hii, hk19, hall, hkey⟩ := outO_ok hr
    simp only [List.getD_cons_zero] at hall hkey
    have hokg : ∀ e ∈ o.es, OkG e := fun e he => by obtain ⟨_, h⟩ := hall e he; exact checkE_OkG h
    have hse : sizeEs o.es ≤ 8 * 400 := Nat.le_trans (sizeEs_le (fun e he => (w3 e he).2)) (Nat.mul_le_mul_right _ (by omega))
    have hkd := KeyedR_spec o
    simp only [encO_eta] at hkd
    simp [tyR, R.get, R.num]
    refine aCallW_of rfl rfl hkd ?_
    simp
    refine ⟨fun hk => ?_, fun hk => ?_⟩
    · obtain ⟨u', hu'⟩ := hkey hk
      obtain ⟨r, hr1, hr2⟩ := key_run hu' hck w2.1 hwx
      have c1 := GenKeyR_spec o (checkE_OkG hu') (by have := w2.2; omega)
      have hkl : (genKey o.key).length ≤ 100000 := by
        have := genE_len o.key
        have := w2.2
        simp [genKey, emitsI]
        omega
      have c2 := to11_spec (genKey o.key) (by omega) (genKey_wv w2.1)
      have c3 := vmRun_spec (genKey o.key) x _ hr2 (by omega)
      have c4 := EvalR_spec o.key x (ckE_ne _ _ _ _ (checkE_ck hu').1) w2.1 hwx r hr1
      simp only [encO_eta, encV_eta, encE_eta] at c1 c2 c3 c4
      refine aCallT_of rfl c1 rfl ?_
      simp
      refine aCallT_of rfl c2 rfl ?_
      simp [encPr]
      refine aCallT_of rfl c3 (runR_pur _) ?_
      cases r with
      | er f =>
        have hf0 := evE_er _ _ _ hr1
        simp [oneR, runR]
        refine aCallW_of rfl rfl c4 ?_
        simp [twoR, R.get, R.num, hf0]
        exact gives_p rfl
      | ok v =>
        have hwv := evE_wv (by omega) _ _ _ w2.1 hwx hr1
        have c5 := of2_spec hwv
        have c6 := SameR_spec v v
        simp only [encV_eta] at c5 c6
        simp [oneR, runR]
        refine aCallW_of rfl rfl c4 ?_
        simp [twoR, R.get, R.num]
        refine ⟨by simp [maxLen], ?_⟩
        refine aCallT_of rfl c5 rfl ?_
        simp
        refine aCallT_of rfl c6 rfl ?_
        simp [cmpV_self]
        exact gives_p rfl
    · have hk3 : o.k = 2 ∨ o.k = 3 ∨ o.k = 4 := by
        simp [keyedO] at hk
        omega
      obtain ⟨r, hr1, hr2⟩ := apply_run hall hck (fun e he => (w3 e he).1) hwx (by omega) hk3 (fun h => (fieldsO_len hff).1 (by omega))
      have c1 := GenR_spec o hokg (by omega) (fieldsO_len hff).1
      have hgl := genOf_len o.k o.es
      have c2 := to11_spec (genOf o.k o.es) (by omega) (genOf_wv (fun e he => (w3 e he).1))
      have c3 := vmRun_spec (genOf o.k o.es) x _ hr2 (by omega)
      have c4 := ApplyR_spec o x r hr1 (fun e he => ⟨by obtain ⟨u, hu⟩ := hall e he; exact ckE_ne _ _ _ _ (checkE_ck hu).1, (w3 e he).1⟩) hwx (by omega) (fun h => (fieldsO_len hff).1 (by omega))
      simp only [encO_eta, encV_eta] at c1 c2 c3 c4
      refine aCallT_of rfl c1 rfl ?_
      simp
      refine aCallT_of rfl c2 rfl ?_
      simp [encPr]
      refine aCallT_of rfl c3 (runR_pur _) ?_
      cases r with
      | er f =>
        have c5 := SameAll_spec [] [] (by simp)
        simp at c5
        simp [runR]
        refine aCallW_of rfl rfl c4 ?_
        simp [allR]
        refine aMerge_intro true (fun _ => ?_) (gives_p rfl)
        refine aCallW_of rfl rfl c5 ?_
        simp [sameVs]
      | ok l =>
        have c5 := SameAll_spec l l (apply_wv hr1 (fun e he => (w3 e he).1) hwx)
        simp [runR]
        refine aCallW_of rfl rfl c4 ?_
        simp [allR]
        refine aMerge_intro true (fun _ => ?_) (gives_p rfl)
        refine aCallW_of rfl rfl c5 ?_
        simp [sameVs_self]

end Go.Proofs.YtjendohiohhciaaGreat
