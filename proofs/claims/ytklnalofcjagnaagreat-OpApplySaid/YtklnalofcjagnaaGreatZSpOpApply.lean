/- The law OpApply. -/
import Derived.Test.YtklnalofcjagnaaGreatZSpLaw7
import Derived.Test.YtklnalofcjagnaaGreatZSpApply
import Derived.Test.YtklnalofcjagnaaGreatZSpOutO
import Derived.Test.YtklnalofcjagnaaGreatZSpSameV
set_option linter.unusedSimpArgs false
set_option linter.unusedVariables false
namespace Go.Proofs.YtklnalofcjagnaaGreat
open Go Go.Abs

attribute [local irreducible] Abs.Fn

theorem checkE_ck7 {e : Ex} {t u : Ty} (h : checkE e t = .ok u) : ckE e t 0 = .ok u := by
  unfold checkE at h
  split at h
  · simp at h
  · split at h
    · simp at h
    · exact h

theorem ckL_each7 {t : Ty} : ∀ {a : List Ex}, (∀ e ∈ a, ∃ u, checkE e t = .ok u) → ∃ us, ckL a t 0 = .ok us
  | [], _ => ⟨[], rfl⟩
  | e :: r, h => by
    obtain ⟨u, hu⟩ := h e (by simp)
    obtain ⟨us, hus⟩ := ckL_each7 (t := t) (a := r) (fun e he => h e (List.mem_cons_of_mem _ he))
    exact ⟨u :: us, by simp only [ckL, checkE_ck7 hu, hus]⟩

theorem applyO_some {o : Opr} {x : Va} (hes : ∀ e ∈ o.es, ∃ u, checkE e (kindV x) = .ok u) (hx : checkV x 0 = 0) : ∃ r, applyO o x = some r := by
  obtain ⟨us, hus⟩ := ckL_each7 hes
  obtain ⟨r, hr, hof⟩ := evL_sound o.es (kindV x) 0 x us hus ⟨hx, rfl⟩
  unfold applyO
  split
  · exact ⟨r, hr⟩
  · split
    · rw [hr]; cases r <;> exact ⟨_, rfl⟩
    · exact ⟨_, rfl⟩

theorem applyO_wv {o : Opr} {x : Va} {l : List Va} (h : applyO o x = some (.ok l)) (hwe : ∀ e ∈ o.es, We 1000000000 e) (hwx : Wv 1000000000 x) : ∀ v ∈ l, Wv 1000000000 v := by
  unfold applyO at h
  split at h
  · exact evL_wv (by omega) o.es x l hwe hwx h
  · have hone : ∀ v ∈ [x], Wv 1000000000 v := by simpa using hwx
    split at h
    · split at h
      · simp at h
      · simp at h
      · simp only [Option.some.injEq, R.ok.injEq] at h
        subst h
        split
        · exact hone
        · simp
    · simp only [Option.some.injEq, R.ok.injEq] at h
      subst h
      exact hone

theorem applyO_er {o : Opr} {x : Va} {f : Int} (h : applyO o x = some (.er f)) : f ≠ 0 := by
  have key : ∀ (a : List Ex) (f : Int), evL a x = some (.er f) → f ≠ 0 := by
    intro a
    induction a with
    | nil => intro f h; simp [evL] at h
    | cons e r ih =>
      intro f h
      simp only [evL] at h
      cases he : evE e x with
      | none => rw [he] at h; simp at h
      | some u =>
        rw [he] at h
        cases u with
        | er g => simp at h; exact h ▸ evE_er _ _ _ he
        | ok v =>
          simp only at h
          cases hr : evL r x with
          | none => rw [hr] at h; simp at h
          | some q =>
            rw [hr] at h
            cases q with
            | er g => simp at h; exact h ▸ ih _ hr
            | ok l => simp at h
  unfold applyO at h
  split at h
  · exact key _ _ h
  · split at h
    · split at h
      · simp at h
      · rename_i g hg; simp at h; exact h ▸ key _ _ hg
      · simp at h
    · simp at h

theorem toTs_two {t u : T} {a : AV} (h : a.toT = some u) : toTs [.p t, a] = some [t, u] := by
  have h0 : (AV.p t).toT = some t := rfl
  simp only [toTs, h0, h]

set_option maxRecDepth 100000 in
set_option maxHeartbeats 2000000 in
theorem opApply_a (o : Opr) (x : Va) (ins : List Ty) (a : AV) (hA : a.toT = some (.slice (ins.map encT))) (f1 : fewO o = true) (hwx : Wv 1000000000 x) (hck : checkV x 0 = 0) (h0 : o.k ≠ 1 → ins.getD 0 (.mk 0 []) = kindV x) :
    runnellaw7_OpApply_J2 (.bptr 0 0) (.bptr 1 0) (.bptr 2 0) a ([.box (boxP o), .box ((encV x).cells.map .p), .box ((encV x).cells.map .p)] ++ []) (fun v H' => Gives 0 v H' (.p (.bool true)) []) := by
  obtain ⟨w1, w2, w3, w4⟩ := fewO_small f1
  have hof := of7_spec w1 w2.1 (fun e he => (w3 e he).1) (by omega)
  have hout := OutR_spec o ins (fun e he => ⟨(w3 e he).1, by have := (w3 e he).2; omega⟩) ⟨w2.1, by have := w2.2; omega⟩ (by omega)
  have hkd := KeyedR_spec o
  have ho2 := of2_spec hwx
  simp only [encO_eta, encV_eta] at hof hout hkd ho2
  simp [runnellaw7_OpApply_J2]
  refine aCallW_of rfl rfl hof ?_
  simp
  refine aCallW_of rfl (toTs_two hA) hout ?_
  cases hr : outO o ins with
  | er f =>
    have hf0 := outO_er hr
    simp [tyR, R.get, R.num, hf0]
    exact gives_p rfl
  | ok u =>
    obtain ⟨hff, hii, hk19, hall, hkey⟩ := outO_ok hr
    have hesx : ∀ e ∈ o.es, ∃ u, checkE e (kindV x) = .ok u := by
      intro e he
      by_cases h1 : o.k = 1
      · rw [(fieldsO_len hff).2.2 (by omega) (by omega)] at he; simp at he
      · rw [← h0 h1]; exact hall e he
    obtain ⟨r, hr1⟩ := applyO_some hesx hck
    have h3 : o.k = 3 → o.es.length = 1 := fun h => (fieldsO_len hff).1 (by omega)
    have c1 := Apply7_spec o x r hr1 (fun e he => (w3 e he).1) hwx (by omega) h3
    have c2 := ApplyR_spec o x r hr1 (fun e he => ⟨by obtain ⟨u, hu⟩ := hesx e he; exact ckE_ne _ _ _ _ (checkE_ck7 hu), (w3 e he).1⟩) hwx (by omega) h3
    simp only [encO_eta, encV_eta] at c1 c2
    simp [tyR, R.get, R.num]
    have rest : ∀ (H : List Ob), H = [.box (boxP o), .box ((encV x).cells.map .p), .box ((encV x).cells.map .p)] ++ [] ++ [.box [.p (.int .i64 u.kind), .p (.slice (u.of.map encT))]] → True := fun _ _ => trivial
    refine aCallW_of rfl rfl c1 ?_
    cases r with
    | er f =>
      have hf0 := applyO_er hr1
      have c5 := SameAll_spec [] [] (by simp)
      simp at c5
      simp [allR]
      refine aCallT_of rfl hof rfl ?_
      simp
      refine aCallT_of rfl c2 (by simp [allR, AV.pur, toTs]; rfl) ?_
      simp [allR]
      refine aMerge_intro false (fun _ => ?_) ?_
      · refine aCallW_of rfl rfl c5 ?_
        simp [sameVs]
      simp
      refine aCallW_of rfl rfl hof ?_
      simp
      refine aCallW_of rfl rfl hkd ?_
      simp
      refine ⟨fun _ => gives_p rfl, fun hk => ?_⟩
      obtain ⟨u', hu'⟩ := hkey hk
      rw [h0 (by simp [keyedO] at hk; omega)] at hu'
      obtain ⟨rk, hrk, _⟩ := evE_sound o.key (kindV x) 0 x u' (checkE_ck7 hu') ⟨hck, rfl⟩
      have d1 := Key7_spec o x rk hrk w2.1 hwx
      have d2 := EvalR_spec o.key x (ckE_ne _ _ _ _ (checkE_ck7 hu')) w2.1 hwx rk hrk
      simp only [encO_eta, encV_eta, encE_eta] at d1 d2
      refine aCallW_of rfl rfl d1 ?_
      simp [twoR]
      refine aCallT_of rfl hof rfl ?_
      simp
      refine aCallT_of rfl d2 (by simp [twoR, AV.pur, toTs]; rfl) ?_
      simp [twoR]
      have hwk : Wv 1000000000 (rk.get zeroV) := by
        cases rk with
        | er f => simp [R.get]
        | ok v => exact evE_wv (by omega) _ _ _ w2.1 hwx hrk
      have d3 := of2_spec hwk
      have d4 := SameR_spec (rk.get zeroV) (rk.get zeroV)
      simp only [encV_eta] at d3 d4
      refine aCallT_of rfl d3 rfl ?_
      simp
      refine aCallT_of rfl d4 rfl ?_
      simp [cmpV_self]
      exact gives_p rfl
    | ok l =>
      have c5 := SameAll_spec l l (applyO_wv hr1 (fun e he => (w3 e he).1) hwx)
      simp [allR]
      refine aCallT_of rfl hof rfl ?_
      simp
      refine aCallT_of rfl c2 (by simp [allR, AV.pur, toTs]; rfl) ?_
      simp [allR]
      refine aMerge_intro false (fun _ => ?_) ?_
      · refine aCallW_of rfl rfl c5 ?_
        simp [sameVs_self]
      simp
      refine aCallW_of rfl rfl hof ?_
      simp
      refine aCallW_of rfl rfl hkd ?_
      simp
      refine ⟨fun _ => gives_p rfl, fun hk => ?_⟩
      obtain ⟨u', hu'⟩ := hkey hk
      rw [h0 (by simp [keyedO] at hk; omega)] at hu'
      obtain ⟨rk, hrk, _⟩ := evE_sound o.key (kindV x) 0 x u' (checkE_ck7 hu') ⟨hck, rfl⟩
      have d1 := Key7_spec o x rk hrk w2.1 hwx
      have d2 := EvalR_spec o.key x (ckE_ne _ _ _ _ (checkE_ck7 hu')) w2.1 hwx rk hrk
      simp only [encO_eta, encV_eta, encE_eta] at d1 d2
      refine aCallW_of rfl rfl d1 ?_
      simp [twoR]
      refine aCallT_of rfl hof rfl ?_
      simp
      refine aCallT_of rfl d2 (by simp [twoR, AV.pur, toTs]; rfl) ?_
      simp [twoR]
      have hwk : Wv 1000000000 (rk.get zeroV) := by
        cases rk with
        | er f => simp [R.get]
        | ok v => exact evE_wv (by omega) _ _ _ w2.1 hwx hrk
      have d3 := of2_spec hwk
      have d4 := SameR_spec (rk.get zeroV) (rk.get zeroV)
      simp only [encV_eta] at d3 d4
      refine aCallT_of rfl d3 rfl ?_
      simp
      refine aCallT_of rfl d4 rfl ?_
      simp [cmpV_self]
      exact gives_p rfl

set_option maxRecDepth 100000 in
set_option maxHeartbeats 2000000 in
theorem opApply_b (o : Opr) (x : Va) (ins : List Ty) (a : AV) (hA : a.toT = some (.slice (ins.map encT))) (f1 : fewO o = true) (hwx : Wv 1000000000 x) (hck : checkV x 0 = 0) (h0 : o.k ≠ 1 → ins.getD 0 (.mk 0 []) = kindV x) :
    runnellaw7_OpApply_J2 (.bptr 0 0) (.bptr 1 0) (.bptr 2 0) a ([.box (boxP o), .box ((encV x).cells.map .p), .box ((encV x).cells.map .p)] ++ [.row 2 2]) (fun v H' => Gives 0 v H' (.p (.bool true)) []) := by
  obtain ⟨w1, w2, w3, w4⟩ := fewO_small f1
  have hof := of7_spec w1 w2.1 (fun e he => (w3 e he).1) (by omega)
  have hout := OutR_spec o ins (fun e he => ⟨(w3 e he).1, by have := (w3 e he).2; omega⟩) ⟨w2.1, by have := w2.2; omega⟩ (by omega)
  have hkd := KeyedR_spec o
  have ho2 := of2_spec hwx
  simp only [encO_eta, encV_eta] at hof hout hkd ho2
  simp [runnellaw7_OpApply_J2]
  refine aCallW_of rfl rfl hof ?_
  simp
  refine aCallW_of rfl (toTs_two hA) hout ?_
  cases hr : outO o ins with
  | er f =>
    have hf0 := outO_er hr
    simp [tyR, R.get, R.num, hf0]
    exact gives_p rfl
  | ok u =>
    obtain ⟨hff, hii, hk19, hall, hkey⟩ := outO_ok hr
    have hesx : ∀ e ∈ o.es, ∃ u, checkE e (kindV x) = .ok u := by
      intro e he
      by_cases h1 : o.k = 1
      · rw [(fieldsO_len hff).2.2 (by omega) (by omega)] at he; simp at he
      · rw [← h0 h1]; exact hall e he
    obtain ⟨r, hr1⟩ := applyO_some hesx hck
    have h3 : o.k = 3 → o.es.length = 1 := fun h => (fieldsO_len hff).1 (by omega)
    have c1 := Apply7_spec o x r hr1 (fun e he => (w3 e he).1) hwx (by omega) h3
    have c2 := ApplyR_spec o x r hr1 (fun e he => ⟨by obtain ⟨u, hu⟩ := hesx e he; exact ckE_ne _ _ _ _ (checkE_ck7 hu), (w3 e he).1⟩) hwx (by omega) h3
    simp only [encO_eta, encV_eta] at c1 c2
    simp [tyR, R.get, R.num]
    have rest : ∀ (H : List Ob), H = [.box (boxP o), .box ((encV x).cells.map .p), .box ((encV x).cells.map .p)] ++ [.row 2 2] ++ [.box [.p (.int .i64 u.kind), .p (.slice (u.of.map encT))]] → True := fun _ _ => trivial
    refine aCallW_of rfl rfl c1 ?_
    cases r with
    | er f =>
      have hf0 := applyO_er hr1
      have c5 := SameAll_spec [] [] (by simp)
      simp at c5
      simp [allR]
      refine aCallT_of rfl hof rfl ?_
      simp
      refine aCallT_of rfl c2 (by simp [allR, AV.pur, toTs]; rfl) ?_
      simp [allR]
      refine aMerge_intro false (fun _ => ?_) ?_
      · refine aCallW_of rfl rfl c5 ?_
        simp [sameVs]
      simp
      refine aCallW_of rfl rfl hof ?_
      simp
      refine aCallW_of rfl rfl hkd ?_
      simp
      refine ⟨fun _ => gives_p rfl, fun hk => ?_⟩
      obtain ⟨u', hu'⟩ := hkey hk
      rw [h0 (by simp [keyedO] at hk; omega)] at hu'
      obtain ⟨rk, hrk, _⟩ := evE_sound o.key (kindV x) 0 x u' (checkE_ck7 hu') ⟨hck, rfl⟩
      have d1 := Key7_spec o x rk hrk w2.1 hwx
      have d2 := EvalR_spec o.key x (ckE_ne _ _ _ _ (checkE_ck7 hu')) w2.1 hwx rk hrk
      simp only [encO_eta, encV_eta, encE_eta] at d1 d2
      refine aCallW_of rfl rfl d1 ?_
      simp [twoR]
      refine aCallT_of rfl hof rfl ?_
      simp
      refine aCallT_of rfl d2 (by simp [twoR, AV.pur, toTs]; rfl) ?_
      simp [twoR]
      have hwk : Wv 1000000000 (rk.get zeroV) := by
        cases rk with
        | er f => simp [R.get]
        | ok v => exact evE_wv (by omega) _ _ _ w2.1 hwx hrk
      have d3 := of2_spec hwk
      have d4 := SameR_spec (rk.get zeroV) (rk.get zeroV)
      simp only [encV_eta] at d3 d4
      refine aCallT_of rfl d3 rfl ?_
      simp
      refine aCallT_of rfl d4 rfl ?_
      simp [cmpV_self]
      exact gives_p rfl
    | ok l =>
      have c5 := SameAll_spec l l (applyO_wv hr1 (fun e he => (w3 e he).1) hwx)
      simp [allR]
      refine aCallT_of rfl hof rfl ?_
      simp
      refine aCallT_of rfl c2 (by simp [allR, AV.pur, toTs]; rfl) ?_
      simp [allR]
      refine aMerge_intro false (fun _ => ?_) ?_
      · refine aCallW_of rfl rfl c5 ?_
        simp [sameVs_self]
      simp
      refine aCallW_of rfl rfl hof ?_
      simp
      refine aCallW_of rfl rfl hkd ?_
      simp
      refine ⟨fun _ => gives_p rfl, fun hk => ?_⟩
      obtain ⟨u', hu'⟩ := hkey hk
      rw [h0 (by simp [keyedO] at hk; omega)] at hu'
      obtain ⟨rk, hrk, _⟩ := evE_sound o.key (kindV x) 0 x u' (checkE_ck7 hu') ⟨hck, rfl⟩
      have d1 := Key7_spec o x rk hrk w2.1 hwx
      have d2 := EvalR_spec o.key x (ckE_ne _ _ _ _ (checkE_ck7 hu')) w2.1 hwx rk hrk
      simp only [encO_eta, encV_eta, encE_eta] at d1 d2
      refine aCallW_of rfl rfl d1 ?_
      simp [twoR]
      refine aCallT_of rfl hof rfl ?_
      simp
      refine aCallT_of rfl d2 (by simp [twoR, AV.pur, toTs]; rfl) ?_
      simp [twoR]
      have hwk : Wv 1000000000 (rk.get zeroV) := by
        cases rk with
        | er f => simp [R.get]
        | ok v => exact evE_wv (by omega) _ _ _ w2.1 hwx hrk
      have d3 := of2_spec hwk
      have d4 := SameR_spec (rk.get zeroV) (rk.get zeroV)
      simp only [encV_eta] at d3 d4
      refine aCallT_of rfl d3 rfl ?_
      simp
      refine aCallT_of rfl d4 rfl ?_
      simp [cmpV_self]
      exact gives_p rfl

set_option maxRecDepth 100000 in
set_option maxHeartbeats 2000000 in
theorem OpApply_spec (o : Opr) (x : Va) : Abs.Fn Tryz.prog runnellaw7_OpApply_i [] [.p (encO o), .p (encV x)] (.p (.bool true)) [] := by
  have hfew := few7_spec o
  have hgood := good2_spec x
  apply runnellaw7_OpApply_fn
  simp only [encO_eta, encV_eta] at hfew hgood
  simp [runnellaw7_OpApply]
  refine aCallW_of rfl rfl known7_spec ?_
  simp
  refine aCallW_of rfl rfl hfew ?_
  simp
  refine aMerge_intro (!goodV x) (fun _ => ?_) ?_
  · refine aCallW_of rfl rfl hgood ?_
    simp
  simp
  refine ⟨fun _ => gives_p rfl, fun f1 f2 => ?_⟩
  have hwx : Wv 1000000000 x := by
    simp [goodV] at f2
    exact (fewV_small f2.1).mono (by omega)
  have hck : checkV x 0 = 0 := by
    simp [goodV] at f2
    exact f2.2
  have ho2 := of2_spec hwx
  have hty := typeOfR_spec hwx
  simp only [encV_eta] at ho2 hty
  refine aCallW_of rfl rfl ho2 ?_
  simp
  refine aCallW_of rfl rfl hty ?_
  simp
  refine ⟨fun h8 => ?_, fun n8 => ?_⟩
  · refine ⟨by simp [appendable], ?_⟩
    have h := opApply_b o x [kindV x, kindV x] (.own 3 [encT (kindV x), encT (kindV x)]) rfl f1 hwx hck (fun _ => rfl)
    simp at h
    simp [runnellaw7_OpApply_J1, h8]
    simp [h8] at h
    exact h
  · simp [runnellaw7_OpApply_J1]
    refine ⟨fun h1 => ?_, fun h1 => ?_⟩
    · have h := opApply_a o x [] (.full []) rfl f1 hwx hck (fun h => absurd h1 h)
      simp at h
      exact h
    · have h := opApply_a o x [kindV x] (.full [encT (kindV x)]) rfl f1 hwx hck (fun _ => rfl)
      simp at h
      exact h

end Go.Proofs.YtklnalofcjagnaaGreat
