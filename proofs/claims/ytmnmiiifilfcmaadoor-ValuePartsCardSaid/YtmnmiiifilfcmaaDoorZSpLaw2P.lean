/- The law of a tuple's parts. -/
import Derived.Test.YtmnmiiifilfcmaaDoorZSpLaw2
import Derived.Test.YtmnmiiifilfcmaaDoorS2
import Derived.Test.YtmnmiiifilfcmaaDoorA3
set_option linter.unusedSimpArgs false
set_option linter.unusedVariables false
namespace Go.Proofs.YtmnmiiifilfcmaaDoor
open Go Go.Abs

attribute [local irreducible] Abs.Fn

theorem cmpVs_self (l : List Va) : cmpVs l l = 0 := (cmpVs_zero l l).2 rfl

theorem cmpVs_set (v : Va) : ∀ (l : List Va) (k : Nat) (h : k < l.length), cmpVs l (l.set k v) = cmpV l[k] v
  | x :: r, 0, h => by
    simp [cmpVs, cmpVs_self]
    intro h2; exact h2.symm
  | x :: r, k + 1, h => by
    simp [cmpVs, cmpV_self]
    exact cmpVs_set v r k (by simpa using h)

theorem cmpVs_snoc (v : Va) : ∀ l : List Va, cmpVs l (l ++ [v]) = -1
  | [] => by simp [cmpVs]
  | x :: r => by simp [cmpVs, cmpV_self, cmpVs_snoc v r]

theorem cmpVs_snoc' (v : Va) : ∀ l : List Va, cmpVs (l ++ [v]) l = 1
  | [] => by simp [cmpVs]
  | x :: r => by simp [cmpVs, cmpV_self, cmpVs_snoc' v r]

theorem cmpV_tup (a b : List Va) : cmpV (tupV a) (tupV b) = cmpVs a b := by
  simp [tupV, cmpV, orI, cmpI, cmpS_zero.2 rfl]

theorem ValueParts_spec (l : List Va) (m : Int) (v : Va) (hm : 0 ≤ m ∧ m ≤ 255) : Abs.Fn Tryd.prog runnellaw2_ValueParts_i [] [.p (.slice (l.map encV)), .p (.int .u8 m), .p (encV v)] (.p (.bool true)) [] := by
  refine fn_mode (fn_intro mixed runnellaw2_ValueParts_ann (fn := Tryd.f5) (by kernel_rfl) (by kernel_rfl) ?_)
  rw [runnellaw2_ValueParts_eq]
  unfold runnellaw2_ValueParts_P0
  simp
  rw [runnellaw2_ValueParts_c1_eq]
  unfold runnellaw2_ValueParts_P1
  simp
  (first | refine aCall_fold rfl ?_ | refine aCallT_fold rfl ?_)
  (first | refine aCallU_p (known2_spec) ?_ | refine aCallTU_p (known2_spec) ?_ | refine aCallU_of (known2_spec) ?_ | refine aCallTU_of (known2_spec) rfl ?_ | refine aCallTU_of (known2_spec) (by simp [AV.pur]; rfl) ?_)
  try simp
  rw [runnellaw2_ValueParts_c3_eq]
  unfold runnellaw2_ValueParts_P3
  simp
  intro _
  refine aMerge_intro (!goodV v) (fun _ => ?_) ?_
  · (first | refine aCall_fold rfl ?_ | refine aCallT_fold rfl ?_)
    (first | refine aCallU_p (good2_spec v) ?_ | refine aCallTU_p (good2_spec v) ?_ | refine aCallU_of (good2_spec v) ?_ | refine aCallTU_of (good2_spec v) rfl ?_ | refine aCallTU_of (good2_spec v) (by simp [AV.pur]; rfl) ?_)
    try simp
  simp
  refine ⟨fun _ => ?_, fun h1 h2 gv => ?_⟩
  · simp [aRes, tupOf]
    exact gives_moded (gives_p rfl) rfl
  rw [runnellaw2_ValueParts_c5_eq]
  unfold runnellaw2_ValueParts_P5
  have hl : 1 ≤ l.length ∧ l.length ≤ 8 := by omega
  have wv : Wv 1000000000 v := (fewV_small (by simp [goodV] at gv; exact gv.1)).mono (by omega)
  refine loop_by (σ := Nat) (n := 2) (fun j => [.p (.int .i64 j)]) (fun _ => [.mode, .box [.p (.int .i64 v.k), .p (.int .i64 v.i), .p (.bool v.b), .p (.str v.s), .p (.slice (v.t.map encV))]]) (fun j => j ≤ l.length ∧ ∀ x ∈ l.take j, goodV x = true) (fun j => l.length - j) [] 0 (fun _ => rfl) ⟨rfl, rfl⟩ ⟨by omega, by simp⟩ (fun j B hj hB => ?_)
  obtain ⟨hj1, hj2⟩ := hj
  simp [runnellaw2_ValueParts_L1]
  intro _
  refine ⟨fun hlt => ?_, fun hge => ?_⟩
  · rw [runnellaw2_ValueParts_c8_eq]
    unfold runnellaw2_ValueParts_P8
    simp [hlt]
    (first | refine aCall_fold rfl ?_ | refine aCallT_fold rfl ?_)
    (first | refine aCallU_p (good2_spec l[j]) ?_ | refine aCallTU_p (good2_spec l[j]) ?_ | refine aCallU_of (good2_spec l[j]) ?_ | refine aCallTU_of (good2_spec l[j]) rfl ?_ | refine aCallTU_of (good2_spec l[j]) (by simp [AV.pur]; rfl) ?_)
    try simp
    refine ⟨fun _ => ?_, fun hg => ?_⟩
    · simp [aRes, tupOf]
      exact gives_moded (gives_p rfl) rfl
    · rw [runnellaw2_ValueParts_c7_eq]
      unfold runnellaw2_ValueParts_P7
      simp
      rw [IntWalk.i64_in _ (by omega)]
      refine hB (j + 1) _ ⟨by omega, fun x hx => ?_⟩ (by omega) (by simp) (by simp [Ob.below, AV.under1]) (by simp) (by simp [AV.under, AV.under1])
      rw [← take_snoc hlt, List.mem_append, List.mem_singleton] at hx
      rcases hx with hx | rfl
      · exact hj2 x hx
      · exact hg
  · rw [runnellaw2_ValueParts_c10_eq]
    unfold runnellaw2_ValueParts_P10
    have hall : ∀ x ∈ l, Wv 1000000000 x := fun x hx => (fewV_small (by
      have := hj2 x (by rw [List.take_of_length_le hge]; exact hx)
      simp [goodV] at this
      exact this.1)).mono (by omega)
    obtain ⟨k, hk, hmk⟩ := tmod_nat (n := m) (m := l.length) hm.1 (by omega)
    simp
    intro _
    refine ⟨by intro h; rw [h] at hl; simp at hl, ?_⟩
    rw [IntWalk.i64_in m (by omega), hmk]
    rw [runnellaw2_ValueParts_c11_eq]
    unfold runnellaw2_ValueParts_P11
    simp
    refine ⟨⟨by simp, encV_size l, by simp; omega⟩, ?_⟩
    rw [runnellaw2_ValueParts_c12_eq]
    unfold runnellaw2_ValueParts_P12
    simp
    have eset : (List.map encV l).set k (((Option.map encV l[k]?).getD default).putT 0 [T.int IntKind.i64 v.k, T.int IntKind.i64 v.i, T.bool v.b, T.str v.s, T.slice (List.map encV v.t)]) = (l.set k v).map encV := by
      simp [hk, List.map_set, T.putT, put]
    refine ⟨hk, ?_⟩
    rw [eset]
    have hb : (l.set k v).length = l.length := by simp
    have hq := cmpVs_set v l k hk
    generalize l.set k v = q at *
    rw [runnellaw2_ValueParts_c13_eq]
    unfold runnellaw2_ValueParts_P13
    have t1 := Tup_spec l (by omega)
    have t2 := Tup_spec q (by omega)
    have t3 := Tup_spec (l ++ [v]) (by simp; omega)
    simp [tupV] at t1 t2
    simp
    (first | refine aCall_fold rfl ?_ | refine aCallT_fold rfl ?_)
    (first | refine aCallU_p (t1) ?_ | refine aCallTU_p (t1) ?_ | refine aCallU_of (t1) ?_ | refine aCallTU_of (t1) rfl ?_ | refine aCallTU_of (t1) (by simp [AV.pur]; rfl) ?_)
    try simp
    rw [runnellaw2_ValueParts_c14_eq]
    unfold runnellaw2_ValueParts_P14
    simp
    refine aCallZ_of (id := 2) rfl ?_
    have etk : List.take l.length (List.map encV q) = List.map encV q := List.take_of_length_le (by simp [hb])
    have hb2 : l.length ≤ q.length := by omega
    simp [AV.unm, AV.unm1, etk, hb2]
    (first | refine aCall_fold rfl ?_ | refine aCallT_fold rfl ?_)
    (first | refine aCallU_p (t2) ?_ | refine aCallTU_p (t2) ?_ | refine aCallU_of (t2) ?_ | refine aCallTU_of (t2) rfl ?_ | refine aCallTU_of (t2) (by simp [AV.pur]; rfl) ?_)
    try simp
    rw [runnellaw2_ValueParts_c15_eq]
    unfold runnellaw2_ValueParts_P15
    have etl : List.take l.length (List.map encV l) = List.map encV l := List.take_of_length_le (by simp)
    have etk3 : List.take (l.length + 1) (List.map encV l ++ [T.agg [T.int IntKind.i64 v.k, T.int IntKind.i64 v.i, T.bool v.b, T.str v.s, T.slice (List.map encV v.t)]]) = List.map encV l ++ [T.agg [T.int IntKind.i64 v.k, T.int IntKind.i64 v.i, T.bool v.b, T.str v.s, T.slice (List.map encV v.t)]] := List.take_of_length_le (by simp)
    have a1 : appendable 5 64 [] (List.map encV l) := ⟨by simp, encV_size l, by simp; omega⟩
    have a2 : appendable 5 64 (List.map encV l) [T.agg [T.int IntKind.i64 v.k, T.int IntKind.i64 v.i, T.bool v.b, T.str v.s, T.slice (List.map encV v.t)]] := ⟨encV_size l, by simp, by simp; omega⟩
    have c1 := Compare_spec (tupV l) (tupV q)
    have c2 := Compare_spec (tupV l) (tupV (l ++ [v]))
    have c3 := Compare_spec (tupV (l ++ [v])) (tupV l)
    rw [cmpV_tup, hq] at c1
    rw [cmpV_tup, cmpVs_snoc] at c2
    rw [cmpV_tup, cmpVs_snoc'] at c3
    simp
    simp only [etl]
    refine ⟨⟨a1, ⟨a2, ?_, ?_⟩, a2, ?_⟩, a1, a2, ?_⟩
    · refine aCallZ_of (id := 5) rfl ?_
      simp [AV.unm, AV.unm1, etk3]
      (first | refine aCall_fold rfl ?_ | refine aCallT_fold rfl ?_)
      (first | refine aCallU_p (t3) ?_ | refine aCallTU_p (t3) ?_ | refine aCallU_of (t3) ?_ | refine aCallTU_of (t3) rfl ?_ | refine aCallTU_of (t3) (by simp [AV.pur]; rfl) ?_)
      try simp [tupV]
      rw [runnellaw2_ValueParts_c16_eq]
      unfold runnellaw2_ValueParts_P16
      simp [hk]
      (first | refine aCall_fold rfl ?_ | refine aCallT_fold rfl ?_)
      (first | refine aCallU_p (c1) ?_ | refine aCallTU_p (c1) ?_ | refine aCallU_of (c1) ?_ | refine aCallTU_of (c1) rfl ?_ | refine aCallTU_of (c1) (by simp [AV.pur]; rfl) ?_)
      try simp
      simp [hk]
      (first | refine aCall_fold rfl ?_ | refine aCallT_fold rfl ?_)
      (first | refine aCallU_p (of2_spec (hall _ (List.getElem_mem hk))) ?_ | refine aCallTU_p (of2_spec (hall _ (List.getElem_mem hk))) ?_ | refine aCallU_of (of2_spec (hall _ (List.getElem_mem hk))) ?_ | refine aCallTU_of (of2_spec (hall _ (List.getElem_mem hk))) rfl ?_ | refine aCallTU_of (of2_spec (hall _ (List.getElem_mem hk))) (by simp [AV.pur]; rfl) ?_)
      try simp
      (first | refine aCall_fold rfl ?_ | refine aCallT_fold rfl ?_)
      (first | refine aCallU_p (of2_spec wv) ?_ | refine aCallTU_p (of2_spec wv) ?_ | refine aCallU_of (of2_spec wv) ?_ | refine aCallTU_of (of2_spec wv) rfl ?_ | refine aCallTU_of (of2_spec wv) (by simp [AV.pur]; rfl) ?_)
      try simp
      (first | refine aCall_fold rfl ?_ | refine aCallT_fold rfl ?_)
      (first | refine aCallU_p (CompareR_spec _ _) ?_ | refine aCallTU_p (CompareR_spec _ _) ?_ | refine aCallU_of (CompareR_spec _ _) ?_ | refine aCallTU_of (CompareR_spec _ _) rfl ?_ | refine aCallTU_of (CompareR_spec _ _) (by simp [AV.pur]; rfl) ?_)
      try simp
      (first | refine aCall_fold rfl ?_ | refine aCallT_fold rfl ?_)
      (first | refine aCallU_p (c2) ?_ | refine aCallTU_p (c2) ?_ | refine aCallU_of (c2) ?_ | refine aCallTU_of (c2) rfl ?_ | refine aCallTU_of (c2) (by simp [AV.pur]; rfl) ?_)
      try simp
      (first | refine aCall_fold rfl ?_ | refine aCallT_fold rfl ?_)
      (first | refine aCallU_p (c3) ?_ | refine aCallTU_p (c3) ?_ | refine aCallU_of (c3) ?_ | refine aCallTU_of (c3) rfl ?_ | refine aCallTU_of (c3) (by simp [AV.pur]; rfl) ?_)
      try simp
      simp [aRes, tupOf]
      exact gives_moded (gives_p rfl) rfl
    · refine aCallZ_of (id := 5) rfl ?_
      simp [AV.unm, AV.unm1, etk3]
      (first | refine aCall_fold rfl ?_ | refine aCallT_fold rfl ?_)
      (first | refine aCallU_p (t3) ?_ | refine aCallTU_p (t3) ?_ | refine aCallU_of (t3) ?_ | refine aCallTU_of (t3) rfl ?_ | refine aCallTU_of (t3) (by simp [AV.pur]; rfl) ?_)
      try simp [tupV]
      rw [runnellaw2_ValueParts_c16_eq]
      unfold runnellaw2_ValueParts_P16
      simp [hk]
      (first | refine aCall_fold rfl ?_ | refine aCallT_fold rfl ?_)
      (first | refine aCallU_p (c1) ?_ | refine aCallTU_p (c1) ?_ | refine aCallU_of (c1) ?_ | refine aCallTU_of (c1) rfl ?_ | refine aCallTU_of (c1) (by simp [AV.pur]; rfl) ?_)
      try simp
      simp [hk]
      (first | refine aCall_fold rfl ?_ | refine aCallT_fold rfl ?_)
      (first | refine aCallU_p (of2_spec (hall _ (List.getElem_mem hk))) ?_ | refine aCallTU_p (of2_spec (hall _ (List.getElem_mem hk))) ?_ | refine aCallU_of (of2_spec (hall _ (List.getElem_mem hk))) ?_ | refine aCallTU_of (of2_spec (hall _ (List.getElem_mem hk))) rfl ?_ | refine aCallTU_of (of2_spec (hall _ (List.getElem_mem hk))) (by simp [AV.pur]; rfl) ?_)
      try simp
      (first | refine aCall_fold rfl ?_ | refine aCallT_fold rfl ?_)
      (first | refine aCallU_p (of2_spec wv) ?_ | refine aCallTU_p (of2_spec wv) ?_ | refine aCallU_of (of2_spec wv) ?_ | refine aCallTU_of (of2_spec wv) rfl ?_ | refine aCallTU_of (of2_spec wv) (by simp [AV.pur]; rfl) ?_)
      try simp
      (first | refine aCall_fold rfl ?_ | refine aCallT_fold rfl ?_)
      (first | refine aCallU_p (CompareR_spec _ _) ?_ | refine aCallTU_p (CompareR_spec _ _) ?_ | refine aCallU_of (CompareR_spec _ _) ?_ | refine aCallTU_of (CompareR_spec _ _) rfl ?_ | refine aCallTU_of (CompareR_spec _ _) (by simp [AV.pur]; rfl) ?_)
      try simp
      (first | refine aCall_fold rfl ?_ | refine aCallT_fold rfl ?_)
      (first | refine aCallU_p (c2) ?_ | refine aCallTU_p (c2) ?_ | refine aCallU_of (c2) ?_ | refine aCallTU_of (c2) rfl ?_ | refine aCallTU_of (c2) (by simp [AV.pur]; rfl) ?_)
      try simp
      (first | refine aCall_fold rfl ?_ | refine aCallT_fold rfl ?_)
      (first | refine aCallU_p (c3) ?_ | refine aCallTU_p (c3) ?_ | refine aCallU_of (c3) ?_ | refine aCallTU_of (c3) rfl ?_ | refine aCallTU_of (c3) (by simp [AV.pur]; rfl) ?_)
      try simp
      simp [aRes, tupOf]
      exact gives_moded (gives_p rfl) rfl
    · refine aCallZ_of (id := 5) rfl ?_
      simp [AV.unm, AV.unm1, etk3]
      (first | refine aCall_fold rfl ?_ | refine aCallT_fold rfl ?_)
      (first | refine aCallU_p (t3) ?_ | refine aCallTU_p (t3) ?_ | refine aCallU_of (t3) ?_ | refine aCallTU_of (t3) rfl ?_ | refine aCallTU_of (t3) (by simp [AV.pur]; rfl) ?_)
      try simp [tupV]
      rw [runnellaw2_ValueParts_c16_eq]
      unfold runnellaw2_ValueParts_P16
      simp [hk]
      (first | refine aCall_fold rfl ?_ | refine aCallT_fold rfl ?_)
      (first | refine aCallU_p (c1) ?_ | refine aCallTU_p (c1) ?_ | refine aCallU_of (c1) ?_ | refine aCallTU_of (c1) rfl ?_ | refine aCallTU_of (c1) (by simp [AV.pur]; rfl) ?_)
      try simp
      simp [hk]
      (first | refine aCall_fold rfl ?_ | refine aCallT_fold rfl ?_)
      (first | refine aCallU_p (of2_spec (hall _ (List.getElem_mem hk))) ?_ | refine aCallTU_p (of2_spec (hall _ (List.getElem_mem hk))) ?_ | refine aCallU_of (of2_spec (hall _ (List.getElem_mem hk))) ?_ | refine aCallTU_of (of2_spec (hall _ (List.getElem_mem hk))) rfl ?_ | refine aCallTU_of (of2_spec (hall _ (List.getElem_mem hk))) (by simp [AV.pur]; rfl) ?_)
      try simp
      (first | refine aCall_fold rfl ?_ | refine aCallT_fold rfl ?_)
      (first | refine aCallU_p (of2_spec wv) ?_ | refine aCallTU_p (of2_spec wv) ?_ | refine aCallU_of (of2_spec wv) ?_ | refine aCallTU_of (of2_spec wv) rfl ?_ | refine aCallTU_of (of2_spec wv) (by simp [AV.pur]; rfl) ?_)
      try simp
      (first | refine aCall_fold rfl ?_ | refine aCallT_fold rfl ?_)
      (first | refine aCallU_p (CompareR_spec _ _) ?_ | refine aCallTU_p (CompareR_spec _ _) ?_ | refine aCallU_of (CompareR_spec _ _) ?_ | refine aCallTU_of (CompareR_spec _ _) rfl ?_ | refine aCallTU_of (CompareR_spec _ _) (by simp [AV.pur]; rfl) ?_)
      try simp
      (first | refine aCall_fold rfl ?_ | refine aCallT_fold rfl ?_)
      (first | refine aCallU_p (c2) ?_ | refine aCallTU_p (c2) ?_ | refine aCallU_of (c2) ?_ | refine aCallTU_of (c2) rfl ?_ | refine aCallTU_of (c2) (by simp [AV.pur]; rfl) ?_)
      try simp
      (first | refine aCall_fold rfl ?_ | refine aCallT_fold rfl ?_)
      (first | refine aCallU_p (c3) ?_ | refine aCallTU_p (c3) ?_ | refine aCallU_of (c3) ?_ | refine aCallTU_of (c3) rfl ?_ | refine aCallTU_of (c3) (by simp [AV.pur]; rfl) ?_)
      try simp
      simp [aRes, tupOf]
      exact gives_moded (gives_p rfl) rfl
    · refine aCallZ_of (id := 6) rfl ?_
      simp [AV.unm, AV.unm1, etk3]
      (first | refine aCall_fold rfl ?_ | refine aCallT_fold rfl ?_)
      (first | refine aCallU_p (t3) ?_ | refine aCallTU_p (t3) ?_ | refine aCallU_of (t3) ?_ | refine aCallTU_of (t3) rfl ?_ | refine aCallTU_of (t3) (by simp [AV.pur]; rfl) ?_)
      try simp [tupV]
      rw [runnellaw2_ValueParts_c16_eq]
      unfold runnellaw2_ValueParts_P16
      simp [hk]
      (first | refine aCall_fold rfl ?_ | refine aCallT_fold rfl ?_)
      (first | refine aCallU_p (c1) ?_ | refine aCallTU_p (c1) ?_ | refine aCallU_of (c1) ?_ | refine aCallTU_of (c1) rfl ?_ | refine aCallTU_of (c1) (by simp [AV.pur]; rfl) ?_)
      try simp
      simp [hk]
      (first | refine aCall_fold rfl ?_ | refine aCallT_fold rfl ?_)
      (first | refine aCallU_p (of2_spec (hall _ (List.getElem_mem hk))) ?_ | refine aCallTU_p (of2_spec (hall _ (List.getElem_mem hk))) ?_ | refine aCallU_of (of2_spec (hall _ (List.getElem_mem hk))) ?_ | refine aCallTU_of (of2_spec (hall _ (List.getElem_mem hk))) rfl ?_ | refine aCallTU_of (of2_spec (hall _ (List.getElem_mem hk))) (by simp [AV.pur]; rfl) ?_)
      try simp
      (first | refine aCall_fold rfl ?_ | refine aCallT_fold rfl ?_)
      (first | refine aCallU_p (of2_spec wv) ?_ | refine aCallTU_p (of2_spec wv) ?_ | refine aCallU_of (of2_spec wv) ?_ | refine aCallTU_of (of2_spec wv) rfl ?_ | refine aCallTU_of (of2_spec wv) (by simp [AV.pur]; rfl) ?_)
      try simp
      (first | refine aCall_fold rfl ?_ | refine aCallT_fold rfl ?_)
      (first | refine aCallU_p (CompareR_spec _ _) ?_ | refine aCallTU_p (CompareR_spec _ _) ?_ | refine aCallU_of (CompareR_spec _ _) ?_ | refine aCallTU_of (CompareR_spec _ _) rfl ?_ | refine aCallTU_of (CompareR_spec _ _) (by simp [AV.pur]; rfl) ?_)
      try simp
      (first | refine aCall_fold rfl ?_ | refine aCallT_fold rfl ?_)
      (first | refine aCallU_p (c2) ?_ | refine aCallTU_p (c2) ?_ | refine aCallU_of (c2) ?_ | refine aCallTU_of (c2) rfl ?_ | refine aCallTU_of (c2) (by simp [AV.pur]; rfl) ?_)
      try simp
      (first | refine aCall_fold rfl ?_ | refine aCallT_fold rfl ?_)
      (first | refine aCallU_p (c3) ?_ | refine aCallTU_p (c3) ?_ | refine aCallU_of (c3) ?_ | refine aCallTU_of (c3) rfl ?_ | refine aCallTU_of (c3) (by simp [AV.pur]; rfl) ?_)
      try simp
      simp [aRes, tupOf]
      exact gives_moded (gives_p rfl) rfl

end Go.Proofs.YtmnmiiifilfcmaaDoor
