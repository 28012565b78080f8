/- The document's jobs over trees: who reads whom, the types, the weights. -/
import Derived.Test.YtmnmiiifilfcmaaGreatZPuGraphO
import Derived.Test.YtmnmiiifilfcmaaGreatZSpGraphD
import Derived.Test.YtmnmiiifilfcmaaGreatZSpOut
import Derived.Test.YtmnmiiifilfcmaaGreatS2
set_option linter.unusedSimpArgs false
set_option linter.unusedVariables false
namespace Go.Proofs.YtmnmiiifilfcmaaGreat
open Go Go.Abs

attribute [local irreducible] Abs.Fn

theorem typesR_snoc (n : Nd) : ∀ (l : List Nd) (ts : List Ty), typesR ts (l ++ [n]) = typesR ts l ++ [(outO n.op (n.ins.map (fun i => (typesR ts l).getD i.toNat (.mk 0 [])))).get (.mk 0 [])]
  | [], ts => rfl
  | m :: r, ts => by simp only [List.cons_append, typesR]; exact typesR_snoc n r _
theorem typesR_length : ∀ (l : List Nd) (ts : List Ty), (typesR ts l).length = ts.length + l.length
  | [], ts => by simp [typesR]
  | m :: r, ts => by simp only [typesR]; rw [typesR_length r]; simp; omega

theorem OutsR_spec (g : List Nd) (i : Int) (hl : g.length ≤ 1000000) : Abs.Fn Tryz.prog runnelref10_Outs_i [] [.p (.slice (g.map encN)), .p (.int .i64 i)] (.p (.slice (isT (outsFrom i 0 g)))) [] := by
  apply runnelref10_Outs_fn
  simp [runnelref10_Outs]
  refine loop_by (σ := Nat × List Int) (n := 1) (fun q => [.own 0 (isT q.2), .p (.int .i64 q.1)]) (fun q => [.row q.2.length 1]) (fun q => q.1 ≤ g.length ∧ q.2.length ≤ q.1 ∧ q.2 ++ outsFrom i q.1 (g.drop q.1) = outsFrom i 0 g) (fun q => g.length - q.1) [.slot 0 1] (0, []) (fun _ => rfl) ⟨rfl, rfl⟩ (by simp) (fun q B hq hB => ?_)
  obtain ⟨k, out⟩ := q
  obtain ⟨h1, h2, h3⟩ := hq
  simp only at h1 h2 h3
  generalize outsFrom i 0 g = A at *
  simp [runnelref10_Outs_L1]
  intro _
  refine ⟨fun hlt => ?_, fun hge => ?_⟩
  · rw [List.drop_eq_getElem_cons hlt, outsFrom] at h3
    refine loop_by (σ := Nat) (n := 1) (fun j => [.own 0 (isT out), .p (.int .i64 j)]) (fun _ => [.row out.length 1]) (fun j => j ≤ g[k].ins.length ∧ i ∉ g[k].ins.take j) (fun j => g[k].ins.length - j) [] 0 (fun _ => rfl) ⟨rfl, rfl⟩ (by simp) (fun j B2 hj hB2 => ?_)
    obtain ⟨h4, h5⟩ := hj
    simp [runnelref10_Outs_L2, hlt]
    intro hml
    refine ⟨fun hltj => ?_, fun hgej => ?_⟩
    · simp [hltj]
      refine ⟨fun hz => ?_, fun hz => ?_⟩
      · rw [if_pos (hz ▸ List.getElem_mem hltj)] at h3
        refine ⟨⟨fun e he => by obtain ⟨x, _, rfl⟩ := List.mem_map.1 he; rfl, by simp, by simp; omega⟩, ?_⟩
        rw [IntWalk.i64_in _ (by omega)]
        refine cast (congrArg (fun x => B x _) ?_) (hB (k + 1, out ++ [(k : Int)]) _ ⟨by simp only; omega, by simp; omega, by simp only; rw [← h3]; simp⟩ (by simp only; omega) ?_ ?_ ?_ (by simp [AV.under, AV.under1]))
        · simp
        · simp
        · simp [Ob.below, AV.under1]
        · simp
      · rw [IntWalk.i64_in _ (by simp [maxLen] at hml; omega)]
        refine hB2 (j + 1) _ ⟨by omega, ?_⟩ (by omega) (by simp) (by simp [Ob.below, AV.under1]) (by simp) (by simp [AV.under, AV.under1])
        rw [← take_snoc hltj, List.mem_append, List.mem_singleton]
        rintro (h | h)
        · exact h5 h
        · exact hz h.symm
    · rw [List.take_of_length_le hgej] at h5
      rw [if_neg h5] at h3
      rw [IntWalk.i64_in _ (by omega)]
      exact hB (k + 1, out) _ ⟨by simp only; omega, by simp only; omega, h3⟩ (by simp only; omega) (by simp) (by simp [Ob.below, AV.under1]) (by simp) (by simp [AV.under, AV.under1])
  · rw [List.drop_of_length_le hge, outsFrom, List.append_nil] at h3
    exact gives_pure (by simp [AV.pur, h3])

set_option maxRecDepth 100000 in
theorem typesR_spec (g : List Nd) (n : Nat) (hn : n ≤ g.length) (hl : g.length ≤ 1000) (hok : ∀ x ∈ g, OkN x) (ha : OkA (g.take n)) : Abs.Fn Tryz.prog runnelref10_types_i [] [.p (.slice (g.map encN)), .p (.int .i64 n)] (.p (.slice ((typesR [] (g.take n)).map encT))) [] := by
  apply runnelref10_types_fn
  simp [runnelref10_types]
  refine loop_by (σ := Nat) (n := 1) (fun i => [.own 0 ((typesR [] (g.take i)).map encT), .p (.int .i64 i)]) (fun i => [.row i 2]) (fun i => i ≤ n) (fun i => n - i) [.slot 0 2] 0 (fun _ => rfl) ⟨by simp [typesR], rfl⟩ (by simp) (fun i B hi hB => ?_)
  have hlen : (typesR [] (g.take i)).length = i := by rw [typesR_length]; simp; omega
  simp [runnelref10_types_L1]
  refine ⟨fun hlt => ?_, fun hge => ?_⟩
  · have hig : i < g.length := by omega
    have hsn := typesR_snoc g[i] (g.take i) []
    rw [take_snoc hig] at hsn
    have hb := ha i (by simp; omega)
    rw [List.getElem_take] at hb
    obtain ⟨ts, hts⟩ : ∃ ts, typesR [] (g.take i) = ts := ⟨_, rfl⟩
    rw [hts] at hlen hsn ⊢
    obtain ⟨m, hm0⟩ : ∃ m, g[i].ins.map (fun k => ts.getD k.toNat (.mk 0 [])) = m := ⟨_, rfl⟩
    have hm : m.length = g[i].ins.length := by rw [← hm0]; simp
    have hmj : ∀ j (hj : j < g[i].ins.length) (h : g[i].ins[j].toNat < ts.length), m[j]? = some ts[g[i].ins[j].toNat] := by
      intro j hj h
      rw [← hm0]
      simp [hj, h]
    rw [hm0] at hsn
    have hO := OutR_spec g[i].op m (hok _ (List.getElem_mem hig)).es (hok _ (List.getElem_mem hig)).key (hok _ (List.getElem_mem hig)).len
    simp only [encO_eta] at hO
    refine loop_by (σ := Nat) (n := 2) (fun j => [.own 1 ((m.take j).map encT), .p (.int .i64 j)]) (fun j => [.row i 2, .row j 2]) (fun j => j ≤ g[i].ins.length) (fun j => g[i].ins.length - j) [.slot 0 2] 0 (fun _ => rfl) ⟨rfl, rfl⟩ (by simp) (fun j B2 hj hB2 => ?_)
    simp [runnelref10_types_L2, hig]
    intro hml
    refine ⟨fun hltj => ?_, fun hgej => ?_⟩
    · obtain ⟨g1, g2⟩ := hb.1 g[i].ins[j] (List.getElem_mem hltj)
      have g3 : g[i].ins[j].toNat < ts.length := by omega
      have hmm := hmj j hltj g3
      rw [List.getElem?_eq_getElem (by omega), Option.some.injEq] at hmm
      have hs2 := take_snoc (l := m.map encT) (i := j) (by simp; omega)
      simp only [List.getElem_map, hmm, encT_eta] at hs2
      simp [hltj, g1, g2, g3, hlen]
      refine ⟨by omega, ⟨fun e he => ?_, by simp, by simp; omega⟩, ?_⟩
      · obtain ⟨x, hx, rfl⟩ := List.mem_map.1 (List.mem_of_mem_take he); simp
      rw [IntWalk.i64_in _ (by omega), hs2, ← List.map_take]
      exact hB2 (j + 1) _ (by omega) (by omega) (by simp) (by simp [Ob.below, AV.under1]) (by simp) (by simp [AV.under, AV.under1])
    · rw [List.take_of_length_le (by simp; omega)]
      refine aCallW_of rfl rfl hO ?_
      have app : ∀ u : Ty, appendable 2 32 (ts.map encT) [encT u] := fun u => ⟨fun e he => by obtain ⟨x, _, rfl⟩ := List.mem_map.1 he; simp, by simp, by simp; omega⟩
      have fin : ∀ u : Ty, (outO g[i].op m).get (.mk 0 []) = u → B [AV.own 0 (ts.map encT ++ [encT u]), AV.p (T.int .i64 (IntKind.i64.wrap (i + 1)))] [Ob.row (i + 1) 2, Ob.row j 2, Ob.box [.p (.int .i64 u.kind), .p (.slice (u.of.map encT))]] := by
        rintro u rfl
        rw [IntWalk.i64_in _ (by omega), show ts.map encT ++ [encT ((outO g[i].op m).get (.mk 0 []))] = (typesR [] (g.take (i + 1))).map encT by rw [hsn]; simp]
        exact hB (i + 1) _ (by omega) (by omega) (by simp) (by simp [Ob.below, AV.under1]) (by simp) (by simp [AV.under, AV.under1])
      simp only [encT_eta] at fin app
      cases hr : outO g[i].op m with
      | er f =>
        rw [hr] at fin
        simp [tyR, R.get, R.num]
        exact ⟨hlen.symm, app (.mk 0 []), fin (.mk 0 []) rfl⟩
      | ok u =>
        rw [hr] at fin
        simp [tyR, R.get, R.num]
        exact ⟨hlen.symm, app u, fin u rfl⟩
  · have : i = n := by omega
    subst this
    exact gives_pure (by simp [AV.pur])

theorem weightR_spec (g : List Nd) (n : Nat) (hn : n < g.length) (hl : g.length ≤ 1000) (ha : OkA (g.take (n + 1))) : Abs.Fn Tryz.prog runnelref10_weight_i [] [.p (.slice (g.map encN)), .p (.int .i64 n)] (.p (.int .i64 (wtN (wtsG [] (g.take n)) g[n]))) [] := by
  have hlast : wtN (wtsG [] (g.take n)) g[n] = (wtsG [] (g.take (n + 1))).getD n 0 := by
    rw [← take_snoc hn, wtsG_snoc]
    have : (wtsG [] (g.take n)).length = n := by rw [wtsG_length]; simp; omega
    simp [List.getD_eq_getElem?_getD, this]
  rw [hlast]
  apply runnelref10_weight_fn
  simp [runnelref10_weight]
  refine loop_by (σ := Nat) (n := 1) (fun i => [.own 0 (isT (wtsG [] (g.take i))), .p (.int .i64 i)]) (fun i => [.row i 1]) (fun i => i ≤ n + 1) (fun i => n + 1 - i) [.slot 0 1] 0 (fun _ => rfl) ⟨rfl, rfl⟩ (by simp) (fun i B hi hB => ?_)
  have hwl : (wtsG [] (g.take i)).length = i := by rw [wtsG_length]; simp; omega
  simp [runnelref10_weight_L1]
  refine ⟨fun hle => ?_, fun hgt => ?_⟩
  · have hlt : i < g.length := by omega
    have hb := ha i (by simp; omega)
    rw [List.getElem_take] at hb
    obtain ⟨hx, hxl⟩ := hb
    have hnext : wtsG [] (g.take (i + 1)) = wtsG [] (g.take i) ++ [wtN (wtsG [] (g.take i)) g[i]] := by rw [← take_snoc hlt, wtsG_snoc]
    obtain ⟨ws, hws⟩ : ∃ ws, wtsG [] (g.take i) = ws := ⟨_, rfl⟩
    rw [hws] at hwl hnext ⊢
    refine loop_by (σ := Nat × Int) (n := 1) (fun q => [.p (.int .i64 q.2), .p (.int .i64 q.1)]) (fun _ => [.row i 1]) (fun q => q.1 ≤ g[i].ins.length ∧ sumW ws q.2 (g[i].ins.drop q.1) = sumW ws 0 g[i].ins) (fun q => g[i].ins.length - q.1) [] (0, 0) (fun _ => rfl) ⟨rfl, by simp⟩ (by simp) (fun q B2 hq hB2 => ?_)
    obtain ⟨j, w⟩ := q
    obtain ⟨h1, h2⟩ := hq
    simp only at h1 h2
    generalize hA : sumW ws 0 g[i].ins = A at *
    simp [runnelref10_weight_L2, hlt]
    intro hml
    refine ⟨fun hltj => ?_, fun hgej => ?_⟩
    · rw [List.drop_eq_getElem_cons hltj, sumW] at h2
      obtain ⟨g1, g2⟩ := hx g[i].ins[j] (List.getElem_mem hltj)
      have g3 : g[i].ins[j].toNat < ws.length := by omega
      have gD : ws.getD g[i].ins[j].toNat 0 = ws[g[i].ins[j].toNat] := by simp [List.getD_eq_getElem?_getD, g3]
      rw [gD] at h2
      simp [hltj, g1, g2, g3, hwl]
      rw [IntWalk.i64_in (j + 1) (by omega)]
      exact hB2 (j + 1, _) _ ⟨by simp only; omega, h2⟩ (by simp only; omega) (by simp) (by simp [Ob.below, AV.under1]) (by simp) (by simp [AV.under, AV.under1])
    · rw [List.drop_of_length_le hgej] at h2
      have h2 : w = A := h2
      have hwt : wtN ws g[i] = if g[i].op.k = 1 then 1 else if g[i].op.k = 4 then IntKind.i64.wrap (w * g[i].op.es.length) else w := by rw [wtN, hA, h2]
      have fin : ∀ v : Int, v = wtN ws g[i] → B [AV.own 0 (isT ws ++ [T.int .i64 v]), AV.p (T.int .i64 (IntKind.i64.wrap (i + 1)))] [Ob.row (i + 1) 1] := by
        rintro v rfl
        rw [IntWalk.i64_in _ (by omega), show isT ws ++ [T.int .i64 (wtN ws g[i])] = isT (wtsG [] (g.take (i + 1))) by rw [hnext]; simp [isT]]
        exact hB (i + 1) _ (by omega) (by omega) (by simp) (by simp [Ob.below, AV.under1]) (by simp) (by simp [AV.under, AV.under1])
      have app : ∀ v : Int, appendable 1 8 (isT ws) [T.int .i64 v] := fun v => ⟨fun e he => by obtain ⟨x, _, rfl⟩ := List.mem_map.1 he; rfl, by simp, by simp; omega⟩
      exact ⟨fun h1 => ⟨hwl.symm, app _, fin 1 (by rw [hwt, if_pos h1])⟩, fun h1 => ⟨fun h4 _ => ⟨hwl.symm, app _, fin _ (by rw [hwt, if_neg h1, if_pos h4])⟩, fun h4 => ⟨hwl.symm, app _, fin w (by rw [hwt, if_neg h1, if_neg h4])⟩⟩⟩
  · have : i = n + 1 := by omega
    subst this
    have e2 : n < (wtsG [] (g.take (n + 1))).length := by omega
    generalize wtsG [] (g.take (n + 1)) = ws at *
    refine ⟨by omega, ?_⟩
    simp [e2]
    exact gives_p rfl

end Go.Proofs.YtmnmiiifilfcmaaGreat
