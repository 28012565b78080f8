/- The document's names that last, over trees; what it says of a node's state. -/
import Derived.Test.YtijnpcociedigaaGreatDoorZSpUidSQ
import Derived.Test.YtijnpcociedigaaGreatDoorZSpOutsQ
import Derived.Test.YtijnpcociedigaaGreatDoorZSpText
import Derived.Test.YtijnpcociedigaaGreatDoorZSpOutOQ
import Derived.Test.YtijnpcociedigaaGreatDoorZSpSmallRQ
import Derived.Test.YtijnpcociedigaaGreatDoorS2

section
/- The document's names that last, over trees; what it says of a node's state. -/
set_option linter.unusedSimpArgs false
set_option linter.unusedVariables false
namespace Go.Proofs.YtijnpcociedigaaGreatDoor
open Go Go.Abs

attribute [local irreducible] Abs.Fn

theorem typeTextR_spec : ∀ (t : Ty) (d : Int) (_ : checkT t d = 0) (_ : (textT t).length ≤ 1000000000), Abs.Fn Tryz.prog runnelref6_TypeText_i [] [.p (encT t)] (.p (.str (textT t))) []
  | .mk k of, d, hc, h => by
    have hk4 : ¬ k = 1 → ¬ k = 2 → ¬ k = 3 → k = 4 ∧ ∀ t ∈ of, checkT t (d + 1) = 0 := by
      intro h1 h2 h3
      unfold checkT at hc
      split at hc
      · omega
      split at hc
      · rename_i h4
        split at hc
        · rename_i e; exact absurd hc e
        · exact ⟨h4, checkTs_get hc⟩
      · simp at hc
    apply runnelref6_TypeText_fn
    simp [runnelref6_TypeText]
    refine ⟨fun h1 => gives_p (by simp [textT, wordS, h1]), fun h1 => ⟨fun h2 => gives_p (by simp [textT, wordS, h2]), fun h2 => ⟨fun h3 => gives_p (by simp [textT, wordS, h3]), fun h3 => ?_⟩⟩⟩
    obtain ⟨h4, hall⟩ := hk4 h1 h2 h3
    subst h4
    refine loop_by (σ := Nat) (n := 1) (fun j => [.p (.str (40 :: TJ.join [44] ((of.map textT).take j))), .p (.int .i64 j)]) (fun _ => [.box [.p (.int .i64 4), .p (.slice (of.map encT))]]) (fun j => j ≤ of.length) (fun j => of.length - j) [] 0 (fun _ => rfl) ⟨rfl, rfl⟩ (by simp) (fun j B hj hB => ?_)
    simp [runnelref6_TypeText_L1]
    intro hml
    simp only [textT, if_true, textTs_eq, List.length_cons, List.length_append, List.length_nil] at h
    constructor
    · intro hlt
      have hm : of[j] ∈ of := by simp
      have hmj := TJ.mem_join (sep := [44]) (List.mem_map_of_mem (f := textT) hm)
      have ih := typeTextR_spec of[j] (d + 1) (hall _ hm) (by omega)
      rw [encT_eta] at ih
      have hb := hB (j + 1) [.box [.p (.int .i64 4), .p (.slice (of.map encT))]] (by omega) (by omega) (by simp) (by simp [Ob.below, AV.under1]) (by simp) (by simp [AV.under, AV.under1])
      have hjl := join_take_le [44] (of.map textT) j
      have hjl2 := join_take_le [44] (of.map textT) (j + 1)
      have hsn := join_snoc [44] (of.map textT) j (by simpa using hlt)
      simp [hlt]
      constructor
      · intro hpos
        rw [if_neg (by omega)] at hsn
        rw [hsn] at hb hjl2
        simp at hjl2
        refine ⟨by unfold maxLen; omega, aCall_p rfl (by simpa using ih) ?_⟩
        simp
        refine ⟨by unfold maxLen; omega, ?_⟩
        rw [IntWalk.i64_in _ (by simp [maxLen] at hml; omega)]
        simpa using hb
      · intro h0
        subst h0
        rw [if_pos rfl] at hsn
        rw [hsn] at hb hjl2
        simp at hjl2
        refine aCall_p rfl (by simpa using ih) ?_
        simp [TJ.join]
        refine ⟨by unfold maxLen; omega, ?_⟩
        rw [IntWalk.i64_in _ (by omega)]
        simpa [TJ.join] using hb
    · intro hge
      rw [List.take_of_length_le (by simpa using hge)]
      refine ⟨by unfold maxLen; omega, gives_p ?_⟩
      simp [textT, textTs_eq]
termination_by t => SizeOf.sizeOf t
decreasing_by
  have := List.sizeOf_lt_of_mem hm
  simp
  omega

theorem plainR_spec (g : List Nd) (i : Nat) (hi : i < g.length) (out : List (List UInt8)) (h : ∀ k ∈ g[i].ins, 0 ≤ k ∧ k < out.length) (hk : I64 g[i].op.k) (hl : g[i].ins.length ≤ 1000000) (hu : g[i].uid.length ≤ 1000000000) (hb : (baseU g[i] out).length ≤ 1000000000) :
    Abs.Fn Tryz.prog runnelref10_plain_i [] [.p (.slice (g.map encN)), .p (.int .i64 i), .p (.slice (out.map .str))] (.p (.str (baseU g[i] out))) [] := by
  obtain ⟨n, hn⟩ : ∃ n, n = g[i] := ⟨_, rfl⟩
  rw [← hn] at h hk hl hu hb ⊢
  have hB : n.uid = [] → baseU n out = 97 :: 58 :: (Lib.itoa n.op.k ++ 58 :: (n.op.name ++ 40 :: (TJ.join [44] (n.ins.map fun i => out.getD i.toNat []) ++ [41]))) := fun hu => by rw [baseU, if_pos hu]
  have hB2 : n.uid ≠ [] → baseU n out = 117 :: 58 :: n.uid := fun hu => by rw [baseU, if_neg hu]
  generalize baseU n out = R at *
  have hlm : (n.ins.map fun i => out.getD i.toNat []).length = n.ins.length := by simp
  have hmj : ∀ j (hj : j < n.ins.length) (g : n.ins[j].toNat < out.length), (n.ins.map fun i => out.getD i.toNat [])[j]? = some out[n.ins[j].toNat] := by
    intro j hj g
    simp [hj, g]
  generalize (n.ins.map fun i => out.getD i.toNat []) = m at *
  apply runnelref10_plain_fn
  simp [runnelref10_plain, hi, ← hn]
  refine ⟨fun hu => ⟨by simp only [maxLen]; omega, gives_p (by rw [hB2 hu])⟩, fun hu => ?_⟩
  have hR := hB hu
  subst hR
  clear hB hB2
  refine aCallT_of rfl (decimal_spec n.op.k hk) rfl ?_
  simp only [List.length_cons, List.length_append, List.length_nil] at hb
  simp [hi, ← hn]
  refine ⟨by simp only [maxLen]; omega, by simp only [maxLen]; omega, by simp only [maxLen]; omega, by simp only [maxLen]; omega, ?_⟩
  refine loop_by (σ := Nat) (n := 0) (fun j => [.p (.str (97 :: 58 :: (Lib.itoa n.op.k ++ 58 :: (n.op.name ++ 40 :: TJ.join [44] (m.take j))))), .p (.int .i64 j)]) (fun _ => []) (fun j => j ≤ n.ins.length) (fun j => n.ins.length - j) [] 0 (fun _ => rfl) ⟨by simp [TJ.join], by simp⟩ (by simp) (fun j B hj hB => ?_)
  simp [runnelref10_plain_L1, hi, ← hn]
  intro hml
  refine ⟨fun hlt => ?_, fun hge => ?_⟩
  · obtain ⟨g1, g2⟩ := h n.ins[j] (List.getElem_mem hlt)
    have g3 : n.ins[j].toNat < out.length := by omega
    have hm := hmj j hlt g3
    rw [List.getElem?_eq_getElem (by omega), Option.some.injEq] at hm
    have hb2 := hB (j + 1) [] (by omega) (by omega) (by simp) (by simp) (by simp) (by simp [AV.under, AV.under1])
    have hjl := join_take_le [44] m j
    have hjl2 := join_take_le [44] m (j + 1)
    have hsn := join_snoc [44] m j (by omega)
    rw [hm] at hsn
    simp [hlt, g1, g2, g3, hi, ← hn]
    constructor
    · intro hpos
      rw [if_neg (by omega)] at hsn
      rw [hsn] at hb2 hjl2
      simp at hjl2
      refine ⟨by simp only [maxLen]; omega, by simp only [maxLen]; omega, ?_⟩
      rw [IntWalk.i64_in _ (by omega)]
      simpa using hb2
    · intro h0
      subst h0
      rw [if_pos rfl] at hsn
      rw [hsn] at hb2 hjl2
      simp [TJ.join]
      refine ⟨by simp only [maxLen]; omega, ?_⟩
      rw [IntWalk.i64_in _ (by omega)]
      simpa [TJ.join] using hb2
  · rw [List.take_of_length_le (show m.length ≤ j by omega)]
    refine ⟨by simp only [maxLen]; omega, gives_p ?_⟩
    simp

theorem IDsR_spec (g : List Nd) (hn : g.length ≤ 1000) (hins : ∀ k (hk : k < g.length), (∀ i ∈ g[k].ins, 0 ≤ i ∧ i < k) ∧ g[k].ins.length ≤ 1000000 ∧ g[k].uid.length ≤ 1000000 ∧ I64 g[k].op.k ∧ (baseU g[k] (idsU g)).length ≤ 1000000000) :
    Abs.Fn Tryz.prog runnelref10_IDs_i [] [.p (.slice (g.map encN))] (.p (.slice ((idsU g).map .str))) [] := by
  have hnext := fun i h => @idsU_next g i h
  have hlen := idsU_length g
  have hlen2 := bareU_length g
  have hbase : ∀ k (hk : k < g.length), (baseU g[k] ((idsU g).take k)) = baseU g[k] (idsU g) := fun k hk => baseU_congr rfl rfl rfl rfl (fun i hi => getD_take (by have := (hins k hk).1 i hi; omega))
  generalize idsU g = I at *
  generalize bareU g = Bq at *
  apply runnelref10_IDs_fn
  simp [runnelref10_IDs]
  refine loop_by (σ := Nat) (n := 2) (fun i => [.own 0 ((I.take i).map .str), .own 1 ((Bq.take i).map .str), .p (.int .i64 i)]) (fun i => [.row i 1, .row i 1]) (fun i => i ≤ g.length) (fun i => g.length - i) [.slot 0 1, .slot 1 1] 0 (fun _ => rfl) ⟨by simp, by simp⟩ (by simp) (fun i B h1 hB => ?_)
  simp [runnelref10_IDs_L1]
  intro hml
  refine ⟨fun hlt => ?_, fun hge => ?_⟩
  · obtain ⟨k1, k2, k3, k4, k5⟩ := hins i hlt
    have hp := plainR_spec g i hlt (I.take i) (fun j hj => by have := k1 j hj; simp; omega) k4 k2 (by omega) (by rw [hbase i hlt]; exact k5)
    obtain ⟨n1, n2⟩ := hnext i hlt
    rw [hbase i hlt] at n1 n2 hp
    have hcnt : (Bq.take i).count (baseU g[i] I) ≤ 1000 := by
      have := List.count_le_length (a := baseU g[i] I) (l := Bq.take i)
      simp at this
      omega
    generalize hbs : baseU g[i] I = b at *
    simp only [List.map_take] at hp
    refine aCallW_of rfl rfl hp ?_
    simp
    refine loop_by (σ := Nat) (n := 2) (fun k => [.p (.int .i64 ((Bq.take k).count b : Nat)), .p (.int .i64 k)]) (fun _ => [.row i 1, .row i 1]) (fun k => k ≤ i) (fun k => i - k) [] 0 (fun _ => rfl) ⟨by simp, by simp⟩ (by simp) (fun k B2 hk hB2 => ?_)
    simp [runnelref10_IDs_L2]
    refine ⟨fun hlt2 => ?_, fun hge2 => ?_⟩
    · have hkb : k < Bq.length := by omega
      have hck : (Bq.take (k + 1)).count b = (Bq.take k).count b + if Bq[k] = b then 1 else 0 := by
        rw [← take_snoc hkb, List.count_append, List.count_singleton]
        simp
      have hle : (Bq.take k).count b ≤ 1000 := by
        have := List.count_le_length (a := b) (l := Bq.take k)
        simp at this
        omega
      have hb2 := hB2 (k + 1) [.row i 1, .row i 1] (by omega) (by omega) (by simp) (by simp [Ob.below, AV.under1]) (by simp) (by simp [AV.under, AV.under1])
      rw [hck] at hb2
      simp [hkb, hlt2]
      refine ⟨by omega, fun hz => ?_, fun hz => ?_⟩
      · rw [if_pos hz] at hb2
        rw [IntWalk.i64_in _ (by omega), IntWalk.i64_in _ (by omega)]
        simpa using hb2
      · rw [if_neg hz] at hb2
        rw [IntWalk.i64_in _ (by omega)]
        simpa using hb2
    · have : k = i := by omega
      subst this
      have app : ∀ (J : List (List UInt8)) x, J.length = g.length → appendable 1 16 (List.take k (List.map T.str J)) [T.str x] := fun J x hJ => ⟨fun e he => isS_cells J e (List.mem_of_mem_take he), by simp, by simp; omega⟩
      have hb3 := hB (k + 1) [.row (k + 1) 1, .row (k + 1) 1] (by omega) (by omega) (by simp) (by simp [Ob.below, AV.under1]) (by simp) (by simp [AV.under, AV.under1])
      rw [n1, n2] at hb3
      simp [-List.count_pos_iff, fullU, sufU] at hb3
      refine ⟨by omega, app _ _ hlen2, fun hz => ⟨by simp only [maxLen]; omega, ?_⟩, fun hz => ⟨by omega, app _ _ hlen, ?_⟩⟩
      · have hz : (Bq.take k).count b ≠ 0 := fun h => (List.count_eq_zero.1 h) hz
        generalize (Bq.take k).count b = c at *
        have hit := itoa_len (n := (c : Int)) (by constructor <;> omega)
        have hit2 : Lib.itoa (c : Int) = Lib.decDigits c := by unfold Lib.itoa; rw [if_neg (by omega)]; simp
        refine aCallW_of rfl rfl (decimal_spec c (by constructor <;> omega)) ?_
        simp
        refine ⟨by simp only [maxLen]; omega, by omega, app _ _ hlen, ?_⟩
        rw [IntWalk.i64_in _ (by omega), hit2]
        rw [if_neg hz] at hb3
        simpa using hb3
      · have hz : (Bq.take k).count b = 0 := List.count_eq_zero.2 hz
        rw [hz, if_pos rfl] at hb3
        rw [IntWalk.i64_in _ (by omega)]
        simpa using hb3
  · rw [List.take_of_length_le (show (I.map T.str).length ≤ i by simp; omega)]
    exact gives_pure (by simp [AV.pur])

set_option maxRecDepth 100000 in
theorem SchemaR_spec (g : List Nd) (hT : Abs.Fn Tryz.prog runnelref10_Types_i [] [.p (.slice (g.map encN))] (.p (.slice ((typesR [] g).map encT))) []) (hok : ∀ n ∈ g, OkN n) (i : Nat) (hi : i < g.length)
    (hk : g[i].op.k = 5 ∨ g[i].op.k = 6 ∨ g[i].op.k = 7 → ∃ j r u, g[i].ins = j :: r ∧ 0 ≤ j ∧ j < (typesR [] g).length ∧ checkE g[i].op.key ((typesR [] g).getD j.toNat (.mk 0 [])) = .ok u)
    (hI : I64 g[i].op.f ∧ I64 g[i].op.n ∧ I64 g[i].mx) (ht : g[i].op.k = 1 → checkT g[i].op.t 0 = 0) :
    Abs.Fn Tryz.prog runnelref10_Schema_i [] [.p (.slice (g.map encN)), .p (.int .i64 i)] (.p (.str (schemaU (typesR [] g) g[i]))) [] := by
  have hkl := keyTU_le (typesR [] g) g[i]
  have hs1 : schemaU (typesR [] g) g[i] = if g[i].op.k = 1 then TJ.join [32] [[115, 111, 117, 114, 99, 101], textT g[i].op.t, Lib.itoa g[i].mx]
    else if g[i].op.k = 5 then TJ.join [32] [[114, 101, 100, 117, 99, 101], Lib.itoa g[i].op.f, keyTU (typesR [] g) g[i], Lib.itoa g[i].mx]
    else if g[i].op.k = 6 then TJ.join [32] [[116, 97, 108, 108, 121], Lib.itoa g[i].op.n, keyTU (typesR [] g) g[i], Lib.itoa g[i].mx]
    else if g[i].op.k = 7 then TJ.join [32] [[100, 105, 115, 116, 105, 110, 99, 116], keyTU (typesR [] g) g[i], Lib.itoa g[i].mx]
    else [] := rfl
  have hkt : g[i].op.k = 5 ∨ g[i].op.k = 6 ∨ g[i].op.k = 7 → ∃ j r u, g[i].ins = j :: r ∧ 0 ≤ j ∧ j < (typesR [] g).length ∧ checkE g[i].op.key ((typesR [] g).getD j.toNat (.mk 0 [])) = .ok u ∧ keyTU (typesR [] g) g[i] = textT u := by
    intro h
    obtain ⟨j, r, u, h1, h2, h3, h4⟩ := hk h
    refine ⟨j, r, u, h1, h2, h3, h4, ?_⟩
    unfold keyTU
    rw [h1]
    simp only [List.getD_cons_zero]
    rw [h4]
    rfl
  generalize hks : keyTU (typesR [] g) g[i] = KT at *
  generalize schemaU (typesR [] g) g[i] = S at *
  generalize typesR [] g = ts at *
  have hokn := hok _ (List.getElem_mem hi)
  obtain ⟨n, hn⟩ : ∃ n, n = g[i] := ⟨_, rfl⟩
  rw [← hn] at hk hI ht hkt hs1 hokn
  have hi1 := itoa_len hI.1
  have hi2 := itoa_len hI.2.1
  have hi3 := itoa_len hI.2.2
  have hkd := KeyedR_spec n.op
  simp only [encO_eta] at hkd
  apply runnelref10_Schema_fn
  simp [runnelref10_Schema, hi, ← hn]
  refine aCallW_of rfl rfl hT ?_
  simp [hi, ← hn]
  refine ⟨fun h1 => ?_, fun h1 => ?_⟩
  · have htl := textT_le (ht h1)
    have hx := typeTextR_spec n.op.t 0 (ht h1) (by omega)
    rw [encT_eta] at hx
    refine aCallW_of rfl rfl hx ?_
    simp [hi, ← hn]
    refine ⟨by simp only [maxLen]; omega, by simp only [maxLen]; omega, aCallW_of rfl rfl (decimal_spec _ hI.2.2) ?_⟩
    simp
    refine ⟨by simp only [maxLen]; omega, gives_p ?_⟩
    rw [hs1, if_pos h1]
    simp [TJ.join, TJ.tail]
  refine aCallW_of rfl rfl hkd ?_
  simp [keyedO, hi, ← hn]
  refine ⟨fun hkk => ?_, fun h5 h6 h7 => gives_p ?_⟩
  · obtain ⟨j, r, u, g1, g2, g3, g4, g5⟩ := hkt hkk
    have g6 : j.toNat < ts.length := by omega
    have g7 : ts.getD j.toNat (.mk 0 []) = ts[j.toNat] := by simp [List.getD_eq_getElem?_getD, g6]
    rw [g7] at g4
    have hce := CheckExprR_spec n.op.key ts[j.toNat] hokn.key.1 hokn.key.2
    rw [g4] at hce
    have hu := checkE_valid g4
    have hx := typeTextR_spec u 0 hu (by have := textT_le hu; omega)
    rw [encT_eta] at hx
    rw [g5] at hs1 hkl
    simp [hi, ← hn, g1, g2, g3, g6]
    (first | refine aCall_fold rfl ?_ | refine aCallT_fold rfl ?_)
    (first | refine aCallU_p (hce) ?_ | refine aCallTU_p (hce) ?_ | refine aCallU_of (hce) ?_ | refine aCallTU_of (hce) rfl ?_ | refine aCallTU_of (hce) (by simp [AV.pur]; rfl) ?_)
    try simp [tyR, R.get, R.num, hi, ← hn]
    refine ⟨fun h5 => ?_, fun h5 => ⟨fun h6 => ?_, fun h6 => ?_⟩⟩
    · refine aCallW_of rfl rfl (decimal_spec _ hI.1) ?_
      simp [hi, ← hn]
      refine ⟨by simp only [maxLen]; omega, by simp only [maxLen]; omega, aCallW_of rfl rfl hx ?_⟩
      simp [hi, ← hn]
      refine ⟨by simp only [maxLen]; omega, by simp only [maxLen]; omega, aCallW_of rfl rfl (decimal_spec _ hI.2.2) ?_⟩
      simp
      refine ⟨by simp only [maxLen]; omega, gives_p ?_⟩
      rw [hs1, if_neg h1, if_pos h5]
      simp [TJ.join, TJ.tail]
    · refine aCallW_of rfl rfl (decimal_spec _ hI.2.1) ?_
      simp [hi, ← hn]
      refine ⟨by simp only [maxLen]; omega, by simp only [maxLen]; omega, aCallW_of rfl rfl hx ?_⟩
      simp [hi, ← hn]
      refine ⟨by simp only [maxLen]; omega, by simp only [maxLen]; omega, aCallW_of rfl rfl (decimal_spec _ hI.2.2) ?_⟩
      simp
      refine ⟨by simp only [maxLen]; omega, gives_p ?_⟩
      rw [hs1, if_neg h1, if_neg h5, if_pos h6]
      simp [TJ.join, TJ.tail]
    · refine ⟨by simp only [maxLen]; omega, aCallW_of rfl rfl hx ?_⟩
      simp [hi, ← hn]
      refine ⟨by simp only [maxLen]; omega, by simp only [maxLen]; omega, aCallW_of rfl rfl (decimal_spec _ hI.2.2) ?_⟩
      simp
      refine ⟨by simp only [maxLen]; omega, gives_p ?_⟩
      rw [hs1, if_neg h1, if_neg h5, if_neg h6, if_pos (by omega)]
      simp [TJ.join, TJ.tail]
  · rw [hs1, if_neg h1, if_neg h5, if_neg h6, if_neg h7]

end Go.Proofs.YtijnpcociedigaaGreatDoor
end

section
/- Jobs that may be: their names, their types, alike in the program and in the document. -/
set_option linter.unusedSimpArgs false
set_option linter.unusedVariables false
namespace Go.Proofs.YtijnpcociedigaaGreatDoor
open Go Go.Abs

theorem ckO_valid {t : Ty} : ∀ {es : List Ex} {ts : List Ty}, ckO t es = .ok ts → ts.length = es.length ∧ ∀ u ∈ ts, checkT u 0 = 0
  | [], ts, h => by
    simp only [ckO, R.ok.injEq] at h
    subst h
    simp
  | e :: r, ts, h => by
    simp only [ckO] at h
    split at h
    · simp at h
    · rename_i u hu
      split at h
      · simp at h
      · rename_i l hl
        simp only [R.ok.injEq] at h
        subst h
        obtain ⟨h1, h2⟩ := ckO_valid hl
        refine ⟨by simp [h1], fun v hv => ?_⟩
        rcases List.mem_cons.1 hv with rfl | hv
        · exact checkE_valid hu
        · exact h2 v hv

theorem getD_valid {l : List Ty} (h : ∀ u ∈ l, checkT u 0 = 0) (hl : 0 < l.length) : checkT (l.getD 0 (.mk 0 [])) 0 = 0 := by
  cases l with
  | nil => simp at hl
  | cons a r => exact h a (by simp)

/-- What the document lets out the program lets out. -/
theorem outP_of {o : Opr} {ins : List Ty} {t : Ty} (h : outO o ins = .ok t) : outP o ins = .ok t := by
  unfold outO at h
  unfold outP
  by_cases h1 : o.k < 1 ∨ 9 < o.k
  · rw [if_pos h1] at h; simp at h
  rw [if_neg h1] at h ⊢
  by_cases h2 : (o.k = 1 ∨ o.k = 9) ∧ nameS o.name = false
  · rw [if_pos h2] at h; simp at h
  rw [if_neg h2] at h ⊢
  by_cases h3 : fieldsO o = false ∨ insO o.k ins.length = false
  · rw [if_pos h3] at h; simp at h
  rw [if_neg h3] at h ⊢
  have hf : fieldsO o = true := by cases hh : fieldsO o <;> simp_all
  have hi : insO o.k ins.length = true := by cases hh : insO o.k ins.length <;> simp_all
  by_cases h4 : ins.any (fun t => decide (checkT t 0 ≠ 0)) = true
  · rw [if_pos h4] at h; simp at h
  rw [if_neg h4] at h
  have hv : ∀ u ∈ ins, checkT u 0 = 0 := by
    intro u hu
    by_cases hz : checkT u 0 = 0
    · exact hz
    · exact absurd (List.any_eq_true.2 ⟨u, hu, by simpa using hz⟩) h4
  by_cases h5 : o.k = 1
  · rw [if_pos h5] at h
    split at h
    · simp at h
    · rename_i ht
      have ht := Classical.not_not.1 ht
      rw [if_neg (by simp only [not_or, not_and]; exact ⟨h4, fun _ => Classical.not_not.2 ht⟩)]
      have hk : keyedO o.k = false := by simp [keyedO, h5]
      have hes : o.es = [] := (fieldsO_len hf).2.2 (by omega) (by omega)
      simp only [hk, hes, ckO, Bool.false_eq_true, if_false]
      have hfit : fitsO o [] ins = true := by simp [fitsO, h5]
      have hg : goesO o noT [] ins = o.t := by simp [goesO, h5]
      rw [lastO, hfit, hg, if_neg (by simp), if_neg (by simpa using ht)]
      exact h
  · rw [if_neg h5] at h
    rw [if_neg (by simp only [not_or, not_and]; exact ⟨h4, fun e => absurd e h5⟩)]
    split at h
    · simp at h
    · rename_i key hkey
      have hkey' : (if keyedO o.k = true then checkE o.key (ins.getD 0 noT) else .ok noT) = R.ok key := hkey
      rw [hkey']
      simp only
      have hkv : keyedO o.k = true → checkT key 0 = 0 := by
        intro hk
        rw [if_pos hk] at hkey
        exact checkE_valid hkey
      split at h
      · simp at h
      · rename_i ts hts
        obtain ⟨hl, htv⟩ := ckO_valid hts
        have hts' : ckO (ins.getD 0 noT) o.es = .ok ts := hts
        rw [hts']
        simp only
        unfold madeO at h
        unfold lastO
        have hlen := fieldsO_len hf
        have fin : ∀ u, fitsO o ts ins = true → goesO o key ts ins = u → checkT u 0 = 0 → R.ok u = R.ok t → (if fitsO o ts ins = false then R.er 5 else if checkT (goesO o key ts ins) 0 ≠ 0 then .er (checkT (goesO o key ts ins) 0) else .ok (goesO o key ts ins)) = R.ok t := by
          intro u a b c d
          rw [a, b, if_neg (by simp), if_neg (by simpa using c)]
          exact d
        have hn : (∀ k, noT = Ty.mk k [] → k = 0) := fun k e => by simp only [noT, Ty.mk.injEq] at e; exact e.1.symm
        by_cases k2 : o.k = 2
        · rw [if_pos k2] at h
          exact fin _ (by simp [fitsO, k2]) (by simp only [goesO]; rw [if_neg h5, if_pos (.inl k2)]; rfl) (getD_valid htv (by have := hlen.1 (by omega); omega)) h
        rw [if_neg k2] at h
        by_cases k3 : o.k = 3
        · rw [if_pos k3] at h
          split at h
          · rename_i hb
            have hb' : (ts.getD 0 noT).kind = 2 := hb
            refine fin _ (by simp only [fitsO]; rw [if_pos k3]; simpa using hb') (by simp only [goesO]; rw [if_neg h5, if_neg (by omega), if_neg (by omega), if_neg (by omega)]; rfl) (getD_valid hv ?_) h
            simp [insO, k3] at hi
            omega
          · simp at h
        rw [if_neg k3] at h
        by_cases k4 : o.k = 4
        · rw [if_pos k4] at h
          split at h
          · rename_i hb
            have hb' : ts.all (fun t => sameT t (ts.getD 0 noT)) = true := hb
            exact fin _ (by simp only [fitsO]; rw [if_neg k3, if_pos k4]; exact hb') (by simp only [goesO]; rw [if_neg h5, if_pos (.inr k4)]; rfl) (getD_valid htv (by have := (hlen.2.1 k4).1; omega)) h
          · simp at h
        rw [if_neg k4] at h
        by_cases k56 : o.k = 5 ∨ o.k = 6
        · rw [if_pos k56] at h
          split at h
          · simp at h
          · rename_i hb
            split at h
            · simp at h
            · rename_i hc
              have hc := Classical.not_not.1 hc
              refine fin _ ?_ (by simp only [goesO]; rw [if_neg h5, if_neg (by omega), if_pos k56]) hc h
              simp only [fitsO]
              rw [if_neg k3, if_neg k4]
              by_cases k5 : o.k = 5
              · rw [if_pos k5]
                have : (ts.getD 0 noT).kind = 1 := Classical.not_not.1 fun hne => hb ⟨k5, hne⟩
                simpa using this
              · rw [if_neg k5, if_neg (by omega)]
        rw [if_neg k56] at h
        by_cases k7 : o.k = 7
        · rw [if_pos k7] at h
          exact fin _ (by simp only [fitsO]; rw [if_neg k3, if_neg k4, if_neg (by omega), if_neg (by omega)]) (by simp only [goesO]; rw [if_neg h5, if_neg (by omega), if_neg k56, if_pos k7]) (hkv (by simp [keyedO, k7])) h
        rw [if_neg k7] at h
        by_cases k8 : o.k = 8
        · rw [if_pos k8] at h
          split at h
          · rename_i hb
            have hb' : ins.all (fun t => sameT t (ins.getD 0 noT)) = true := hb
            refine fin _ (by simp only [fitsO]; rw [if_neg k3, if_neg k4, if_neg (by omega), if_pos k8]; exact hb') (by simp only [goesO]; rw [if_neg h5, if_neg (by omega), if_neg k56, if_neg k7]; rfl) (getD_valid hv ?_) h
            simp [insO, k8] at hi
            omega
          · simp at h
        rw [if_neg k8] at h
        refine fin _ (by simp only [fitsO]; rw [if_neg k3, if_neg k4, if_neg (by omega), if_neg k8]) (by simp only [goesO]; rw [if_neg h5, if_neg (by omega), if_neg k56, if_neg k7]; rfl) (getD_valid hv ?_) h
        simp [insO, h5, k8] at hi
        omega

/-- What a node has that may be. -/
structure OkG (ahead : List Nd) (ts : List Ty) (n : Nd) : Prop where
  uid : n.uid ≠ [] → nameS n.uid = true
  grp : nameS n.grp = true
  twice : n.uid ≠ [] → ahead.any (fun o => decide (o.uid = n.uid)) = false
  par : 1 ≤ n.par ∧ n.par ≤ 4 ∧ n.par ≤ n.mx ∧ n.mx ≤ 16
  seen : seenIn ahead [] n.ins = true
  wt : wtN (wtsG [] ahead) n ≤ 64
  out : ∃ t, outO n.op (n.ins.map (fun i => ts.getD i.toNat (.mk 0 []))) = .ok t
  name : (n.op.k = 1 ∨ n.op.k = 9) → ahead.any (fun o => decide (o.op.k = n.op.k) && decide (o.op.name = n.op.name)) = false

theorem okG_of {ahead : List Nd} {ts : List Ty} {n : Nd} (h : nodeG ahead ts n = 0) : OkG ahead ts n := by
  have hs := nodeG_seen h
  unfold nodeG at h
  split at h
  · simp at h
  rename_i h1
  split at h
  · simp at h
  rename_i h2
  split at h
  · simp at h
  rename_i h3
  split at h
  · simp at h
  rename_i h4
  cases ho : outO n.op (n.ins.map (fun i => ts.getD i.toNat (.mk 0 []))) with
  | er e =>
    rw [ho] at h
    exact absurd h (outO_er ho)
  | ok t =>
    rw [ho] at h
    simp only [lastG] at h
    split at h
    · simp at h
    rename_i h5
    split at h
    · simp at h
    rename_i h6
    refine ⟨fun hu => ?_, ?_, fun hu => ?_, by omega, hs, by omega, ⟨t, ho⟩, fun hk => ?_⟩
    · cases hh : nameS n.uid
      · exact absurd (.inl ⟨hu, hh⟩) h1
      · rfl
    · cases hh : nameS n.grp
      · exact absurd (.inr hh) h1
      · rfl
    · rw [Bool.eq_false_iff]; exact fun e => h2 ⟨hu, e⟩
    · rw [Bool.eq_false_iff]; exact fun e => h6 ⟨hk, e⟩

theorem goR_ok : ∀ (r ahead : List Nd), goR ahead r = none → ∀ k (hk : k < r.length), OkG (ahead ++ r.take k) (typesR [] (ahead ++ r.take k)) r[k]
  | [], ahead, h, k, hk => by simp at hk
  | n :: r, ahead, h, k, hk => by
    rw [goR] at h
    split at h
    · simp at h
    · rename_i h0
      have h1 : nodeG ahead (typesR [] ahead) n = 0 := by omega
      cases k with
      | zero => simpa using okG_of h1
      | succ k =>
        have := goR_ok r _ h k (by simpa using hk)
        simpa using this

theorem okG_all {g : List Nd} (h : (checkR g).2 = 0) : g ≠ [] ∧ goR [] g = none ∧ ∀ k (hk : k < g.length), OkG (g.take k) (typesR [] (g.take k)) g[k] := by
  have hn : goR [] g = none := by
    have G := h
    unfold checkR at G
    split at G
    · simp at G
    split at G
    · simp at G
    rename_i h1 h2
    cases hg : goR [] g with
    | none => rfl
    | some p =>
      obtain ⟨i, e⟩ := p
      rw [hg] at G
      simp only at G
      exfalso
      have : ∀ (r ahead : List Nd), goR ahead r = some (i, e) → e ≠ 0 := by
        intro r
        induction r with
        | nil => intro a h; simp [goR] at h
        | cons n r ih =>
          intro a h
          rw [goR] at h
          split at h
          · rename_i h0; simp at h; omega
          · exact ih _ h
      exact this g [] hg G
  refine ⟨fun e => ?_, hn, fun k hk => by simpa using goR_ok g [] hn k hk⟩
  subst e
  simp [checkR] at h

/-- What is wrong with a node of which nothing is. -/
theorem nodeN_of {ahead : List Nd} {ts : List Ty} {n : Nd} (h : OkG ahead ts n) : nodeN ahead ts n = ((outO n.op (n.ins.map (fun i => ts.getD i.toNat (.mk 0 [])))).get (.mk 0 []), 0) := by
  obtain ⟨t, ht⟩ := h.out
  have hf := (outO_ok ht).1
  unfold nodeN
  rw [if_neg (by rintro (⟨a, b⟩ | b)
                 · rw [h.uid a] at b; simp at b
                 · rw [h.grp] at b; simp at b), if_neg (by rintro ⟨a, b⟩; rw [h.twice a] at b; simp at b), if_neg (by
    have := h.par
    have := h.seen
    rintro (a | a | a | a | a)
    · omega
    · omega
    · omega
    · omega
    · rw [h.seen] at a; simp at a), outP_of ht, ht]
  simp only [R.get]
  have := h.wt
  rw [if_neg (by omega), if_neg]
  rintro ⟨a, b⟩
  by_cases hk : n.op.k = 1 ∨ n.op.k = 9
  · rw [h.name hk] at b; simp at b
  · simp only [fieldsO, Bool.and_eq_true, Bool.or_eq_true, decide_eq_true_eq] at hf
    rcases hf.1.1.1.1.1 with q | q
    · exact hk q
    · exact a q

theorem goG_of : ∀ (r ahead : List Nd), (∀ k (hk : k < r.length), OkG (ahead ++ r.take k) (typesR [] (ahead ++ r.take k)) r[k]) → goG ahead (typesR [] ahead) r = .ok (typesR [] (ahead ++ r))
  | [], ahead, h => by simp [goG]
  | n :: r, ahead, h => by
    have h0 := h 0 (by simp)
    simp only [List.take_zero, List.append_nil, List.getElem_cons_zero] at h0
    rw [goG, nodeN_of h0]
    simp only [ne_eq, not_true_eq_false, if_false]
    have := goG_of r (ahead ++ [n]) (fun k hk => by
      have := h (k + 1) (by simpa using hk)
      simpa using this)
    rw [typesR_snoc] at this
    rw [this]
    simp

/-- The types of a job that may be. -/
theorem typesG_of {g : List Nd} (h : (checkR g).2 = 0) : typesG g = typesR [] g := by
  have := goG_of g [] (fun k hk => by simpa using (okG_all h).2.2 k hk)
  unfold typesG
  have e : goG [] [] g = .ok (typesR [] g) := by simpa [typesR] using this
  rw [e]

end Go.Proofs.YtijnpcociedigaaGreatDoor
end

section
/- Jobs that may be: what their names and states ask for. -/
set_option linter.unusedSimpArgs false
set_option linter.unusedVariables false
namespace Go.Proofs.YtijnpcociedigaaGreatDoor
open Go Go.Abs

theorem sum_ints (f : Int → Nat) : ∀ (k : Nat) (l : List Int), l.Nodup → (∀ i ∈ l, 0 ≤ i ∧ i < k) → (l.map f).sum ≤ ((List.range k).map fun j : Nat => f (j : Int)).sum
  | 0, l, _, h => by
    cases l with
    | nil => simp
    | cons a l => have := h a (by simp); omega
  | k + 1, l, hn, h => by
    rw [List.range_succ, List.map_append, List.sum_append]
    by_cases hk : (k : Int) ∈ l
    · have hp := List.perm_cons_erase hk
      have e1 : (l.map f).sum = f k + ((l.erase (k : Int)).map f).sum := by
        have := (hp.map f).sum_nat
        simpa using this
      have := sum_ints f k (l.erase (k : Int)) (hn.erase _) (fun i hi => by
        have h1 := h i (List.mem_of_mem_erase hi)
        have h2 : i ≠ (k : Int) := fun e => by subst e; exact (List.Nodup.not_mem_erase hn) hi
        omega)
      simp
      omega
    · have := sum_ints f k l hn (fun i hi => by
        have h1 := h i hi
        have h2 : i ≠ (k : Int) := fun e => hk (e ▸ hi)
        omega)
      omega

theorem join_sum (l : List (List UInt8)) : (TJ.join [44] l).length ≤ (l.map fun x => x.length + 1).sum := by
  have ht : ∀ l : List (List UInt8), (TJ.tail [44] l).length ≤ (l.map fun x => x.length + 1).sum := by
    intro l
    induction l with
    | nil => simp [TJ.tail]
    | cons x r ih => simp only [TJ.tail, List.length_append, List.length_cons, List.length_nil, List.map_cons, List.sum_cons]; omega
  cases l with
  | nil => simp [TJ.join]
  | cons x r =>
    have := ht r
    simp only [TJ.join, List.length_append, List.map_cons, List.sum_cons]
    omega

/-- How long the names ahead are. -/
def idSum (g : List Nd) (k : Nat) : Nat := ((List.range k).map fun j => (idAt g j).length + 1).sum
/-- What a node's name is made of. -/
def SmN (n : Nd) : Prop := n.ins.Nodup ∧ n.uid.length ≤ 16 ∧ n.op.name.length ≤ 16 ∧ I64 n.op.k

theorem base_len {g : List Nd} (G : GoodU g) {k : Nat} (hk : k < g.length) (hd : SmN g[k]) : (baseU g[k] (idsU g)).length ≤ 58 + idSum g k := by
  obtain ⟨h1, h2, h3, h4⟩ := hd
  unfold baseU
  split
  · have hit := itoa_len h4
    have hj := join_sum (g[k].ins.map fun i => (idsU g).getD i.toNat [])
    rw [List.map_map] at hj
    have hs := sum_ints (fun i => (idAt g i.toNat).length + 1) k g[k].ins h1 (G.ins k hk)
    simp only [Int.toNat_natCast] at hs
    have e : ((fun x : List UInt8 => x.length + 1) ∘ fun i : Int => (idsU g).getD i.toNat []) = fun i => (idAt g i.toNat).length + 1 := rfl
    rw [e] at hj
    unfold idSum
    simp only [List.length_cons, List.length_append, List.length_nil]
    omega
  · simp only [List.length_cons]
    omega

/-- Names double in length from node to node at most. -/
theorem id_sum {g : List Nd} (G : GoodU g) (hl : g.length ≤ 1000) (hd : ∀ k (hk : k < g.length), SmN g[k]) : ∀ k, k ≤ g.length → idSum g k + 100 ≤ 100 * 2 ^ k
  | 0, _ => by simp [idSum]
  | k + 1, hk => by
    have ih := id_sum G hl hd k (by omega)
    have hb := base_len G (show k < g.length by omega) (hd k (by omega))
    have e : idSum g (k + 1) = idSum g k + ((idAt g k).length + 1) := by
      unfold idSum
      rw [List.range_succ, List.map_append, List.sum_append]
      simp
    have hi := id_at G (show k < g.length by omega)
    have hcnt : ((bareU g).take k).count (bareAt g k) ≤ 1000 := by
      have h2 : ((bareU g).take k).length ≤ 1000 := by rw [List.length_take, bareU_length]; omega
      exact Nat.le_trans List.count_le_length h2
    have hlen : (idAt g k).length ≤ (baseU g[k] (idsU g)).length + 21 := by
      rw [hi, fullU, bare_at G (show k < g.length by omega), List.length_append]
      have : (sufU (((bareU g).take k).count (bareAt g k))).length ≤ 21 := by
        generalize ((bareU g).take k).count (bareAt g k) = c at *
        unfold sufU
        split
        · simp
        · have hit := itoa_len (n := (c : Int)) (by constructor <;> omega)
          have hit2 : Lib.itoa (c : Int) = Lib.decDigits c := by unfold Lib.itoa; rw [if_neg (by omega)]; simp
          rw [hit2] at hit
          simp only [List.length_cons]
          omega
      rw [bare_at G (show k < g.length by omega)] at this
      omega
    rw [e, Nat.pow_succ]
    omega

theorem base_le {g : List Nd} (G : GoodU g) (hl : g.length ≤ 16) (hd : ∀ k (hk : k < g.length), SmN g[k]) {k : Nat} (hk : k < g.length) : (baseU g[k] (idsU g)).length ≤ 1000000000 := by
  have h1 := base_len G hk (hd k hk)
  have h2 := id_sum G (by omega) hd k (by omega)
  have h3 : 2 ^ k ≤ 2 ^ 16 := Nat.pow_le_pow_right (by omega) (by omega)
  have h4 : (2:Nat) ^ 16 = 65536 := by decide
  omega

theorem nameS_facts {s : List UInt8} (h : nameS s = true) : s.length ≤ 16 ∧ ∀ c ∈ s, plainB c = true := by
  unfold nameS at h
  split at h
  · simp at h
  · rename_i c r
    simp only [Bool.and_eq_true, decide_eq_true_eq, List.all_eq_true] at h
    refine ⟨by simp only [List.length_cons]; omega, fun x hx => ?_⟩
    have := h.2 x hx
    simp only [nameC, Bool.or_eq_true, Bool.and_eq_true, decide_eq_true_eq] at this
    simp only [plainB, Bool.and_eq_true, decide_eq_true_eq]
    refine ⟨⟨?_, ?_⟩, ?_⟩ <;> (rintro rfl; simp at this)

theorem out_name {o : Opr} {ins : List Ty} {t : Ty} (h : outO o ins = .ok t) : (nameS o.name = true ∨ o.name = []) ∧ (o.k = 1 → checkT o.t 0 = 0) := by
  have hf := (outO_ok h).1
  unfold outO at h
  split at h
  · simp at h
  split at h
  · simp at h
  rename_i h2
  split at h
  · simp at h
  split at h
  · simp at h
  refine ⟨?_, fun hk => ?_⟩
  · by_cases hk : o.k = 1 ∨ o.k = 9
    · left
      cases hh : nameS o.name
      · exact absurd ⟨hk, hh⟩ h2
      · rfl
    · right
      simp only [fieldsO, Bool.and_eq_true, Bool.or_eq_true, decide_eq_true_eq] at hf
      rcases hf.1.1.1.1.1 with q | q
      · exact absurd q hk
      · exact q
  · rw [if_pos hk] at h
    split at h
    · simp at h
    · rename_i q; exact Classical.not_not.1 q

theorem fieldsO_nums {o : Opr} (h : fieldsO o = true) : I64 o.f ∧ I64 o.n := by
  simp only [fieldsO, Bool.and_eq_true] at h
  obtain ⟨⟨_, h1⟩, h2⟩ := h
  constructor
  · split at h1 <;> simp at h1 <;> constructor <;> omega
  · split at h2 <;> simp at h2 <;> constructor <;> omega

structure UidF (g : List Nd) : Prop where
  good : GoodU g
  len : g.length ≤ 16
  ne : g ≠ []
  small : ∀ k (hk : k < g.length), SmN g[k]
  mx : ∀ k (hk : k < g.length), 1 ≤ g[k].mx ∧ g[k].mx ≤ 16
  nums : ∀ k (hk : k < g.length), I64 g[k].op.f ∧ I64 g[k].op.n ∧ I64 g[k].mx
  key : ∀ k (hk : k < g.length), (g[k].op.k = 5 ∨ g[k].op.k = 6 ∨ g[k].op.k = 7) → ∃ j r u, g[k].ins = j :: r ∧ 0 ≤ j ∧ j < (typesR [] g).length ∧ checkE g[k].op.key ((typesR [] g).getD j.toNat (.mk 0 [])) = .ok u
  src : ∀ k (hk : k < g.length), g[k].op.k = 1 → checkT g[k].op.t 0 = 0
  uidn : ∀ k (hk : k < g.length), g[k].uid ≠ [] → nameS g[k].uid = true

theorem typesR_pre : ∀ (l : List Nd) (ts : List Ty), ∃ x, typesR ts l = ts ++ x
  | [], ts => ⟨[], by simp [typesR]⟩
  | n :: r, ts => by
    obtain ⟨x, hx⟩ := typesR_pre r (ts ++ [(outO n.op (n.ins.map (fun i => ts.getD i.toNat (.mk 0 [])))).get (.mk 0 [])])
    exact ⟨_, by rw [typesR, hx, List.append_assoc]⟩
theorem typesR_app : ∀ (a b : List Nd) (ts : List Ty), typesR ts (a ++ b) = typesR (typesR ts a) b
  | [], b, ts => rfl
  | n :: a, b, ts => by simp only [List.cons_append, typesR]; exact typesR_app a b _
theorem typesR_getD {g : List Nd} {i j : Nat} (hi : i ≤ g.length) (h : j < i) : (typesR [] (g.take i)).getD j (.mk 0 []) = (typesR [] g).getD j (.mk 0 []) := by
  have e := typesR_app (g.take i) (g.drop i) []
  rw [List.take_append_drop] at e
  obtain ⟨x, hx⟩ := typesR_pre (g.drop i) (typesR [] (g.take i))
  rw [hx] at e
  have hl : (typesR [] (g.take i)).length = i := by rw [typesR_length]; simp [hi]
  rw [e, List.getD_eq_getElem?_getD, List.getD_eq_getElem?_getD, List.getElem?_append_left (by omega)]

theorem uidF_of {g : List Nd} (h : (checkR g).2 = 0) : UidF g := by
  obtain ⟨hne, _, hok⟩ := okG_all h
  have hG := checkR_good h
  have huid : ∀ k (hk : k < g.length), g[k].uid ≠ [] → nameS g[k].uid = true := fun k hk => (hok k hk).uid
  have hnm : ∀ k (hk : k < g.length), nameS g[k].op.name = true ∨ g[k].op.name = [] := fun k hk => by
    obtain ⟨t, ht⟩ := (hok k hk).out
    exact (out_name ht).1
  have hrange : ∀ k (hk : k < g.length), 1 ≤ g[k].op.k ∧ g[k].op.k ≤ 9 := fun k hk => by
    obtain ⟨t, ht⟩ := (hok k hk).out
    exact (outO_ok ht).2.2.1
  have hlenR : (typesR [] g).length = g.length := by rw [typesR_length]; simp
  refine ⟨⟨fun k hk i hi => ?_, fun i k hi hk hu => ?_, fun k hk c hc => ?_, fun k hk c hc => ?_⟩, hG.len, hne, fun k hk => ⟨(hG.ins k hk).2, ?_, ?_, ?_⟩, fun k hk => ?_, fun k hk => ?_, fun k hk hkk => ?_, fun k hk hk1 => ?_, huid⟩
  · have := (hG.ins k hk).1 i hi; omega
  · have ht := (hok k hk).twice hu
    intro e
    have hm : (g.take k).any (fun o => decide (o.uid = g[k].uid)) = true := any_take hi (by omega) (by simpa using e)
    rw [hm] at ht
    simp at ht
  · rcases hnm k hk with q | q
    · exact (nameS_facts q).2 c hc
    · rw [q] at hc; simp at hc
  · by_cases hu : g[k].uid = []
    · rw [hu] at hc; simp at hc
    · exact (nameS_facts (huid k hk hu)).2 c hc
  · by_cases hu : g[k].uid = []
    · rw [hu]; simp
    · exact (nameS_facts (huid k hk hu)).1
  · rcases hnm k hk with q | q
    · exact (nameS_facts q).1
    · rw [q]; simp
  · have := hrange k hk
    constructor <;> omega
  · have := (hok k hk).par; omega
  · obtain ⟨t, ht⟩ := (hok k hk).out
    have := (hok k hk).par
    obtain ⟨h1, h2⟩ := fieldsO_nums (outO_ok ht).1
    exact ⟨h1, h2, by constructor <;> omega⟩
  · obtain ⟨t, ht⟩ := (hok k hk).out
    obtain ⟨_, h2, _, _, h5⟩ := outO_ok ht
    obtain ⟨u, hu⟩ := h5 (by simp [keyedO]; omega)
    rw [List.length_map] at h2
    have hl1 : g[k].ins.length = 1 := by
      unfold insO at h2
      rw [if_neg (by omega), if_neg (by omega)] at h2
      simpa using h2
    obtain ⟨j, r, hj⟩ : ∃ j r, g[k].ins = j :: r := by
      cases hh : g[k].ins with
      | nil => rw [hh] at hl1; simp at hl1
      | cons j r => exact ⟨j, r, rfl⟩
    have hjk := (hG.ins k hk).1 j (by rw [hj]; simp)
    refine ⟨j, r, u, hj, hjk.1, by omega, ?_⟩
    rw [hj] at hu
    simp only [List.map_cons, List.getD_cons_zero] at hu
    rw [typesR_getD (by omega) (by omega)] at hu
    exact hu
  · obtain ⟨t, ht⟩ := (hok k hk).out
    exact (out_name ht).2 hk1

end Go.Proofs.YtijnpcociedigaaGreatDoor
end

section
/- The laws of names that last: what all share. -/
set_option linter.unusedSimpArgs false
set_option linter.unusedVariables false
namespace Go.Proofs.YtijnpcociedigaaGreatDoor
open Go Go.Abs

attribute [local irreducible] Abs.Fn

theorem ids_asked {g : List Nd} (F : UidF g) (hok : ∀ n ∈ g, OkN n) : ∀ k (hk : k < g.length), (∀ i ∈ g[k].ins, 0 ≤ i ∧ i < k) ∧ g[k].ins.length ≤ 1000000 ∧ g[k].uid.length ≤ 1000000 ∧ I64 g[k].op.k ∧ (baseU g[k] (idsU g)).length ≤ 1000000000 := fun k hk => by
  obtain ⟨h1, h2, h3, h4⟩ := F.small k hk
  exact ⟨F.good.ins k hk, (hok _ (List.getElem_mem hk)).ins, by omega, h4, base_le F.good F.len F.small hk⟩

theorem idsF_spec {g : List Nd} (F : UidF g) (hok : ∀ n ∈ g, OkN n) : Abs.Fn Tryz.prog uid_IDs_i [] [.p (.slice (g.map encN))] (.p (.slice ((idsU g).map .str))) [] :=
  IDs_spec g (by have := F.len; omega) (ids_asked F hok)

theorem FindU_spec {g : List Nd} (hi : Abs.Fn Tryz.prog uid_IDs_i [] [.p (.slice (g.map encN))] (.p (.slice ((idsU g).map .str))) []) (hl : g.length ≤ 1000) (s : List UInt8) : Abs.Fn Tryz.prog uid_Find_i [] [.p (.slice (g.map encN)), .p (.str s)] (.p (.int .i64 (idxF (fun x => decide (x = s)) 0 (idsU g)))) [] := by
  apply uid_Find_fn
  simp [uid_Find]
  refine aCallW_of rfl rfl hi ?_
  simp
  refine aCallW_of rfl rfl (findU_spec (idsU g) s (by simp; omega)) ?_
  simp
  exact gives_p rfl

theorem SchemaF_spec {g : List Nd} (h : (checkR g).2 = 0) (hok : ∀ n ∈ g, OkN n) (i : Nat) (hi : i < g.length) : Abs.Fn Tryz.prog uid_Schema_i [] [.p (.slice (g.map encN)), .p (.int .i64 i)] (.p (.str (schemaU (typesR [] g) g[i]))) [] := by
  have F := uidF_of h
  have hT := typesG_of h
  have hl : (typesR [] g).length = g.length := by rw [typesR_length]; simp
  have := SchemaU_spec g hok (by have := F.len; omega) i hi (fun hk => by
    obtain ⟨j, r, u, h1, h2, h3, _⟩ := F.key i hi hk
    exact ⟨j, r, h1, h2, by rw [hT]; exact h3⟩) (F.nums i hi) (F.src i hi)
  rw [hT, if_neg (by omega)] at this
  exact this

def smallU : List Nd := [srcG 2 4, { mapG with uid := [109] }, sinkG 1 2 4]
theorem okN_smallU : ∀ n ∈ smallU, OkN n := by
  intro n hn
  simp only [smallU, List.mem_cons, List.not_mem_nil, or_false] at hn
  rcases hn with rfl | rfl | rfl
  · exact okN_src _ _
  · exact ⟨okN_map.es, okN_map.key, okN_map.len, okN_map.ins⟩
  · exact okN_sink _ _ _
theorem smallU_check : checkR smallU = (0, 0) := by rfl
theorem small_itoa : Lib.itoa 1 = [49] ∧ Lib.itoa 9 = [57] ∧ Lib.itoa 4 = [52] := by
  refine ⟨?_, ?_, ?_⟩ <;> (simp [Lib.itoa]; rw [Lib.decDigits]; decide)
theorem smallU_ids : idsU smallU = [[97, 58, 49, 58, 115, 40, 41], [117, 58, 109], [97, 58, 57, 58, 97, 40, 117, 58, 109, 41]] := by
  simp [idsU, idsGo, smallU, baseU, fullU, sufU, small_itoa.1, small_itoa.2.1, TJ.join, TJ.tail, List.count, List.countP, List.countP.go]
theorem smallU_types : typesR [] smallU = [.mk 1 [], .mk 1 [], .mk 1 []] := by rfl
theorem smallU_row : (smallG.map encN).set 1 ((encN mapG).putT 0 [.str [109]]) = smallU.map encN := by rfl

theorem known9_spec : Abs.Fn Tryz.prog runnellaw9_known_i [] [] (.p (.bool true)) [] := by
  have F := uidF_of (g := smallU) (by rw [smallU_check])
  have hi := idsF_spec F okN_smallU
  have f1 := FindU_spec hi (by simp [smallU]) [117, 58, 109]
  have f2 := FindU_spec hi (by simp [smallU]) [120]
  have s0 := SchemaF_spec (g := smallU) (by rw [smallU_check]) okN_smallU 0 (by simp [smallU])
  have s1 := SchemaF_spec (g := smallU) (by rw [smallU_check]) okN_smallU 1 (by simp [smallU])
  rw [smallU_ids] at hi f1 f2
  rw [smallU_types] at s0 s1
  have e0 : schemaU [.mk 1 [], .mk 1 [], .mk 1 []] smallU[0] = [115, 111, 117, 114, 99, 101, 32, 105, 110, 116, 32, 52] := by
    simp [smallU, schemaU, small_itoa.2.2, textT, wordS, TJ.join, TJ.tail]
  have e1 : schemaU [.mk 1 [], .mk 1 [], .mk 1 []] smallU[1] = [] := by
    simp [smallU, schemaU]
  rw [e0] at s0
  rw [e1] at s1
  have i1 : idxF (fun x : List UInt8 => decide (x = [117, 58, 109])) 0 [[97, 58, 49, 58, 115, 40, 41], [117, 58, 109], [97, 58, 57, 58, 97, 40, 117, 58, 109, 41]] = 1 := by rfl
  have i2 : idxF (fun x : List UInt8 => decide (x = [120])) 0 [[97, 58, 49, 58, 115, 40, 41], [117, 58, 109], [97, 58, 57, 58, 97, 40, 117, 58, 109, 41]] = -1 := by rfl
  rw [i1] at f1
  rw [i2] at f2
  have hrow : ∀ h, (smallG.map encN).set 1 (((smallG.map encN)[1]'h).putT 0 [.str [109]]) = smallU.map encN := fun h => smallU_row
  generalize hG : smallG.map encN = G at *
  have hG3 : G.length = 3 := by rw [← hG]; rfl
  apply runnellaw9_known_fn
  simp [runnellaw9_known]
  refine aCallW_of rfl rfl SmallR_spec ?_
  rw [hG]
  simp [hG3]
  rw [hrow]
  have hU3 : (smallU.map encN).length = 3 := rfl
  generalize smallU.map encN = U at *
  refine aCallZ_of (id := 0) rfl ?_
  simp [AV.unm, AV.unm1, hU3]
  rw [List.take_of_length_le (by omega)]
  refine aCallW_of rfl rfl hi ?_
  simp
  intro _
  refine aMerge_intro true (fun _ => ?_) ?_
  · refine aCallY_of (id := 0) rfl ?_
    simp [AV.unm, AV.unm1, hU3]
    rw [List.take_of_length_le (by omega)]
    refine aCallW_of rfl rfl f1 ?_
    simp
  simp
  refine aMerge_intro true (fun _ => ?_) ?_
  · refine aCallY_of (id := 0) rfl ?_
    simp [AV.unm, AV.unm1, hU3]
    rw [List.take_of_length_le (by omega)]
    refine aCallW_of rfl rfl f2 ?_
    simp
  simp
  refine aMerge_intro true (fun _ => ?_) ?_
  · refine aCallY_of (id := 0) rfl ?_
    simp [AV.unm, AV.unm1, hU3]
    rw [List.take_of_length_le (by omega)]
    refine aCallW_of rfl rfl s0 ?_
    simp
  simp
  refine aMerge_intro true (fun _ => ?_) ?_
  · refine aCallY_of (id := 0) rfl ?_
    simp [AV.unm, AV.unm1, hU3]
    rw [List.take_of_length_le (by omega)]
    refine aCallW_of rfl rfl s1 ?_
    simp
  simp
  exact gives_p rfl

end Go.Proofs.YtijnpcociedigaaGreatDoor
end

section
/- The law UidAny. -/
set_option linter.unusedSimpArgs false
set_option linter.unusedVariables false
namespace Go.Proofs.YtijnpcociedigaaGreatDoor
open Go Go.Abs

attribute [local irreducible] Abs.Fn

theorem idxF_at {α : Type} (p : α → Bool) : ∀ (l : List α) (k i : Nat) (hi : i < l.length), (∀ j (hj : j < i), p (l[j]'(by omega)) = false) → p l[i] = true → idxF p k l = ((k + i : Nat) : Int)
  | a :: r, k, 0, hi, h, h2 => by
    have h2 : p a = true := h2
    simp [idxF, h2]
  | a :: r, k, i + 1, hi, h, h2 => by
    have h0 : p a = false := h 0 (by omega)
    have := idxF_at p r (k + 1) i (by simpa using hi) (fun j hj => h (j + 1) (by omega)) h2
    simp only [idxF, h0, Bool.false_eq_true, if_false]
    rw [this]
    omega
theorem idxF_snoc {α : Type} (p : α → Bool) (a : α) : ∀ (l : List α) (k : Nat), idxF p k (l ++ [a]) = if idxF p k l < 0 then (if p a then ((k + l.length : Nat) : Int) else -1) else idxF p k l
  | [], k => by simp [idxF]
  | b :: r, k => by
    have e : ∀ x l, idxF p k (x :: l) = if p x = true then (k : Int) else idxF p (k + 1) l := fun _ _ => rfl
    rw [List.cons_append, e, e]
    by_cases h : p b = true
    · simp only [h, if_true]
      rw [if_neg (by omega)]
    · have h : p b = false := by simpa using h
      simp only [h, Bool.false_eq_true, if_false]
      rw [idxF_snoc p a r (k + 1)]
      simp only [List.length_cons]
      rw [show k + 1 + r.length = k + (r.length + 1) by omega]

theorem getD_el {l : List (List UInt8)} {i : Nat} (h : i < l.length) : l.getD i [] = l[i] := by simp [List.getD_eq_getElem?_getD, h]

theorem TypesRF_spec {g : List Nd} (F : UidF g) (hok : ∀ n ∈ g, OkN n) : Abs.Fn Tryz.prog runnelref10_Types_i [] [.p (.slice (g.map encN))] (.p (.slice ((typesR [] g).map encT))) [] := by
  have := typesR_spec g g.length (by omega) (by have := F.len; omega) hok (by rw [List.take_length]; exact fun k hk => ⟨F.good.ins k hk, (hok _ (List.getElem_mem hk)).ins⟩)
  rw [List.take_length] at this
  apply runnelref10_Types_fn
  simp [runnelref10_Types]
  intro _
  refine aCallW_of rfl rfl this ?_
  simp
  exact gives_p rfl

set_option maxRecDepth 100000 in
theorem UidAny_spec (g : List Nd) (s : List UInt8) (hs : s.length ≤ maxLen) : Abs.Fn Tryz.prog runnellaw9_UidAny_i [] [.p (.slice (g.map encN)), .p (.str s)] (.p (.bool true)) [] := by
  have hg := good8_spec g
  apply runnellaw9_UidAny_fn
  simp [runnellaw9_UidAny]
  refine aCallW_of rfl rfl known9_spec ?_
  simp
  refine aCallW_of rfl rfl hg ?_
  simp
  refine ⟨fun _ => gives_p rfl, fun hf hc hsl => ?_⟩
  obtain ⟨hl20, hfew⟩ := fewG_ok hf
  have hok : ∀ n ∈ g, OkN n := fun n hn => (hfew n hn).1
  have F := uidF_of hc
  have h16 := F.len
  have hIds := idsF_spec F hok
  have hIdsR := IDsR_spec g (by omega) (ids_asked F hok)
  have hFind := fun x => FindU_spec hIds (by omega) x
  have hTR := TypesRF_spec F hok
  have hSc := fun i hi => SchemaF_spec hc hok i hi
  have hScR := fun i hi => SchemaR_spec g hTR hok i hi (F.key i hi) (F.nums i hi) (F.src i hi)
  have hlen := idsU_length g
  have hap : ∀ i k (hik : i < k) (hk : k < (idsU g).length), (idsU g)[i]'(Nat.lt_trans hik hk) ≠ (idsU g)[k]'hk := fun i k hik hk => by
    have := ids_apart F.good hik (by omega)
    rw [idAt, idAt, getD_el (by omega), getD_el hk] at this
    exact this
  generalize idsU g = I at *
  refine aCallW_of rfl rfl (of8_spec g hfew (by omega)) ?_
  simp
  refine aCallW_of rfl rfl hIds ?_
  simp
  refine aCallW_of rfl rfl hIdsR ?_
  simp
  intro hml
  refine loop_by (σ := Nat) (n := 0) (fun i => [.p (.int .i64 (idxF (fun x => decide (x = s)) 0 (I.take i))), .p (.int .i64 i)]) (fun _ => []) (fun i => i ≤ I.length) (fun i => I.length - i) [] 0 (fun _ => rfl) ⟨by simp [idxF], rfl⟩ (by simp) (fun i B hi hB => ?_)
  simp [runnellaw9_UidAny_L1]
  intro _
  refine ⟨fun hlt => ?_, fun hge => ?_⟩
  · simp [hlt]
    have hfi : idxF (fun x => decide (x = I[i])) 0 I = i := by
      have := idxF_at (fun x => decide (x = I[i])) I 0 i hlt (fun j hj => by simpa using hap j i hj hlt) (by simp)
      simpa using this
    have hF := hFind I[i]
    rw [hfi] at hF
    refine aCallT_of rfl hF rfl ?_
    simp
    refine aCallT_of rfl (hSc i (by omega)) rfl ?_
    simp
    refine aCallT_of rfl (hScR i (by omega)) rfl ?_
    simp
    unfold runnellaw9_UidAny_J1
    have hsn : idxF (fun x => decide (x = s)) 0 (I.take (i + 1)) = if idxF (fun x => decide (x = s)) 0 (I.take i) < 0 then (if I[i] = s then (i : Int) else -1) else idxF (fun x => decide (x = s)) 0 (I.take i) := by
      rw [← take_snoc hlt, idxF_snoc]
      simp [Nat.min_eq_left (Nat.le_of_lt hlt)]
    have hge0 : -1 ≤ idxF (fun x => decide (x = s)) 0 (I.take i) := by
      have : ∀ (l : List (List UInt8)) (k : Nat), -1 ≤ idxF (fun x => decide (x = s)) k l := by
        intro l
        induction l with
        | nil => intro k; simp [idxF]
        | cons a r ih =>
          intro k
          have e : idxF (fun x => decide (x = s)) k (a :: r) = if decide (a = s) = true then (k : Int) else idxF (fun x => decide (x = s)) (k + 1) r := rfl
          rw [e]
          split
          · omega
          · exact ih _
      exact this _ _
    have hb := hB (i + 1) [] (by omega) (by omega) (by simp) (by simp) (by simp) (by simp [AV.under, AV.under1])
    rw [hsn] at hb
    generalize idxF (fun x => decide (x = s)) 0 (I.take i) = A at *
    refine loop_by (σ := Nat) (n := 0) (fun k => [.p (.int .i64 k)]) (fun _ => []) (fun k => k ≤ i) (fun k => i - k) [] 0 (fun _ => rfl) ⟨rfl, rfl⟩ (by simp) (fun k B2 hk hB2 => ?_)
    simp [runnellaw9_UidAny_L2]
    refine ⟨fun hltk => ?_, fun hgek => ?_⟩
    · have hki : k < I.length := by omega
      have hne := hap k i hltk hlt
      simp [hki, hlt, hne]
      rw [IntWalk.i64_in _ (by omega)]
      exact hB2 (k + 1) _ (by omega) (by omega) (by simp) (by simp) (by simp) (by simp [AV.under, AV.under1])
    · simp [hlt]
      rw [IntWalk.i64_in _ (by omega)]
      simp only [Int.natCast_add, Int.natCast_one] at hb
      refine ⟨fun h1 h2 => ?_, fun h1 => ?_⟩
      · rw [if_pos h2, if_pos h1] at hb
        exact hb
      · by_cases h2 : A < 0
        · have h3 : ¬ I[i] = s := fun h => by have := h1 h; omega
          rw [if_pos h2, if_neg h3, show (-1 : Int) = A by omega] at hb
          exact hb
        · rw [if_neg h2] at hb
          exact hb
  · refine aCallW_of rfl rfl (hFind s) ?_
    simp
    refine gives_p ?_
    rw [List.take_of_length_le hge]
    simp

end Go.Proofs.YtijnpcociedigaaGreatDoor
end
