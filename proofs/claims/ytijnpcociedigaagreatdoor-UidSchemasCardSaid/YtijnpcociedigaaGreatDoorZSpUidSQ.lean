/- The package uid over trees: the names that last; which node is called so. -/
import Derived.Test.YtijnpcociedigaaGreatDoorZSpSmallRQ
import Derived.Test.YtijnpcociedigaaGreatDoorZSpItoaQ
import Derived.Test.YtijnpcociedigaaGreatDoorZSpJoin
import Derived.Test.YtijnpcociedigaaGreatDoorZSpMapQ
import Derived.Test.YtijnpcociedigaaGreatDoorZPuIds
import Derived.Test.YtijnpcociedigaaGreatDoorS1
import Derived.Test.YtijnpcociedigaaGreatDoorZSpBudTQ
import Derived.Test.YtijnpcociedigaaGreatDoorZSpTypD

section
/- The package uid over trees: the names that last; which node is called so. -/
set_option linter.unusedSimpArgs false
set_option linter.unusedVariables false
namespace Go.Proofs.YtijnpcociedigaaGreatDoor
open Go Go.Abs

attribute [local irreducible] Abs.Fn

theorem isS_cells (l : List (List UInt8)) : ∀ e ∈ l.map T.str, e.cells.length = 1 := fun e he => by obtain ⟨x, _, rfl⟩ := List.mem_map.1 he; rfl

theorem plainU_spec (n : Nd) (out : List (List UInt8)) (h : ∀ i ∈ n.ins, 0 ≤ i ∧ i < out.length) (hk : I64 n.op.k) (hl : n.ins.length ≤ 1000000) (hu : n.uid.length ≤ 1000000000) (hb : (baseU n out).length ≤ 1000000000) :
    Abs.Fn Tryz.prog uid_plain_i [] [.p (encN n), .p (.slice (out.map .str))] (.p (.str (baseU n out))) [] := by
  have hB : n.uid = [] → baseU n out = 97 :: 58 :: (Lib.itoa n.op.k ++ 58 :: (n.op.name ++ 40 :: (TJ.join [44] (n.ins.map fun i => out.getD i.toNat []) ++ [41]))) := fun hu => by rw [baseU, if_pos hu]
  have hB2 : n.uid ≠ [] → baseU n out = 117 :: 58 :: n.uid := fun hu => by rw [baseU, if_neg hu]
  generalize baseU n out = R at *
  have hlm : (n.ins.map fun i => out.getD i.toNat []).length = n.ins.length := by simp
  have hmj : ∀ j (hj : j < n.ins.length) (g : n.ins[j].toNat < out.length), (n.ins.map fun i => out.getD i.toNat [])[j]? = some out[n.ins[j].toNat] := by
    intro j hj g
    simp [hj, g]
  generalize (n.ins.map fun i => out.getD i.toNat []) = m at *
  apply uid_plain_fn
  simp [uid_plain]
  refine ⟨fun hu => ⟨by simp only [maxLen]; omega, gives_p (by rw [hB2 hu])⟩, fun hu => ?_⟩
  have hR := hB hu
  subst hR
  clear hB hB2
  intro hml
  refine loop_by (σ := Nat) (n := 2) (fun j => [.own 1 ((m.take j).map .str), .p (.int .i64 j)]) (fun j => [.box (boxN n), .row j 1]) (fun j => j ≤ n.ins.length) (fun j => n.ins.length - j) [.slot 0 1] 0 (fun _ => rfl) ⟨rfl, by simp⟩ (by simp) (fun j B hj hBd => ?_)
  simp [uid_plain_L1]
  refine ⟨fun hlt => ?_, fun hge => ?_⟩
  · obtain ⟨g1, g2⟩ := h n.ins[j] (List.getElem_mem hlt)
    have g3 : n.ins[j].toNat < out.length := by omega
    have hm := hmj j hlt g3
    rw [List.getElem?_eq_getElem (by omega), Option.some.injEq] at hm
    have hsn := take_snoc (l := m.map T.str) (i := j) (by simp; omega)
    simp only [List.getElem_map, hm] at hsn
    simp [hlt, g1, g2, g3]
    refine ⟨by omega, ⟨fun e he => ?_, by simp, by simp; omega⟩, ?_⟩
    · obtain ⟨x, hx, rfl⟩ := List.mem_map.1 (List.mem_of_mem_take he); rfl
    rw [IntWalk.i64_in _ (by omega), hsn, ← List.map_take]
    exact hBd (j + 1) _ (by omega) (by omega) (by simp) (by simp [Ob.below, AV.under1]) (by simp) (by simp [AV.under, AV.under1])
  · rw [List.take_of_length_le (show m.length ≤ j by omega)]
    refine aCallT_of rfl (itoa10_spec n.op.k hk) rfl ?_
    simp only [List.length_cons, List.length_append, List.length_nil] at hb
    simp
    refine ⟨by simp only [maxLen]; omega, by simp only [maxLen]; omega, by simp only [maxLen]; omega, by simp only [maxLen]; omega, ?_⟩
    refine aCallT_of rfl (join_spec m [44] (by omega) (by omega)) rfl ?_
    simp
    refine ⟨by simp only [maxLen]; omega, by simp only [maxLen]; omega, ?_⟩
    exact gives_p (by simp)

theorem IDs_spec (g : List Nd) (hn : g.length ≤ 1000) (hins : ∀ k (hk : k < g.length), (∀ i ∈ g[k].ins, 0 ≤ i ∧ i < k) ∧ g[k].ins.length ≤ 1000000 ∧ g[k].uid.length ≤ 1000000 ∧ I64 g[k].op.k ∧ (baseU g[k] (idsU g)).length ≤ 1000000000) :
    Abs.Fn Tryz.prog uid_IDs_i [] [.p (.slice (g.map encN))] (.p (.slice ((idsU g).map .str))) [] := by
  have hnext := fun i h => @idsU_next g i h
  have hlen := idsU_length g
  have hlen2 := bareU_length g
  have hbase : ∀ k (hk : k < g.length), (baseU g[k] ((idsU g).take k)) = baseU g[k] (idsU g) := fun k hk => baseU_congr rfl rfl rfl rfl (fun i hi => getD_take (by have := (hins k hk).1 i hi; omega))
  generalize idsU g = I at *
  generalize bareU g = Bq at *
  apply uid_IDs_fn
  simp [uid_IDs]
  unfold aMakeMap
  simp
  intro hml
  refine loop_by (σ := Nat × List (List UInt8 × Int)) (n := 2) (fun q => [.own 1 ((I.take q.1).map .str), .p (.int .i64 q.1)]) (fun q => [.mapo (encM q.2), .row q.1 1]) (fun q => q.1 ≤ g.length ∧ ∀ s, getM q.2 s = ((Bq.take q.1).count s : Nat)) (fun q => g.length - q.1) [.slot 0 1] (0, []) (fun _ => rfl) ⟨rfl, by simp⟩ (by simp [getM]) (fun q B hq hB => ?_)
  obtain ⟨i, m⟩ := q
  obtain ⟨h1, h2⟩ := hq
  simp only at h1 h2
  simp [uid_IDs_L1]
  refine ⟨fun hlt => ?_, fun hge => ?_⟩
  · obtain ⟨k1, k2, k3, k4, k5⟩ := hins i hlt
    have hp := plainU_spec g[i] (I.take i) (fun j hj => by have := k1 j hj; simp; omega) k4 k2 (by omega) (by rw [hbase i hlt]; exact k5)
    obtain ⟨n1, n2⟩ := hnext i hlt
    rw [hbase i hlt] at n1 n2 hp
    have hcnt : (Bq.take i).count (baseU g[i] I) ≤ 1000 := by
      have := List.count_le_length (a := baseU g[i] I) (l := Bq.take i)
      simp at this
      omega
    have hg := h2 (baseU g[i] I)
    have hcn : ∀ s, ((Bq.take (i + 1)).count s : Nat) = (Bq.take i).count s + if s = baseU g[i] I then 1 else 0 := by
      intro s
      rw [n2, List.count_append, List.count_singleton]
      congr 1
      by_cases h : s = baseU g[i] I
      · simp [h]
      · rw [if_neg h, if_neg (by simpa using fun e => h e.symm)]
    generalize hc : (Bq.take i).count (baseU g[i] I) = c at *
    generalize hbs : baseU g[i] I = b at *
    simp only [encN_eta, List.map_take] at hp
    simp [hlt]
    refine aCallW_of rfl rfl hp ?_
    simp
    refine lookup_M (m := m) (by simp) ?_
    refine lookup_M (m := m) (by simp) ?_
    simp only [hg]
    simp
    refine update_M (m := m) (by simp) ?_
    have step : ∀ H2 : List Ob, H2.take 2 = [.mapo (encM (putM m b (c + 1))), .row (i + 1) 1] → 2 ≤ H2.length → B [.own 1 ((I.take (i + 1)).map .str), .p (.int .i64 ((i + 1 : Nat)))] H2 := by
      intro H2 e1 e2
      refine hB (i + 1, putM m b (c + 1)) H2 ⟨by simp only; omega, fun s => ?_⟩ (by simp only; omega) e1 (by rw [e1]; simp [Ob.below, AV.under1]) e2 (by simp [AV.under, AV.under1])
      simp only
      rw [getM_put, hcn]
      by_cases h : s = b
      · rw [if_pos h, if_pos h, h, hc]; simp
      · rw [if_neg h, if_neg h, h2 s]; simp
    rw [n1] at step
    have app : ∀ x, appendable 1 16 (List.take i (List.map T.str I)) [T.str x] := fun x => ⟨fun e he => isS_cells I e (List.mem_of_mem_take he), by simp, by simp; omega⟩
    rw [IntWalk.i64_in _ (by omega)]
    simp
    refine ⟨fun h0 => ?_, fun h0 => ?_⟩
    · refine aCallW_of rfl rfl (itoa10_spec c (by constructor <;> omega)) ?_
      have hit := itoa_len (n := (c : Int)) (by constructor <;> omega)
      simp
      refine ⟨by simp only [maxLen]; omega, by simp only [maxLen]; omega, ?_⟩
      refine ⟨by omega, app _, ?_⟩
      rw [IntWalk.i64_in _ (by omega)]
      refine cast (congrArg (fun x => B x _) ?_) (step _ ?_ ?_)
      · have hz : c ≠ 0 := by omega
        have hit2 : Lib.itoa (c : Int) = Lib.decDigits c := by unfold Lib.itoa; rw [if_neg (by omega)]; simp
        simp [fullU, sufU, hz, hit2, List.map_take]
      · simp
      · simp
    · have hz : c = 0 := by omega
      refine ⟨by omega, app _, ?_⟩
      rw [IntWalk.i64_in _ (by omega)]
      refine cast (congrArg (fun x => B x _) ?_) (step _ ?_ ?_)
      · simp [fullU, sufU, hz, List.map_take]
      · simp
      · simp
  · have : i = g.length := by omega
    subst this
    rw [List.take_of_length_le (show (I.map T.str).length ≤ g.length by simp; omega)]
    exact gives_pure (by simp [AV.pur])

theorem findU_spec (l : List (List UInt8)) (s : List UInt8) (h : l.length ≤ 1000000) : Abs.Fn Tryz.prog uid_find_string_i [] [.p (.slice (l.map .str)), .p (.str s)] (.p (.int .i64 (idxF (fun x => decide (x = s)) 0 l))) [] := by
  apply uid_find_string_fn
  simp [uid_find_string]
  intro hl
  refine loop_by (σ := Nat) (n := 0) (fun i => [.p (.int .i64 i)]) (fun _ => []) (fun i => i ≤ l.length ∧ idxF (fun x => decide (x = s)) i (l.drop i) = idxF (fun x => decide (x = s)) 0 l) (fun i => l.length - i) [] 0 (fun _ => rfl) ⟨rfl, rfl⟩ (by simp) (fun i B hi hB => ?_)
  obtain ⟨h1, h2⟩ := hi
  generalize hA : idxF (fun x => decide (x = s)) 0 l = A at *
  simp [uid_find_string_L1]
  refine ⟨fun hlt => ?_, fun hge => ?_⟩
  · rw [List.drop_eq_getElem_cons hlt, idxF] at h2
    simp [hlt]
    refine ⟨fun hz => gives_p ?_, fun hz => ?_⟩
    · rw [← h2]; simp [hz]
    · rw [IntWalk.i64_in _ (by omega)]
      refine hB (i + 1) _ ⟨by omega, ?_⟩ (by omega) (by simp) (by simp) (by simp) (by simp [AV.under, AV.under1])
      rw [← h2, if_neg (by simpa using hz)]
  · rw [List.drop_of_length_le hge] at h2
    exact gives_p (by rw [← h2]; rfl)

end Go.Proofs.YtijnpcociedigaaGreatDoor
end

section
/- The package uid over trees: what a node's state is. -/
set_option linter.unusedSimpArgs false
set_option linter.unusedVariables false
namespace Go.Proofs.YtijnpcociedigaaGreatDoor
open Go Go.Abs

attribute [local irreducible] Abs.Fn

def keyTU (ts : List Ty) (n : Nd) : List UInt8 := textT ((checkE n.op.key (ts.getD (n.ins.getD 0 0).toNat (.mk 0 []))).get (.mk 0 []))
/-- What a node's state is, by the types that go out of all. -/
def schemaU (ts : List Ty) (n : Nd) : List UInt8 :=
  if n.op.k = 1 then TJ.join [32] [[115, 111, 117, 114, 99, 101], textT n.op.t, Lib.itoa n.mx]
  else if n.op.k = 5 then TJ.join [32] [[114, 101, 100, 117, 99, 101], Lib.itoa n.op.f, keyTU ts n, Lib.itoa n.mx]
  else if n.op.k = 6 then TJ.join [32] [[116, 97, 108, 108, 121], Lib.itoa n.op.n, keyTU ts n, Lib.itoa n.mx]
  else if n.op.k = 7 then TJ.join [32] [[100, 105, 115, 116, 105, 110, 99, 116], keyTU ts n, Lib.itoa n.mx]
  else []

def bnT : Nat → Nat
  | 0 => 4
  | k + 1 => 8 * bnT k + 10
theorem join_le {b : Nat} {l : List (List UInt8)} (h : ∀ x ∈ l, x.length ≤ b) : (TJ.join [44] l).length ≤ l.length * (b + 1) := by
  have ht : ∀ l : List (List UInt8), (∀ x ∈ l, x.length ≤ b) → (TJ.tail [44] l).length ≤ l.length * (b + 1) := by
    intro l
    induction l with
    | nil => intro _; simp [TJ.tail]
    | cons x r ih =>
      intro h
      have h1 := ih (fun y hy => h y (by simp [hy]))
      have h2 := h x (by simp)
      simp only [TJ.tail, List.length_append, List.length_cons, List.length_nil, Nat.add_mul, Nat.one_mul]
      omega
  cases l with
  | nil => simp [TJ.join]
  | cons x r =>
    have h1 := ht r (fun y hy => h y (by simp [hy]))
    have h2 := h x (by simp)
    simp only [TJ.join, List.length_append, List.length_cons, Nat.add_mul, Nat.one_mul]
    omega
theorem textT_len : ∀ (k : Nat) (t : Ty) (d : Int), checkT t d = 0 → 5 ≤ d + k → (textT t).length ≤ bnT k
  | k, .mk kd of, d, h, hd => by
    unfold checkT at h
    split at h
    · rename_i hk
      split at h
      · have : bnT k ≥ 4 := by cases k with
          | zero => simp [bnT]
          | succ k => simp only [bnT]; omega
        rcases hk with rfl | rfl | rfl <;> simp [textT, wordS] <;> omega
      · simp at h
    · split at h
      · rename_i hk
        split at h
        · rename_i _ e
          exact absurd h e
        · rename_i _ e
          have e : rowE of.length d = 0 := Classical.not_not.1 e
          unfold rowE at e
          split at e
          · simp at e
          split at e
          · simp at e
          split at e
          · simp at e
          cases k with
          | zero => omega
          | succ k =>
            have hall := checkTs_get h
            have hj := join_le (b := bnT k) (l := of.map textT) (fun x hx => by
              obtain ⟨t, ht, rfl⟩ := List.mem_map.1 hx
              exact textT_len k t (d + 1) (hall t ht) (by omega))
            have : of.length ≤ 8 := by omega
            have hm : of.length * (bnT k + 1) ≤ 8 * (bnT k + 1) := Nat.mul_le_mul_right _ this
            simp only [List.length_map] at hj
            have hj := Nat.le_trans hj hm
            simp only [textT, if_pos hk, textTs_eq, List.length_cons, List.length_append, List.length_nil, bnT]
            omega
      · simp at h
theorem textT_le {t : Ty} (h : checkT t 0 = 0) : (textT t).length ≤ 1000000 := by
  have := textT_len 5 t 0 h (by omega)
  simp [bnT] at this
  omega
theorem checkE_valid {e : Ex} {t u : Ty} (h : checkE e t = .ok u) : checkT u 0 = 0 := by
  unfold checkE at h
  split at h
  · simp at h
  split at h
  · simp at h
  · rename_i h1 _
    exact ckE_valid e t 0 u h (Classical.not_not.1 h1)
theorem keyTU_le (ts : List Ty) (n : Nd) : (keyTU ts n).length ≤ 1000000 := by
  unfold keyTU
  cases h : checkE n.op.key (ts.getD (n.ins.getD 0 0).toNat (.mk 0 [])) with
  | ok u => exact textT_le (checkE_valid h)
  | er f => simp [R.get, textT, wordS]

theorem schemaK_spec (ts : List Ty) (n : Nd) (he : We 1000000000 n.op.key) (hs : sizeE n.op.key ≤ 1000000000) (h : ∃ j r, n.ins = j :: r ∧ 0 ≤ j ∧ j < ts.length) :
    Abs.Fn Tryz.prog uid_Schema_1_i [] [.p (.imm (encN n).cells 0), .p (.imm [.slice (ts.map encT)] 0)] (.p (.str (keyTU ts n))) [] := by
  obtain ⟨j, r, hj, h0, h1⟩ := h
  have h2 : j.toNat < ts.length := by omega
  have hk : keyTU ts n = textT ((checkE n.op.key ts[j.toNat]).get (.mk 0 [])) := by
    simp [keyTU, hj, List.getD_eq_getElem?_getD, h2]
  have hle := keyTU_le ts n
  rw [hk] at hle ⊢
  have hc := CheckE_spec n.op.key ts[j.toNat] he hs
  have ht := text_spec _ (show (textT ((checkE n.op.key ts[j.toNat]).get (.mk 0 []))).length ≤ 1000000000 by omega)
  generalize checkE n.op.key ts[j.toNat] = R at *
  apply uid_Schema_1_fn
  simp [uid_Schema_1, hj, h0, h1, h2]
  (first | refine aCall_fold rfl ?_ | refine aCallT_fold rfl ?_)
  (first | refine aCallU_p (hc) ?_ | refine aCallTU_p (hc) ?_ | refine aCallU_of (hc) ?_ | refine aCallTU_of (hc) rfl ?_ | refine aCallTU_of (hc) (by simp [AV.pur]; rfl) ?_)
  try simp [tyR]
  rw [encT_eta] at ht
  refine aCallW_of rfl rfl ht ?_
  simp
  exact gives_p rfl

theorem goG_len : ∀ (l : List Nd) (a : List Nd) (ts us : List Ty), goG a ts l = .ok us → us.length = ts.length + l.length
  | [], a, ts, us, h => by simp only [goG, Gr.ok.injEq] at h; subst h; rfl
  | n :: r, a, ts, us, h => by
    rw [goG] at h
    split at h
    · simp at h
    · have := goG_len r _ _ us h
      simp at this ⊢
      omega
theorem typesG_le (g : List Nd) : (typesG g).length ≤ g.length := by
  unfold typesG
  split
  · simp
  · rename_i ts h
    have := goG_len g [] [] ts h
    simp at this
    omega

set_option maxRecDepth 100000 in
theorem SchemaU_spec (g : List Nd) (hok : ∀ n ∈ g, OkN n) (hl : g.length ≤ 1000) (i : Nat) (hi : i < g.length) (hk : g[i].op.k = 5 ∨ g[i].op.k = 6 ∨ g[i].op.k = 7 → ∃ j r, g[i].ins = j :: r ∧ 0 ≤ j ∧ j < (typesG g).length)
    (hI : I64 g[i].op.f ∧ I64 g[i].op.n ∧ I64 g[i].mx) (ht : g[i].op.k = 1 → checkT g[i].op.t 0 = 0) :
    Abs.Fn Tryz.prog uid_Schema_i [] [.p (.slice (g.map encN)), .p (.int .i64 i)] (.p (.str (if (typesG g).length ≤ i then [] else schemaU (typesG g) g[i]))) [] := by
  have hT := Types_spec g hok hl
  have hlen : (typesG g).length ≤ 1000000 := Nat.le_trans (typesG_le g) (by omega)
  have hK := fun h => schemaK_spec (typesG g) g[i] (hok _ (List.getElem_mem hi)).key.1 (hok _ (List.getElem_mem hi)).key.2 (hk h)
  have hkl := keyTU_le (typesG g) g[i]
  have hs1 : schemaU (typesG g) g[i] = if g[i].op.k = 1 then TJ.join [32] [[115, 111, 117, 114, 99, 101], textT g[i].op.t, Lib.itoa g[i].mx]
    else if g[i].op.k = 5 then TJ.join [32] [[114, 101, 100, 117, 99, 101], Lib.itoa g[i].op.f, keyTU (typesG g) g[i], Lib.itoa g[i].mx]
    else if g[i].op.k = 6 then TJ.join [32] [[116, 97, 108, 108, 121], Lib.itoa g[i].op.n, keyTU (typesG g) g[i], Lib.itoa g[i].mx]
    else if g[i].op.k = 7 then TJ.join [32] [[100, 105, 115, 116, 105, 110, 99, 116], keyTU (typesG g) g[i], Lib.itoa g[i].mx]
    else [] := rfl
  generalize hks : keyTU (typesG g) g[i] = KT at *
  generalize schemaU (typesG g) g[i] = S at *
  generalize typesG g = ts at *
  obtain ⟨n, hn⟩ : ∃ n, n = g[i] := ⟨_, rfl⟩
  rw [← hn] at hk hI ht hK hs1
  apply uid_Schema_fn
  simp [uid_Schema, hi, ← hn]
  refine aCallW_of rfl rfl hT ?_
  simp [hi, ← hn]
  have hi1 := itoa_len hI.1
  have hi2 := itoa_len hI.2.1
  have hi3 := itoa_len hI.2.2
  refine ⟨fun h => gives_p (by rw [if_pos (by omega)]), fun hlt => ⟨fun h1 => ?_, fun h1 => ⟨fun h5 => ?_, fun h5 => ⟨fun h6 => ?_, fun h6 => ⟨fun h7 => ?_, fun h7 => gives_p ?_⟩⟩⟩⟩⟩
  · have htl := textT_le (ht h1)
    have hx := text_spec n.op.t (by omega)
    rw [encT_eta] at hx
    refine aCallW_of rfl rfl hx ?_
    simp
    refine aCallW_of rfl rfl (itoa10_spec _ hI.2.2) ?_
    simp
    have hj := join_spec [[115, 111, 117, 114, 99, 101], textT n.op.t, Lib.itoa n.mx] [32] (by simp [TJ.join, TJ.tail]; omega) (by simp)
    simp only [List.map_cons, List.map_nil] at hj
    refine ⟨⟨by simp, by simp, by simp⟩, aCallW_of rfl rfl hj ?_⟩
    simp
    exact gives_p (by rw [if_neg (by omega), hs1, if_pos h1])
  · refine aCallW_of rfl rfl (itoa10_spec _ hI.1) ?_
    simp
    have hk := hK (.inl h5)
    simp only [encN_eta, tcells_agg] at hk
    refine aCallW_of rfl rfl hk ?_
    simp
    refine aCallW_of rfl rfl (itoa10_spec _ hI.2.2) ?_
    simp
    have hj := join_spec [[114, 101, 100, 117, 99, 101], Lib.itoa n.op.f, KT, Lib.itoa n.mx] [32] (by simp [TJ.join, TJ.tail]; omega) (by simp)
    simp only [List.map_cons, List.map_nil] at hj
    refine ⟨⟨by simp, by simp, by simp⟩, aCallW_of rfl rfl hj ?_⟩
    simp
    exact gives_p (by rw [if_neg (by omega), hs1, if_neg h1, if_pos h5])
  · refine aCallW_of rfl rfl (itoa10_spec _ hI.2.1) ?_
    simp
    have hk := hK (.inr (.inl h6))
    simp only [encN_eta, tcells_agg] at hk
    refine aCallW_of rfl rfl hk ?_
    simp
    refine aCallW_of rfl rfl (itoa10_spec _ hI.2.2) ?_
    simp
    have hj := join_spec [[116, 97, 108, 108, 121], Lib.itoa n.op.n, KT, Lib.itoa n.mx] [32] (by simp [TJ.join, TJ.tail]; omega) (by simp)
    simp only [List.map_cons, List.map_nil] at hj
    refine ⟨⟨by simp, by simp, by simp⟩, aCallW_of rfl rfl hj ?_⟩
    simp
    exact gives_p (by rw [if_neg (by omega), hs1, if_neg h1, if_neg h5, if_pos h6])
  · have hk := hK (.inr (.inr h7))
    simp only [encN_eta, tcells_agg] at hk
    refine aCallW_of rfl rfl hk ?_
    simp
    refine aCallW_of rfl rfl (itoa10_spec _ hI.2.2) ?_
    simp
    have hj := join_spec [[100, 105, 115, 116, 105, 110, 99, 116], KT, Lib.itoa n.mx] [32] (by simp [TJ.join, TJ.tail]; omega) (by simp)
    simp only [List.map_cons, List.map_nil] at hj
    refine ⟨⟨by simp, by simp, by simp⟩, aCallW_of rfl rfl hj ?_⟩
    simp
    exact gives_p (by rw [if_neg (by omega), hs1, if_neg h1, if_neg h5, if_neg h6, if_pos h7])
  · rw [if_neg (by omega), hs1, if_neg h1, if_neg h5, if_neg h6, if_neg h7]

end Go.Proofs.YtijnpcociedigaaGreatDoor
end
