/- The law GraphGrows. -/
import Derived.Test.YtmnmiiifilfcmaaZSpGraphD
import Derived.Test.YtmnmiiifilfcmaaZSpExprB
import Derived.Test.YtmnmiiifilfcmaaS1
set_option linter.unusedSimpArgs false
set_option linter.unusedVariables false
namespace Go.Proofs.Ytmnmiiifilfcmaa
open Go Go.Abs

attribute [local irreducible] Abs.Fn

theorem we_zero8 : We 1000000000 zeroE := .mk _ _ _ _ (.mk _ _ _ _ _ (by simp) (by simp) (by simp)) (by simp) (by simp)
abbrev mapG : Nd := ⟨[], ⟨2, [], .mk 0 [], [e2 oAdd eX (eL (intV 1))], zeroE, 0, 0⟩, [0], 2, 4, grpG, false⟩
def smallG : List Nd := [srcG 2 4, mapG, sinkG 1 2 4]

theorem okN_src (p m : Int) : OkN (srcG p m) := ⟨by simp, ⟨we_zero8, by simp [sizeE, sizeEs]⟩, by simp, by simp⟩
theorem okN_sink (i p m : Int) : OkN (sinkG i p m) := ⟨by simp, ⟨we_zero8, by simp [sizeE, sizeEs]⟩, by simp, by simp⟩
theorem okN_map : OkN mapG := ⟨fun e he => by
  simp only [List.mem_cons, List.not_mem_nil, or_false] at he
  subst he
  exact ⟨we_2 we_x (we_l (wv_int _)), by simp [sizeE, sizeEs]⟩, ⟨we_zero8, by simp [sizeE, sizeEs]⟩, by simp, by simp⟩
theorem okN_flat (i : Int) (n : Nat) (h : n ≤ 4) : OkN (flatG i n) := ⟨fun e he => by
  have := List.eq_of_mem_replicate he
  subst this
  exact ⟨we_x, by simp [sizeE, sizeEs]⟩, ⟨we_zero8, by simp [sizeE, sizeEs]⟩, by simp; omega, by simp⟩
theorem okN_small : ∀ n ∈ smallG, OkN n := by
  intro n hn
  simp only [smallG, List.mem_cons, List.not_mem_nil, or_false] at hn
  rcases hn with rfl | rfl | rfl
  · exact okN_src _ _
  · exact okN_map
  · exact okN_sink _ _ _

theorem Small_spec : Abs.Fn Try.prog runnellaw8_Small_i [] [] (.p (.slice (smallG.map encN))) [] := by
  apply runnellaw8_Small_fn
  simp [runnellaw8_Small]
  (first | refine aCall_fold rfl ?_ | refine aCallT_fold rfl ?_)
  (first | refine aCallU_p (X_spec) ?_ | refine aCallTU_p (X_spec) ?_ | refine aCallU_of (X_spec) ?_ | refine aCallTU_of (X_spec) rfl ?_ | refine aCallTU_of (X_spec) (by simp [AV.pur]; rfl) ?_)
  try simp
  (first | refine aCall_fold rfl ?_ | refine aCallT_fold rfl ?_)
  (first | refine aCallU_p (Int_spec 1) ?_ | refine aCallTU_p (Int_spec 1) ?_ | refine aCallU_of (Int_spec 1) ?_ | refine aCallTU_of (Int_spec 1) rfl ?_ | refine aCallTU_of (Int_spec 1) (by simp [AV.pur]; rfl) ?_)
  try simp
  (first | refine aCall_fold rfl ?_ | refine aCallT_fold rfl ?_)
  (first | refine aCallU_p (Lit_spec _) ?_ | refine aCallTU_p (Lit_spec _) ?_ | refine aCallU_of (Lit_spec _) ?_ | refine aCallTU_of (Lit_spec _) rfl ?_ | refine aCallTU_of (Lit_spec _) (by simp [AV.pur]; rfl) ?_)
  try simp
  (first | refine aCall_fold rfl ?_ | refine aCallT_fold rfl ?_)
  (first | refine aCallU_p (Op4_spec _ _) ?_ | refine aCallTU_p (Op4_spec _ _) ?_ | refine aCallU_of (Op4_spec _ _) ?_ | refine aCallTU_of (Op4_spec _ _) rfl ?_ | refine aCallTU_of (Op4_spec _ _) (by simp [AV.pur]; rfl) ?_)
  try simp
  exact gives_pure (by simp [AV.pur, smallG, oAdd, intV])

theorem small_check : checkG smallG = (0, 0) := by rfl
theorem small_two : checkG [srcG 2 4, mapG] = (1, 1) := by rfl
theorem small_types : typesG smallG = [.mk 1 [], .mk 1 [], .mk 1 []] := by rfl

theorem known8_spec : Abs.Fn Try.prog runnellaw8_known_i [] [] (.p (.bool true)) [] := by
  have c1 := GCheck_spec smallG okN_small
  have c2 := GCheck_spec [srcG 2 4, mapG] (fun n hn => okN_small n (by simp only [smallG, List.mem_cons] at hn ⊢; rcases hn with h | h | h <;> simp_all))
  have c3 := Types_spec smallG okN_small (by simp [smallG])
  have c4 := Outs_spec smallG 0 (by simp [smallG])
  have c5 := Named_spec smallG 9 (by simp [smallG])
  have e4 : outsFrom 0 0 smallG = [1] := by rfl
  have e5 : kindFrom 9 0 smallG = [2] := by rfl
  rw [small_check] at c1
  rw [small_two] at c2
  rw [small_types] at c3
  rw [e4] at c4
  rw [e5] at c5
  have hs : (smallG.map encN).take 2 = [srcG 2 4, mapG].map encN := rfl
  have hl : (smallG.map encN).length = 3 := rfl
  have hsm := Small_spec
  rw [← hs] at c2
  generalize smallG.map encN = S at *
  apply runnellaw8_known_fn
  simp [runnellaw8_known]
  refine aCallW_of rfl rfl hsm ?_
  simp
  refine aCallW_of rfl rfl c1 ?_
  simp [aSliceSl, atSize, hl]
  refine aCallW_of rfl rfl c2 ?_
  simp
  refine aCallW_of rfl rfl c3 ?_
  simp
  refine aCallW_of rfl rfl c4 ?_
  simp
  refine aCallW_of rfl rfl c5 ?_
  simp
  exact gives_p rfl

theorem flatsG_snoc (m : Nat) : ∀ (ns : List Nat) (i : Nat), flatsG i (ns ++ [m]) = flatsG i ns ++ [flatG (i + ns.length : Nat) m]
  | [], i => by simp [flatsG]
  | n :: r, i => by
    simp only [List.cons_append, flatsG]
    rw [flatsG_snoc m r (i + 1), show i + 1 + r.length = i + (n :: r).length by simp; omega]

theorem growsG_ok (ns : List Nat) (h : ∀ n ∈ ns, 1 ≤ n ∧ n ≤ 4) : ∀ x ∈ growsG ns, OkN x := by
  intro x hx
  simp only [growsG, List.cons_append, List.mem_cons, List.mem_append, List.not_mem_nil, or_false] at hx
  rcases hx with rfl | hx | rfl
  · exact okN_src _ _
  · obtain ⟨j, n, rfl, hn⟩ := flatsG_mem _ _ _ hx
    exact okN_flat _ _ (h n hn).2
  · exact okN_sink _ _ _

/-- What is known on the way. -/
def Way (ns : List Nat) (i : Nat) (w bad : Int) : Prop := (bad = -1 ∧ ∃ k : Nat, w = k ∧ k ≤ 64 ∧ badG 0 1 ns = badG i k (ns.drop i)) ∨ (∃ b : Nat, bad = b ∧ badG 0 1 ns = some b)

set_option maxRecDepth 100000 in
set_option maxHeartbeats 1000000 in
theorem GraphGrows_spec (l : List Int) (hr : ∀ x ∈ l, 0 ≤ x ∧ x ≤ 255) : Abs.Fn Try.prog runnellaw8_GraphGrows_i [] [.p (.slice (l.map (T.int .u8)))] (.p (.bool true)) [] := by
  obtain ⟨ns, hns⟩ : ∃ ns : List Nat, ns = l.map fun x => 1 + x.toNat % 4 := ⟨_, rfl⟩
  have hnl : ns.length = l.length := by rw [hns]; simp
  have hn4 : ∀ n ∈ ns, 1 ≤ n ∧ n ≤ 4 := by
    intro n hn
    rw [hns] at hn
    obtain ⟨x, _, rfl⟩ := List.mem_map.1 hn
    omega
  have hnx : ∀ i (h : i < l.length), ns[i]? = some (1 + l[i].toNat % 4) := by
    intro i h
    rw [hns]
    simp [h]
  clear hns
  have hsz : ∀ (a : List Nd), ∀ e ∈ a.map encN, e.cells.length = 21 := encN_size
  apply runnellaw8_GraphGrows_fn
  simp [runnellaw8_GraphGrows]
  (first | refine aCall_fold rfl ?_ | refine aCallT_fold rfl ?_)
  (first | refine aCallU_p (known8_spec) ?_ | refine aCallTU_p (known8_spec) ?_ | refine aCallU_of (known8_spec) ?_ | refine aCallTU_of (known8_spec) rfl ?_ | refine aCallTU_of (known8_spec) (by simp [AV.pur]; rfl) ?_)
  try simp
  intro hml
  refine ⟨fun _ => gives_p rfl, fun hl10 => ?_⟩
  refine loop_by (σ := Nat × Int × Int) (n := 1) (fun q => [.own 0 ((srcG 1 1 :: flatsG 0 (ns.take q.1)).map encN), .p (.int .i64 q.2.1), .p (.int .i64 q.2.2), .p (.int .i64 q.1)]) (fun q => [.row (q.1 + 1) 21]) (fun q => q.1 ≤ l.length ∧ Way ns q.1 q.2.1 q.2.2) (fun q => l.length - q.1) [.slot 0 21] (0, 1, -1) (fun q => rfl) ?_ ⟨by simp, .inl ⟨rfl, 1, rfl, by omega, rfl⟩⟩ (fun q B hq hB => ?_)
  · refine ⟨fun e he => by simp at he; subst he; rfl, ?_, rfl⟩
    simp [flatsG]
  obtain ⟨i, w, bad⟩ := q
  obtain ⟨h1, h2⟩ := hq
  simp only at h1 h2
  have hE : ((srcG 1 1 :: flatsG 0 (ns.take i)).map encN).length = i + 1 := by simp [flatsG_length]; omega
  have hEs : ∀ e ∈ (srcG 1 1 :: flatsG 0 (ns.take i)).map encN, e.cells.length = 21 := encN_size _
  have hnext : ∀ n, ns[i]? = some n → (srcG 1 1 :: flatsG 0 (ns.take i)).map encN ++ [encN (flatG i n)] = (srcG 1 1 :: flatsG 0 (ns.take (i + 1))).map encN := by
    intro n hn
    obtain ⟨hi, rfl⟩ := List.getElem?_eq_some_iff.1 hn
    rw [← take_snoc hi, flatsG_snoc]
    simp [Nat.min_eq_left (Nat.le_of_lt hi)]
  have hfin : ns.length ≤ i → (srcG 1 1 :: flatsG 0 (ns.take i)).map encN ++ [encN (sinkG ns.length 1 1)] = (growsG ns).map encN := by
    intro hi
    rw [List.take_of_length_le hi, growsG]
    simp
  generalize (srcG 1 1 :: flatsG 0 (ns.take i)).map encN = E at *
  simp [runnellaw8_GraphGrows_L1]
  intro _
  refine ⟨fun hlt => ?_, fun hge _ => ?_⟩
  · have hn := hnx i hlt
    have hb := hr l[i] (List.getElem_mem hlt)
    have ht : l[i].tmod 4 = ((l[i].toNat % 4 : Nat) : Int) := by rw [Int.tmod_eq_emod_of_nonneg hb.1]; omega
    obtain ⟨n, hne⟩ : ∃ n, n = 1 + l[i].toNat % 4 := ⟨_, rfl⟩
    rw [← hne] at hn
    have hnn := hn4 n (List.mem_of_getElem? hn)
    have e : IntKind.i64.wrap (1 + IntKind.i64.wrap (max l[i] 0 % 4)) = (n : Int) := by
      rw [IntWalk.i64_in (max l[i] 0 % 4) (by omega), IntWalk.i64_in _ (by omega)]
      omega
    have hnx' := hnext n hn
    have hbd : ∀ k : Nat, badG i k (ns.drop i) = if 64 < k * n then some (i + 1) else badG (i + 1) (k * n) (ns.drop (i + 1)) := by
      intro k
      obtain ⟨hi, rfl⟩ := List.getElem?_eq_some_iff.1 hn
      rw [List.drop_eq_getElem_cons hi, badG]
    simp [hlt, ht]
    rw [e]
    clear e hne ht
    refine loop_by (σ := Nat) (n := 2) (fun k => [.own 1 (List.replicate k (encE eX)), .p (.int .i64 k)]) (fun k => [.row (i + 1) 21, .row k 8]) (fun k => k ≤ n) (fun k => n - k) [.slot 0 8] 0 (fun _ => rfl) ⟨rfl, rfl⟩ (by simp) (fun k B2 hk hB2 => ?_)
    simp [runnellaw8_GraphGrows_L2]
    refine ⟨fun hltk => ?_, fun hgek => ?_⟩
    · (first | refine aCall_fold rfl ?_ | refine aCallT_fold rfl ?_)
      (first | refine aCallU_p (X_spec) ?_ | refine aCallTU_p (X_spec) ?_ | refine aCallU_of (X_spec) ?_ | refine aCallTU_of (X_spec) rfl ?_ | refine aCallTU_of (X_spec) (by simp [AV.pur]; rfl) ?_)
      try simp
      refine ⟨⟨fun e he => ?_, by simp, by simp; omega⟩, ?_⟩
      · have := List.eq_of_mem_replicate he; subst this; rfl
      rw [IntWalk.i64_in _ (by omega)]
      refine cast (congrArg (fun x => B2 x _) ?_) (hB2 (k + 1) _ (by omega) (by omega) ?_ ?_ ?_ (by simp [AV.under, AV.under1]))
      · simp [List.replicate_succ']
      · simp
      · simp [Ob.below, AV.under1]
      · simp
    · have : k = n := by omega
      subst this
      have fin : ∀ (w' b' : Int), Way ns (i + 1) w' b' → ∀ X, E ++ [X] = (srcG 1 1 :: flatsG 0 (ns.take (i + 1))).map encN → B [AV.own 0 (E ++ [X]), .p (.int .i64 w'), .p (.int .i64 b'), .p (.int .i64 (IntKind.i64.wrap (i + 1)))] [Ob.row (i + 1 + 1) 21, Ob.row k 8] := by
        intro w' b' hw X hX
        rw [hX, IntWalk.i64_in _ (by omega)]
        exact hB (i + 1, w', b') _ ⟨by simp only; omega, hw⟩ (by simp only; omega) (by simp) (by simp [Ob.below, AV.under1]) (by simp) (by simp [AV.under, AV.under1])
      have hX := hnext k hn
      refine ⟨by omega, ⟨hEs, by simp, by simp; omega⟩, fun hb => ?_, fun hb => ?_⟩
      · rcases h2 with ⟨rfl, k0, rfl, hk0, hbg⟩ | ⟨b, rfl, _⟩
        · have hle : k0 * k ≤ 64 * 4 := Nat.mul_le_mul hk0 hnn.2
          have hwr : IntKind.i64.wrap ((k0 : Int) * (k : Int)) = ((k0 * k : Nat) : Int) := by
            rw [← Int.natCast_mul, IntWalk.i64_in _ (by omega)]
          rw [hwr]
          refine ⟨fun h64 => ?_, fun h64 => ?_⟩
          · refine fin _ _ (.inr ⟨i + 1, by rw [IntWalk.i64_in _ (by omega)]; rfl, by rw [hbg, hbd, if_pos (by omega)]⟩) _ ?_
            rw [← hX]; simp [List.map_replicate]
          · refine fin _ _ (.inl ⟨rfl, k0 * k, rfl, by omega, by rw [hbg, hbd, if_neg (by omega)]⟩) _ ?_
            rw [← hX]; simp [List.map_replicate]
        · omega
      · rcases h2 with ⟨rfl, _⟩ | ⟨b, rfl, hbb⟩
        · omega
        · refine fin _ _ (.inr ⟨b, rfl, hbb⟩) _ ?_
          rw [← hX]; simp [List.map_replicate]
  · have hck := GCheck_spec (growsG ns) (growsG_ok ns hn4)
    have hty := Types_spec (growsG ns) (growsG_ok ns hn4) (by simp [growsG, flatsG_length]; omega)
    have hlen := grows_types ns hn4
    rw [grows_check ns hn4 (by omega)] at hck
    have hf := hfin (by omega)
    rw [hnl] at hf
    simp only [encN_eta] at hf
    refine ⟨by omega, ⟨hEs, by simp, by simp; omega⟩, ?_⟩
    have hf' := hf
    simp at hf'
    rw [hf']
    generalize growsG ns = g at *
    refine aCallW_of rfl rfl hck ?_
    have hi : i = ns.length := by omega
    subst hi
    clear hB hfin hnext
    rcases h2 with ⟨rfl, k0, rfl, _, hbg⟩ | ⟨b, rfl, hbb⟩
    · rw [List.drop_length, badG] at hbg
      rw [hbg]
      simp
      refine aMerge_intro true (fun _ => ?_) ?_
      · refine aCallW_of rfl rfl hty ?_
        simp [hlen hbg]
      · simp
        exact gives_p rfl
    · rw [hbb]
      simp
      exact gives_p rfl

end Go.Proofs.Ytmnmiiifilfcmaa
