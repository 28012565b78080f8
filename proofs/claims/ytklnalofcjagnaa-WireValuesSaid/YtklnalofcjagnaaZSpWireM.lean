/- The laws WireCut, WireSizes, WireApart, WireValues. -/
import Derived.Test.YtklnalofcjagnaaZSpWireL
set_option linter.unusedSimpArgs false
set_option linter.unusedVariables false
namespace Go.Proofs.Ytklnalofcjagnaa
open Go Go.Abs

attribute [local irreducible] Abs.Fn

theorem good_len {v : Va} (hg : goodV v = true) (hi : V64 v) : checkV v 0 = 0 ∧ (putB v).length ≤ 30000000 := by
  simp [goodV] at hg
  exact ⟨hg.2, put_len v 5 0 hg.2 hi (by omega)⟩

theorem aBytesStr_byT {l : List Nat} {K : AV → Prop} (h : ∀ c ∈ l, c < 256) : aBytesStr (.p (.slice (byT l))) K = K (.p (.str (l.map UInt8.ofNat))) := by
  simp [aBytesStr, AV.elems, bytesOf_byT l h]
theorem aBytesStr_own {l : List Nat} {i : Nat} {K : AV → Prop} (h : ∀ c ∈ l, c < 256) : aBytesStr (.own i (byT l)) K = K (.p (.str (l.map UInt8.ofNat))) := by
  simp [aBytesStr, AV.elems, bytesOf_byT l h]
theorem ofNat_back {l : List Nat} (h : ∀ c ∈ l, c < 256) : (l.map UInt8.ofNat).map UInt8.toNat = l := by
  induction l with
  | nil => rfl
  | cons c r ih =>
    have hc := h c (by simp)
    simp only [List.map_cons, ih (fun c hc => h c (by simp [hc]))]
    congr 1
    simp
    omega
theorem ofNat_inj {l m : List Nat} (hl : ∀ c ∈ l, c < 256) (hm : ∀ c ∈ m, c < 256) : (l.map UInt8.ofNat = m.map UInt8.ofNat) ↔ l = m := by
  refine ⟨fun h => ?_, fun h => by rw [h]⟩
  rw [← ofNat_back hl, h, ofNat_back hm]

/-- How many bytes a number has, none for nought. -/
def lenR (x : Nat) : Nat := if x = 0 then 0 else (numB x).length
theorem lenR_step {x : Nat} (h : 0 < x) : lenR x = 1 + lenR (x / 128) := by
  unfold lenR
  rw [if_neg (by omega)]
  by_cases hx : x < 128
  · rw [num_end hx, if_pos (by omega)]; rfl
  · rw [num_step hx, if_neg (by omega)]; simp; omega
theorem lenR_first (z : Nat) : (numB z).length = 1 + lenR (z / 128) := by
  by_cases h : z = 0
  · subst h; rw [num_end (by omega)]; rfl
  · have := lenR_step (x := z) (by omega)
    unfold lenR at this
    rw [if_neg h] at this
    exact this

set_option maxHeartbeats 1000000 in
theorem WireCut_spec (v : Va) (m : Int) (hi : V64 v) (hm : 0 ≤ m ∧ m ≤ 65535) : Abs.Fn Try.prog runnellaw3_WireCut_i [] [.p (encV v), .p (.int .u16 m)] (.p (.bool true)) [] := by
  have hgood := good2_spec v
  apply runnellaw3_WireCut_fn
  simp only [encV_eta] at hgood
  simp [runnellaw3_WireCut]
  refine aCallW_of rfl rfl known3_spec ?_
  simp
  refine aCallW_of rfl rfl hgood ?_
  simp
  refine ⟨fun _ => gives_p rfl, fun hg => ?_⟩
  obtain ⟨hc, hl⟩ := good_len hg hi
  have hpos := putB_pos v
  have hput := wire_Put_nil v 0 hc hi (by omega)
  simp only [encV_eta] at hput
  refine aCallG_of [] hput rfl (by simp [renF, AV.norm]) (by simp) (by simp [framed]) (by simp [AV.under, AV.under1]) (by simp) ?_
  simp [renF, frameH, setAll]
  intro hml
  have hne : putB v ≠ [] := fun h => by rw [h] at hpos; simp at hpos
  obtain ⟨k, rfl⟩ : ∃ k : Nat, m = k := ⟨m.toNat, by omega⟩
  have hlt : k % (putB v).length < (putB v).length := Nat.mod_lt _ (by omega)
  have hw : (IntKind.i64.wrap (k : Int)).tmod ((putB v).length : Int) = ((k % (putB v).length : Nat) : Int) := by
    rw [IntWalk.i64_in _ (by omega), Int.tmod_eq_emod_of_nonneg (by omega)]
    rfl
  rw [hw]
  have hget := Get_er v (k % (putB v).length) hc hi hlt (by omega)
  refine ⟨fun h => absurd h hne, fun _ _ => ⟨hne, ?_⟩⟩
  generalize k % (putB v).length = cut at *
  simp [aSliceSl, boundK, atSize]
  rw [take_byT']
  simp only [encV_eta] at hget
  refine ⟨by omega, ?_⟩
  refine aCallW_of rfl rfl hget ?_
  simp
  exact gives_p rfl

set_option maxHeartbeats 1000000 in
theorem sizes_rest (n : Int) (hn : -9223372036854775808 ≤ n ∧ n ≤ 9223372036854775807) : runnellaw3_WireSizes_J1 (.p (.int .i64 n)) (.p (.int .u64 (zig n))) [] (fun v H' => Gives 0 v H' (.p (.bool true)) []) := by
  have z1 := zig_lt hn
  have h10 := numB_len64 z1
  simp [runnellaw3_WireSizes_J1]
  rw [shr7]
  refine loop_by (σ := Nat × Nat) (n := 0) (fun q => [.p (.int .i64 q.1), .p (.int .u64 q.2)]) (fun _ => []) (fun q => q.1 + lenR q.2 = (numB (zig n)).length) (fun q => q.2) [] (1, zig n / 128) (fun _ => rfl) (by simp [ghosts]) (lenR_first _).symm (fun q B hq hB => ?_)
  obtain ⟨w, x⟩ := q
  simp only at hq
  simp [runnellaw3_WireSizes_L1]
  rw [shr7]
  have hw : IntKind.i64.wrap ((w : Int) + 1) = (w : Int) + 1 := IntWalk.i64_in _ (by omega)
  rw [hw]
  refine ⟨fun hx => ?_, fun hx => ?_⟩
  · have := lenR_step hx
    exact hB (w + 1, x / 128) _ (by simp only; omega) (by simp only; omega) (by simp) (by simp) (by simp) (by simp [AV.under, AV.under1])
  · have hx0 : x = 0 := by omega
    subst hx0
    have hw2 : w = (numB (zig n)).length := by have : lenR 0 = 0 := rfl; omega
    subst hw2
    have hi : V64 (intV n) := .mk _ _ _ _ _ hn (by simp)
    have hpb : putB (intV n) = 1 :: numB (zig n) := by simp [putB]
    have k1 := wire_Put_nil (intV n) 0 rfl hi (by rw [hpb]; simp; omega)
    have k2 := wire_PutNum_nil (zig n) z1
    rw [hpb] at k1
    simp only [encV_eta] at k1
    refine aCallW_of rfl rfl (Int_spec n) ?_
    simp
    refine aCallG_of [] k1 rfl (by simp [renF, AV.norm]) (by simp) (by simp [framed]) (by simp [AV.under, AV.under1]) (by simp) ?_
    simp [renF, frameH, setAll]
    refine aCallG_of [] k2 rfl (by simp [renF, AV.norm]) (by simp) (by simp [framed]) (by simp [AV.under, AV.under1]) (by simp) ?_
    simp [renF, frameH, setAll]
    refine ⟨by simp only [maxLen]; omega, fun _ => ⟨by simp only [maxLen]; omega, ?_⟩, fun h => absurd hw.symm h⟩
    simp [aSliceSl, boundK, atSize]
    have hnp := numB_pos (zig n)
    refine ⟨by omega, fun _ => by simp [byT, hnp], ?_⟩
    rw [take_byT, aBytesStr_byT (numB_lt _), aBytesStr_byT (numB_lt _)]
    simp
    exact gives_p rfl

set_option maxHeartbeats 1000000 in
theorem WireSizes_spec (n : Int) (hn : -9223372036854775808 ≤ n ∧ n ≤ 9223372036854775807) : Abs.Fn Try.prog runnellaw3_WireSizes_i [] [.p (.int .i64 n)] (.p (.bool true)) [] := by
  have z1 := zig_lt hn
  apply runnellaw3_WireSizes_fn
  simp [runnellaw3_WireSizes]
  refine aCallW_of rfl rfl known3_spec ?_
  simp
  refine ⟨fun hneg => ?_, fun hp => ?_⟩
  · rw [aUn_xor64, zigN ⟨hn.1, hneg⟩]
    exact sizes_rest n hn
  · rw [zigP ⟨hp, hn.2⟩]
    exact sizes_rest n hn

set_option maxHeartbeats 1000000 in
theorem WireApart_spec (a b : Va) (hia : V64 a) (hib : V64 b) : Abs.Fn Try.prog runnellaw3_WireApart_i [] [.p (encV a), .p (encV b)] (.p (.bool true)) [] := by
  have hga := good2_spec a
  have hgb := good2_spec b
  apply runnellaw3_WireApart_fn
  simp only [encV_eta] at hga hgb
  simp [runnellaw3_WireApart]
  refine aCallW_of rfl rfl known3_spec ?_
  simp
  refine aCallW_of rfl rfl hga ?_
  simp
  refine aMerge_intro (!goodV b) (fun _ => ?_) ?_
  · refine aCallW_of rfl rfl hgb ?_
    simp
  simp
  refine ⟨fun _ => gives_p rfl, fun g1 g2 => ?_⟩
  obtain ⟨hca, hla⟩ := good_len g1 hia
  obtain ⟨hcb, hlb⟩ := good_len g2 hib
  have hpa := putB_pos a
  have hpb := putB_pos b
  have hputa := wire_Put_nil a 0 hca hia (by omega)
  have hputb := wire_Put_nil b 0 hcb hib (by omega)
  simp only [encV_eta] at hputa hputb
  refine aCallG_of [] hputa rfl (by simp [renF, AV.norm]) (by simp) (by simp [framed]) (by simp [AV.under, AV.under1]) (by simp) ?_
  simp [renF, frameH, setAll]
  refine aCallG_of [] hputb rfl (by simp [renF, AV.norm]) (by simp) (by simp [framed]) (by simp [AV.under, AV.under1]) (by simp) ?_
  simp [renF, frameH, setAll]
  have wa : Wv 1000000000 a := by
    simp [goodV] at g1
    exact (fewV_small g1.1).mono (by omega)
  have wb : Wv 1000000000 b := by
    simp [goodV] at g2
    exact (fewV_small g2.1).mono (by omega)
  (first | refine aCall_fold rfl ?_ | refine aCallT_fold rfl ?_)
  (first | refine aCallU_p (of2_spec wa) ?_ | refine aCallTU_p (of2_spec wa) ?_ | refine aCallU_of (of2_spec wa) ?_ | refine aCallTU_of (of2_spec wa) rfl ?_ | refine aCallTU_of (of2_spec wa) (by simp [AV.pur]; rfl) ?_)
  try simp [frameH, setAll]
  (first | refine aCall_fold rfl ?_ | refine aCallT_fold rfl ?_)
  (first | refine aCallU_p (of2_spec wb) ?_ | refine aCallTU_p (of2_spec wb) ?_ | refine aCallU_of (of2_spec wb) ?_ | refine aCallTU_of (of2_spec wb) rfl ?_ | refine aCallTU_of (of2_spec wb) (by simp [AV.pur]; rfl) ?_)
  try simp [frameH, setAll]
  (first | refine aCall_fold rfl ?_ | refine aCallT_fold rfl ?_)
  (first | refine aCallU_p (SameR_spec a b) ?_ | refine aCallTU_p (SameR_spec a b) ?_ | refine aCallU_of (SameR_spec a b) ?_ | refine aCallTU_of (SameR_spec a b) rfl ?_ | refine aCallTU_of (SameR_spec a b) (by simp [AV.pur]; rfl) ?_)
  try simp [frameH, setAll]
  have hltA := putB_lt a 0 hca
  have hltB := putB_lt b 0 hcb
  have heq : ((putB a).map UInt8.ofNat = (putB b).map UInt8.ofNat) ↔ a = b := by
    rw [ofNat_inj hltA hltB]
    refine ⟨fun h => ?_, fun h => by rw [h]⟩
    exact (put_front a b 0 0 [] [] hca hcb hia hib (by simpa using h)).1
  have hfront : ((putB b).take (putB a).length).map UInt8.ofNat = (putB a).map UInt8.ofNat ↔ a = b := by
    rw [ofNat_inj (fun c h => hltB c (List.mem_of_mem_take h)) hltA]
    refine ⟨fun h => ?_, fun h => by rw [h]; simp⟩
    refine (put_front a b 0 0 ((putB b).drop (putB a).length) [] hca hcb hia hib ?_).1
    rw [← h, List.append_nil]
    conv => rhs; rw [← List.take_append_drop (putB a).length (putB b)]
    rw [h]
  have hne : putB a ≠ [] := fun h => by rw [h] at hpa; simp at hpa
  have hneb : putB b ≠ [] := fun h => by rw [h] at hpb; simp at hpb
  have hma : (putB a).length ≤ maxLen := by simp only [maxLen]; omega
  have hmb : (putB b).length ≤ maxLen := by simp only [maxLen]; omega
  have hz : cmpV a b = 0 ↔ a = b := cmpV_zero a b
  have sA : ∀ K, aBytesStr (.p (.slice (byT (putB a)))) K = K (.p (.str ((putB a).map UInt8.ofNat))) := fun K => aBytesStr_byT hltA
  have sB : ∀ K, aBytesStr (.p (.slice (byT (putB b)))) K = K (.p (.str ((putB b).map UInt8.ofNat))) := fun K => aBytesStr_byT hltB
  have sT : ∀ K, aBytesStr (.p (.slice (byT ((putB b).take (putB a).length)))) K = K (.p (.str (((putB b).take (putB a).length).map UInt8.ofNat))) := fun K => aBytesStr_byT (fun c h => hltB c (List.mem_of_mem_take h))
  intro _
  refine ⟨fun h => by simp [hne, hneb] at h, fun _ _ => ⟨hma, hmb, fun hle => ⟨hma, ?_⟩, fun hlt => ?_⟩⟩
  · simp [aSliceSl, boundK, atSize]
    rw [take_byT']
    simp only [sA, sB, sT]
    refine ⟨hle, ?_⟩
    have e1 : (List.take (putB a).length (List.map UInt8.ofNat (putB b)) = List.map UInt8.ofNat (putB a)) ↔ a = b := by
      rw [← List.map_take]; exact hfront
    simp
    refine gives_p ?_
    simp only [T.bool.injEq, Bool.and_eq_true, beq_iff_eq, decide_eq_decide]
    exact ⟨e1.trans hz.symm, heq.trans hz.symm⟩
  · simp only [sA, sB]
    have hab : a ≠ b := fun h => by rw [h] at hlt; omega
    simp
    refine gives_p ?_
    simp only [T.bool.injEq, Bool.and_eq_true, Bool.not_eq_true', decide_eq_false_iff_not, beq_iff_eq, decide_eq_decide]
    exact ⟨fun h => hab (hz.1 h), heq.trans hz.symm⟩

set_option maxHeartbeats 1000000 in
theorem WireValues_spec (v : Va) (l : List Int) (hi : V64 v) (hl : ∀ x ∈ l, 0 ≤ x ∧ x ≤ 255) : Abs.Fn Try.prog runnellaw3_WireValues_i [] [.p (encV v), .p (.slice (l.map (.int .u8)))] (.p (.bool true)) [] := by
  obtain ⟨b, hb, hb2⟩ : ∃ b : List Nat, l.map (T.int .u8) = byT b ∧ ∀ c ∈ b, c < 256 := by
    refine ⟨l.map Int.toNat, ?_, ?_⟩
    · simp only [byT, List.map_map]
      apply List.map_congr_left
      intro x hx
      have := hl x hx
      simp
      omega
    · intro c hc
      simp only [List.mem_map] at hc
      obtain ⟨x, hx, rfl⟩ := hc
      have := hl x hx
      omega
  rw [hb]
  have hgood := good2_spec v
  apply runnellaw3_WireValues_fn
  simp only [encV_eta] at hgood
  simp [runnellaw3_WireValues]
  refine aCallW_of rfl rfl known3_spec ?_
  simp
  refine aCallW_of rfl rfl hgood ?_
  simp
  refine ⟨fun _ => gives_p rfl, fun hg hbl => ?_⟩
  obtain ⟨hc, hlen⟩ := good_len hg hi
  have hpos := putB_pos v
  have hwv : Wv 1000000000 v := by
    simp [goodV] at hg
    exact (fewV_small hg.1).mono (by omega)
  have hput := wire_Put_own v 0 b hc hi (by omega)
  have hputR := runnelref6_Put_own v 0 b hc hi (by omega)
  have ho2 := of2_spec hwv
  simp only [encV_eta] at hput hputR ho2
  have hap : appendable 1 1 [] (byT b) := ⟨by simp, byT_size _, by simp; omega⟩
  refine ⟨hap, ?_⟩
  refine aCallG_of [1] hput rfl (by simp [renF, AV.norm]) (by simp) (by simp [framed, renF]) (by simp [AV.under, AV.under1]) (by simp [Ob.below]) ?_
  simp [renF, frameH, setAll]
  refine ⟨hap, ?_⟩
  refine aCallW_of rfl rfl ho2 ?_
  simp [frameH, setAll]
  refine aCallG_of [2] hputR rfl (by simp [renF, AV.norm]) (by simp) (by simp [framed, renF]) (by simp [AV.under, AV.under1]) (by simp [Ob.below]) ?_
  simp [renF, frameH, setAll]
  have hbp : ∀ c ∈ b ++ putB v, c < 256 := fun c h => by
    rcases List.mem_append.1 h with h | h
    · exact hb2 c h
    · exact putB_lt v 0 hc c h
  have e0 : byT b ++ byT (putB v) = byT (b ++ putB v) := by simp
  rw [e0]
  have sO : ∀ i K, aBytesStr (.own i (byT (b ++ putB v))) K = K (.p (.str ((b ++ putB v).map UInt8.ofNat))) := fun i K => aBytesStr_own hbp
  simp only [sO]
  simp [aSliceSl, boundK, atSize]
  intro hml
  have e1 : ((b.length : Int) + (putB v).length).toNat = b.length + (putB v).length := by omega
  rw [e1, List.take_of_length_le (by simp), List.drop_left' (by simp)]
  have hg1 : ((byT b ++ byT (putB v))[b.length]?.getD default).cells.length = 1 := by
    rw [e0, byT_get (by simp; omega)]
    rfl
  refine ⟨by omega, fun _ => hg1, ⟨by simp, byT_size _, by simp; omega⟩, ⟨byT_size _, byT_size _, by simp; omega⟩, ?_⟩
  have hget := Get_ok v b hc hi hb2 (by simp; omega)
  simp only [encV_eta] at hget
  rw [← byT_append]
  refine aCallW_of rfl rfl hget ?_
  simp
  have ww : IntKind.i64.wrap ((b.length : Int) + (putB v).length - b.length) = (putB v).length := by rw [IntWalk.i64_in _ (by omega)]; omega
  refine aMerge_intro true (fun _ => ?_) ?_
  · (first | refine aCall_fold rfl ?_ | refine aCallT_fold rfl ?_)
    (first | refine aCallU_p (Same_spec v v) ?_ | refine aCallTU_p (Same_spec v v) ?_ | refine aCallU_of (Same_spec v v) ?_ | refine aCallTU_of (Same_spec v v) rfl ?_ | refine aCallTU_of (Same_spec v v) (by simp [AV.pur]; rfl) ?_)
    try simp [cmpV_self]
  simp [ww]
  exact gives_p rfl

end Go.Proofs.Ytklnalofcjagnaa
