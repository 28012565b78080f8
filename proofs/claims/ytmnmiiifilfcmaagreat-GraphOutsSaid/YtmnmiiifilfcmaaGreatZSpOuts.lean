/- The law GraphOuts. -/
import Derived.Test.YtmnmiiifilfcmaaGreatZSpGraphS
import Derived.Test.YtmnmiiifilfcmaaGreatZSpOf7
import Derived.Test.YtmnmiiifilfcmaaGreatZSpGrows
set_option linter.unusedSimpArgs false
set_option linter.unusedVariables false
namespace Go.Proofs.YtmnmiiifilfcmaaGreat
open Go Go.Abs

attribute [local irreducible] Abs.Fn

def fewN (n : Nd) : Bool := decide (n.uid.length ≤ 50) && (decide (n.grp.length ≤ 50) && (decide (n.ins.length ≤ 8) && fewO n.op))
def fewG (g : List Nd) : Bool := decide (g.length ≤ 20) && g.all fewN

theorem few8_spec (g : List Nd) : Abs.Fn Tryz.prog runnellaw8_Few_i [] [.p (.slice (g.map encN))] (.p (.bool (fewG g))) [] := by
  apply runnellaw8_Few_fn
  simp [runnellaw8_Few]
  intro _
  refine ⟨fun h => gives_p ?_, fun h20 => ?_⟩
  · have : fewG g = false := by simp only [fewG]; simp; omega
    rw [this]
  have hf : fewG g = g.all fewN := by simp only [fewG]; simp; omega
  rw [hf]
  refine loop_by (σ := Nat) (n := 0) (fun i => [.p (.int .i64 i)]) (fun _ => []) (fun i => i ≤ g.length ∧ (g.drop i).all fewN = g.all fewN) (fun i => g.length - i) [] 0 (fun _ => rfl) ⟨rfl, rfl⟩ (by simp) (fun i B hi hB => ?_)
  obtain ⟨h1, h2⟩ := hi
  generalize g.all fewN = A at *
  simp [runnellaw8_Few_L1]
  intro _
  refine ⟨fun hlt => ?_, fun hge => ?_⟩
  · have h7 := few7_spec g[i].op
    rw [List.drop_eq_getElem_cons hlt, List.all_cons] at h2
    simp only [encO_eta] at h7
    simp [hlt]
    intro _
    refine aMerge_intro (!fewO g[i].op) (fun _ => ?_) ?_
    · refine aCallW_of rfl rfl h7 ?_
      simp
    simp
    refine ⟨fun hz => gives_p ?_, fun u1 u2 u3 u4 => ?_⟩
    · have : fewN g[i] = false := by
        rw [Bool.eq_false_iff]
        intro h
        simp only [fewN, Bool.and_eq_true, decide_eq_true_eq] at h
        obtain ⟨a, b, c, d⟩ := h
        rcases hz with ((hz | hz) | hz) | hz
        · omega
        · omega
        · omega
        · rw [d] at hz; simp at hz
      rw [← h2, this]; rfl
    · have : fewN g[i] = true := by
        simp only [fewN, Bool.and_eq_true, decide_eq_true_eq]
        exact ⟨by omega, by omega, by omega, u4⟩
      rw [this, Bool.true_and] at h2
      rw [IntWalk.i64_in _ (by omega)]
      exact hB (i + 1) _ ⟨by omega, h2⟩ (by omega) (by simp) (by simp) (by simp) (by simp [AV.under, AV.under1])
  · rw [List.drop_of_length_le hge] at h2
    exact gives_p (by rw [← h2]; rfl)

theorem fewG_ok {g : List Nd} (h : fewG g = true) : g.length ≤ 20 ∧ (∀ n ∈ g, OkN n ∧ Wd 1000000000 n.op.t ∧ n.ins.length ≤ 8) := by
  simp only [fewG, Bool.and_eq_true, decide_eq_true_eq, List.all_eq_true, fewN] at h
  refine ⟨h.1, fun n hn => ?_⟩
  obtain ⟨_, _, h3, h4⟩ := h.2 n hn
  obtain ⟨k1, k2, k3, k4⟩ := fewO_small h4
  exact ⟨⟨fun e he => ⟨(k3 e he).1, by have := (k3 e he).2; omega⟩, ⟨k2.1, by omega⟩, by omega, by omega⟩, k1, h3⟩

theorem of8_spec (g : List Nd) (h : ∀ n ∈ g, OkN n ∧ Wd 1000000000 n.op.t ∧ n.ins.length ≤ 8) (hl : g.length ≤ 1000) : Abs.Fn Tryz.prog runnellaw8_Of_i [] [.p (.slice (g.map encN))] (.p (.slice (g.map encN))) [] := by
  apply runnellaw8_Of_fn
  simp [runnellaw8_Of]
  refine loop_by (σ := Nat) (n := 1) (fun i => [.own 0 ((g.take i).map encN), .p (.int .i64 i)]) (fun i => [.row i 21]) (fun i => i ≤ g.length) (fun i => g.length - i) [.slot 0 21] 0 (fun _ => rfl) ⟨rfl, rfl⟩ (by simp) (fun i B hi hB => ?_)
  simp [runnellaw8_Of_L1]
  intro _
  refine ⟨fun hlt => ?_, fun hge => ?_⟩
  · obtain ⟨k1, k2, _⟩ := h g[i] (List.getElem_mem hlt)
    have h7 := of7_spec k2 k1.key.1 (fun e he => (k1.es e he).1) k1.len
    have hs := take_snoc (l := g.map encN) (i := i) (by simpa using hlt)
    simp only [List.getElem_map, encN_eta] at hs
    simp only [encO_eta] at h7
    simp [hlt]
    refine aCallT_of rfl h7 rfl ?_
    simp [hlt]
    refine ⟨by omega, ⟨fun e he => ?_, by simp, by simp; omega⟩, ?_⟩
    · obtain ⟨x, _, rfl⟩ := List.mem_map.1 (List.mem_of_mem_take he); rfl
    rw [IntWalk.i64_in _ (by omega), hs, ← List.map_take]
    exact hB (i + 1) _ (by omega) (by omega) (by simp) (by simp [Ob.below, AV.under1]) (by simp) (by simp [AV.under, AV.under1])
  · rw [List.take_of_length_le (by simp; omega)]
    exact gives_pure (by simp [AV.pur])

theorem good8_spec (g : List Nd) : Abs.Fn Tryz.prog runnellaw8_Good_i [] [.p (.slice (g.map encN))] (.p (.bool (fewG g && decide ((checkR g).2 = 0)))) [] := by
  have hf := few8_spec g
  apply runnellaw8_Good_fn
  simp [runnellaw8_Good]
  refine aCallW_of rfl rfl hf ?_
  simp
  refine ⟨fun h => gives_p (by rw [h]; rfl), fun h => ?_⟩
  obtain ⟨h1, h2⟩ := fewG_ok h
  refine aCallW_of rfl rfl (of8_spec g h2 (by omega)) ?_
  simp
  refine aCallW_of rfl rfl (gcheckR_spec g (fun n hn => (h2 n hn).1)) ?_
  simp
  exact gives_p (by rw [h]; rfl)

theorem outsSum_le (l : List Nd) : ∀ m, outsSum l m ≤ m * l.length
  | 0 => by simp [outsSum]
  | m + 1 => by
    have h1 := outsSum_le l m
    have h2 := whoF_len (fun n => decide ((m : Int) ∈ n.ins)) l 0
    rw [whoF_outs] at h2
    simp only [outsSum, Nat.add_mul, Nat.one_mul]
    omega
theorem insSum_le (l : List Nd) (h : ∀ n ∈ l, n.ins.length ≤ 8) : ∀ m, m ≤ l.length → insSum l m ≤ m * 8
  | 0, _ => by simp [insSum]
  | m + 1, hm => by
    have h1 := insSum_le l h m (by omega)
    have h2 := h l[m] (List.getElem_mem (by omega))
    simp only [insSum, List.getD_eq_getElem?_getD, List.getElem?_eq_getElem (show m < l.length by omega), Option.getD_some]
    omega

set_option maxRecDepth 100000 in
set_option maxHeartbeats 1000000 in
theorem GraphOuts_spec (g : List Nd) : Abs.Fn Tryz.prog runnellaw8_GraphOuts_i [] [.p (.slice (g.map encN))] (.p (.bool true)) [] := by
  have hg := good8_spec g
  apply runnellaw8_GraphOuts_fn
  simp [runnellaw8_GraphOuts]
  refine aCallW_of rfl rfl known8_spec ?_
  simp
  refine aCallW_of rfl rfl hg ?_
  simp
  refine ⟨fun _ => gives_p rfl, fun hf hc => ?_⟩
  obtain ⟨hl20, hfew⟩ := fewG_ok hf
  have hG := checkR_good hc
  have h16 := hG.len
  have hIn : ∀ n ∈ g, n.ins.length ≤ 8 := fun n hn => (hfew n hn).2.2
  refine loop_by (σ := Nat × Int) (n := 0) (fun q => [.p (.int .i64 q.2), .p (.int .i64 q.1)]) (fun _ => []) (fun q => q.1 ≤ g.length ∧ q.2 = (outsSum g q.1 : Int) - insSum g q.1) (fun q => g.length - q.1) [] (0, 0) (fun _ => rfl) ⟨rfl, rfl⟩ ⟨by simp, by simp [outsSum, insSum]⟩ (fun q B hq hB => ?_)
  obtain ⟨i, n⟩ := q
  obtain ⟨h1, h2⟩ := hq
  simp only at h1 h2
  simp [runnellaw8_GraphOuts_L1]
  intro _
  refine ⟨fun hlt => ?_, fun hge => ?_⟩
  · have ho := Outs_spec g i (by omega)
    have hup := outsFrom_up i g 0
    have hmem := outsFrom_mem i g 0
    have hsum : outsSum g (i + 1) = outsSum g i + (outsFrom i 0 g).length := rfl
    have hins : insSum g (i + 1) = insSum g i + g[i].ins.length := by simp only [insSum, List.getD_eq_getElem?_getD, List.getElem?_eq_getElem hlt, Option.getD_some]
    have hle1 := outsSum_le g (i + 1)
    have hle0 := outsSum_le g i
    have hle2 := insSum_le g hIn (i + 1) (by omega)
    have hle3 := insSum_le g hIn i (by omega)
    have hmm : (i + 1) * g.length ≤ 16 * 16 := Nat.mul_le_mul (by omega) h16
    have hmn : i * g.length ≤ 16 * 16 := Nat.mul_le_mul (by omega) h16
    have hsink : (outsFrom i 0 g = []) ↔ g[i].op.k = 9 := ⟨fun h => by
      by_cases h9 : g[i].op.k = 9
      · exact h9
      · exact absurd h (hG.read i hlt h9), fun h => sink_unread hG i hlt h⟩
    have hx : ∀ x ∈ outsFrom i 0 g, ∃ j, ∃ hj : j < g.length, x = (j : Int) ∧ (i : Int) ∈ g[j].ins ∧ i < j := by
      intro x hx
      obtain ⟨j, hj, e, hm⟩ := hmem x hx
      have := (hG.ins j hj).1 i hm
      exact ⟨j, hj, by rw [e]; simp, hm, by omega⟩
    generalize outsFrom i 0 g = o at *
    refine aCallW_of rfl rfl ho ?_
    simp [hlt]
    intro hml
    refine ⟨fun h => absurd hsink h, fun _ => ?_⟩
    refine loop_by (σ := Nat) (n := 0) (fun k => [.p (.int .i64 k)]) (fun _ => []) (fun k => k ≤ o.length) (fun k => o.length - k) [] 0 (fun _ => rfl) ⟨rfl, rfl⟩ (by simp) (fun k B2 hk hB2 => ?_)
    simp [runnellaw8_GraphOuts_L2]
    intro _
    refine ⟨fun hltk => ?_, fun hgek => ?_⟩
    · obtain ⟨j, hj, ej, hm, hij⟩ := hx o[k] (List.getElem_mem hltk)
      have c1 : ¬ o[k] ≤ (i : Int) := by omega
      have c2 : ¬ (g.length : Int) ≤ o[k] := by omega
      have key : runnellaw8_GraphOuts_J1 (.p (.slice (g.map encN))) (.p (.int .i64 i)) (.p (.slice (isT o))) (.p (.int .i64 k)) [] B2 (fun v H' => Gives 0 v H' (.p (.bool true)) []) := by
        unfold runnellaw8_GraphOuts_J1
        refine loop_by (σ := Nat) (n := 0) (fun q => [.p (.bool (decide ((i : Int) ∈ g[j].ins.take q))), .p (.int .i64 q)]) (fun _ => []) (fun q => q ≤ g[j].ins.length) (fun q => g[j].ins.length - q) [] 0 (fun _ => rfl) ⟨by simp, rfl⟩ (by simp) (fun q B3 hq hB3 => ?_)
        have e1 : (0 : Int) ≤ o[k] ∧ o[k] < g.length := by omega
        have e2 : o[k].toNat = j := by omega
        simp [runnellaw8_GraphOuts_L3, hltk, e1.1, e1.2, e2, hj]
        intro hml3
        refine ⟨fun hltq => ?_, fun hgeq => ⟨fun h => ?_, fun h => ?_⟩⟩
        · have e3 : (decide ((i : Int) ∈ g[j].ins.take q) || decide (g[j].ins[q] = (i : Int))) = decide ((i : Int) ∈ g[j].ins.take (q + 1)) := by
            rw [← take_snoc hltq, Bool.eq_iff_iff]
            simp only [Bool.or_eq_true, decide_eq_true_eq, List.mem_append, List.mem_singleton]
            exact ⟨fun h => h.imp id Eq.symm, fun h => h.imp id Eq.symm⟩
          refine ⟨fun _ => hltq, fun _ => by simp [hltq], fun _ => by simp [hltq], ?_⟩
          simp [hltq]
          rw [e3, IntWalk.i64_in _ (by simp [maxLen] at hml3; omega)]
          exact hB3 (q + 1) _ (by omega) (by omega) (by simp) (by simp) (by simp) (by simp [AV.under, AV.under1])
        · rw [List.take_of_length_le hgeq] at h
          exact absurd hm h
        · rw [IntWalk.i64_in _ (by omega)]
          exact hB2 (k + 1) _ (by omega) (by omega) (by simp) (by simp) (by simp) (by simp [AV.under, AV.under1])
      simp [hltk, c1, c2]
      refine ⟨by simp [maxLen]; omega, fun hk0 => ?_, fun hk0 => key⟩
      rw [IntWalk.i64_in _ (by omega)]
      have e3 : ((k : Int) - 1).toNat = k - 1 := by omega
      have hk1 : k - 1 < o.length := by omega
      have hup' := List.pairwise_iff_getElem.1 hup (k - 1) k hk1 hltk (by omega)
      have c3 : ¬ o[k] ≤ o[k - 1] := by omega
      refine ⟨⟨by omega, by omega⟩, ?_⟩
      simp [e3, hk1, c3]
      exact key
    · have e1 : IntKind.i64.wrap (IntKind.i64.wrap (n + o.length) - g[i].ins.length) = (outsSum g (i + 1) : Int) - insSum g (i + 1) := by
        rw [IntWalk.i64_in (n + o.length) (by omega), IntWalk.i64_in _ (by omega)]
        omega
      intro _
      simp [hlt]
      intro _
      rw [e1, IntWalk.i64_in _ (by omega)]
      exact hB (i + 1, _) _ ⟨by simp only; omega, rfl⟩ (by simp only; omega) (by simp) (by simp) (by simp) (by simp [AV.under, AV.under1])
  · have : i = g.length := by omega
    subst this
    refine gives_p ?_
    rw [h2, both_ways hG]
    simp

end Go.Proofs.YtmnmiiifilfcmaaGreat
