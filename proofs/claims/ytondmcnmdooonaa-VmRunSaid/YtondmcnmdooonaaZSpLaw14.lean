/- The machine's laws: what is known. -/
import Derived.Test.YtondmcnmdooonaaZSpChain
import Derived.Test.YtondmcnmdooonaaS1
set_option linter.unusedSimpArgs false
set_option linter.unusedVariables false
namespace Go.Proofs.Ytondmcnmdooonaa
open Go Go.Abs

attribute [local irreducible] Abs.Fn

theorem doesI_len {i : In} {x : Va} {s s' o : List Va} (h : doesI i x s = some (.ok (s', o))) : o.length ≤ s.length := by
  unfold doesI at h
  repeat' split at h
  all_goals simp at h
  all_goals try (obtain ⟨_, rfl⟩ := h; simp)

theorem runI_len {p : List In} {x : Va} {at' : Nat} {s out : List Va} {r : R (List Va)} (h : RunI p x at' s out r) : out.length ≤ 200000 → ∀ l, r = .ok l → l.length ≤ 200000 := by
  induction h with
  | fin => intro h l e; cases e; exact h
  | ret => intro h l e; cases e; exact h
  | jmp _ _ _ _ _ _ _ ih => exact ih
  | jft _ _ _ _ _ ih => exact ih
  | jff _ _ _ _ _ _ _ _ ih => exact ih
  | go _ _ hs ho _ hd _ ih =>
    intro h l e
    have := doesI_len hd
    exact ih (by simp; omega) l e
  | er => intro h l e; cases e

theorem okLen_all (ps : List (List In)) : okLen ps := fun p _ x l h => Nat.le_trans (runI_len h (by simp) l rfl) (by omega)

instance : DecidablePred plainI := fun i => by unfold plainI; infer_instance
def p14 : List In := [.mk [120] zeroV 0, .mk [120] zeroV 0, .mk [101, 109, 105, 116] zeroV 2, .mk [114, 101, 116] zeroV 0]
def q14 : List In := [.mk [112, 117, 115, 104] (intV 6) 0, .mk [120] zeroV 0, .mk [100, 105, 118] zeroV 0, .mk [101, 109, 105, 116] zeroV 1, .mk [114, 101, 116] zeroV 0]

theorem wvI (n : Int) : Wv 1000000000 (intV n) := wv_int n

theorem p14_run (n : Int) : RunI p14 (intV n) 0 [] [] (.ok [intV n, intV n]) := by
  refine .go (i := .mk [120] zeroV 0) rfl (by decide) (by simp) (by simp) (by simp) (by rfl) ?_
  refine .go (i := .mk [120] zeroV 0) rfl (by decide) (by simp) (by simp) (by simp [wvI]) (by rfl) ?_
  refine .go (i := .mk [101, 109, 105, 116] zeroV 2) rfl (by decide) (by simp) (by simp) (by simp [wvI]) (by rfl) ?_
  exact .ret rfl rfl (by simp)

theorem q14_run (n v : Int) (hn : n ≠ 0) (hv : w64 (Int.tdiv 6 n) = v) : RunI q14 (intV n) 0 [] [] (.ok [intV v]) := by
  refine .go (i := .mk [112, 117, 115, 104] (intV 6) 0) rfl (by decide) (by simp) (by simp) (by simp) (by rfl) ?_
  refine .go (i := .mk [120] zeroV 0) rfl (by decide) (by simp) (by simp) (by simp [wvI]) (by rfl) ?_
  refine .go (s' := [intV v]) (o := []) (i := .mk [100, 105, 118] zeroV 0) rfl (by decide) (by simp) (by simp) (by simp [wvI]) (by simp [doesI, In.op, In.n, arV, mkE, intV, hn, hv, oPush, oX, oEmit', oTup, oAt, oNeg, oNot, oLen, oAdd, oSub, oMul, oDiv]) ?_
  refine .go (i := .mk [101, 109, 105, 116] zeroV 1) rfl (by decide) (by simp) (by simp) (by simp [wvI]) (by rfl) ?_
  exact .ret rfl rfl (by simp)

theorem q14_er : RunI q14 (intV 0) 0 [] [] (.er 8) := by
  refine .go (i := .mk [112, 117, 115, 104] (intV 6) 0) rfl (by decide) (by simp) (by simp) (by simp) (by rfl) ?_
  refine .go (i := .mk [120] zeroV 0) rfl (by decide) (by simp) (by simp) (by simp [wvI]) (by rfl) ?_
  exact .er (i := .mk [100, 105, 118] zeroV 0) rfl (by decide) (by simp) (by simp) (by simp [wvI]) (by rfl)

theorem chainA : ChainR [p14, q14] 2 0 (intV 3) [intV 2, intV 2] [] := by
  refine ⟨p14, _, rfl, by decide, p14_run 3, ?_⟩
  have hq : ChainR [p14, q14] 1 1 (intV 3) [intV 2] [] := ⟨q14, _, rfl, by decide, q14_run 3 2 (by decide) (by decide), [intV 2], [], [], [], ⟨rfl, rfl, rfl⟩, ⟨rfl, rfl⟩, rfl, rfl⟩
  exact ⟨[intV 2], [], [intV 2], [], hq, ⟨[intV 2], [], [], [], hq, ⟨rfl, rfl⟩, rfl, rfl⟩, rfl, rfl⟩

theorem chainB : ChainR [q14] 1 0 (intV 0) [] [(0, intV 0)] := ⟨q14, _, rfl, by decide, q14_er, rfl, rfl⟩

theorem known14 : Abs.Fn Try.prog runnellaw14_known_i [] [] (.p (.bool true)) [] := by
  have r1 := vmRun_spec p14 (intV 3) _ (p14_run 3) (by decide)
  have r2 := vmRun_spec q14 (intV 0) _ q14_er (by decide)
  have c1 := Chain_spec [p14, q14] (by decide) (okLen_all _) (intV 3) _ _ chainA (by decide) (by decide)
  have c2 := Chain_spec [q14] (by decide) (okLen_all _) (intV 0) _ _ chainB (by decide) (by decide)
  apply runnellaw14_known_fn
  simp [runnellaw14_known]
  refine aCallW_of rfl rfl (Int_spec 6) ?_
  simp [intV]
  refine aCallW_of rfl rfl (Int_spec 3) ?_
  simp [intV]
  refine aCallW_of rfl rfl r1 ?_
  simp [intV, runR]
  refine aCallW_of rfl rfl (Int_spec 3) ?_
  simp [intV]
  refine aCallW_of rfl rfl c1 ?_
  simp [intV]
  refine aCallW_of rfl rfl (Int_spec 0) ?_
  simp [intV]
  refine aCallW_of rfl rfl c2 ?_
  simp [intV, encM]
  refine aCallW_of rfl rfl (Int_spec 0) ?_
  simp [intV]
  refine aCallW_of rfl rfl r2 ?_
  simp [intV, runR]

  exact gives_p rfl

end Go.Proofs.Ytondmcnmdooonaa
