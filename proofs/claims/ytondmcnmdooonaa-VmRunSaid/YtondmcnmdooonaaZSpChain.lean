/- Chains of programs. -/
import Derived.Test.YtondmcnmdooonaaZSpRun
import Derived.Test.YtondmcnmdooonaaA3
import Derived.Test.YtondmcnmdooonaaS1
set_option linter.unusedSimpArgs false
set_option linter.unusedVariables false
namespace Go.Proofs.Ytondmcnmdooonaa
open Go Go.Abs

attribute [local irreducible] Abs.Fn

/-- What each row lets out, one behind the other. -/
def ChainL (R : Va → List Va → List (Nat × Va) → Prop) : List Va → List Va → List (Nat × Va) → Prop
  | [], o, m => o = [] ∧ m = []
  | y :: l, o, m => ∃ o1 m1 o2 m2, R y o1 m1 ∧ ChainL R l o2 m2 ∧ o = o1 ++ o2 ∧ m = m1 ++ m2

/-- What a chain lets out of a row from a stage on; what misses. -/
def ChainR (ps : List (List In)) : Nat → Nat → Va → List Va → List (Nat × Va) → Prop
  | 0, k, x, o, m => k = ps.length ∧ o = [x] ∧ m = []
  | n + 1, k, x, o, m => ∃ p r, ps[k]? = some p ∧ p.length ≤ 1000000 ∧ RunI p x 0 [] [] r ∧ match r with
    | .er _ => o = [] ∧ m = [(k, x)]
    | .ok l => ChainL (ChainR ps n (k + 1)) l o m

def encM (q : Nat × Va) : T := .agg (.int .i64 q.1 :: (encV q.2).cells)

theorem runI_er {p : List In} {x : Va} {at' : Nat} {s out : List Va} {r : R (List Va)} (h : RunI p x at' s out r) : ∀ f, r = .er f → f ≠ 0 := by
  induction h with
  | fin => intro f e; cases e
  | ret => intro f e; cases e
  | jmp _ _ _ _ _ _ _ ih => exact ih
  | jft _ _ _ _ _ ih => exact ih
  | jff _ _ _ _ _ _ _ _ ih => exact ih
  | go _ _ _ _ _ _ _ ih => exact ih
  | er _ _ _ _ _ hd => intro f e; cases e; exact doesI_er hd

/-- The objects of a chain: its programs, what is out, what misses, itself, their rows. -/
def CH (ps : List (List In)) (out : List Va) (miss : List (Nat × Va)) : List Ob :=
  [.box [.p (.slice (ps.map fun p => .slice (p.map encI)))], .box [.msl 4 out.length 5 0 out.length], .box [.msl 5 miss.length 6 0 miss.length], .box [.mclo vm_Chain_1_i [(0, 0), (1, 0), (2, 0), (3, 0)]], .mrow out.length 5 (out.map encV), .mrow miss.length 6 (miss.map encM)]

theorem takeV (l : List Va) : List.take l.length (List.map encV l) = List.map encV l := List.take_of_length_le (by simp)
theorem takeM (l : List (Nat × Va)) : List.take l.length (List.map encM l) = List.map encM l := List.take_of_length_le (by simp)
theorem encM6 (l : List (Nat × Va)) : ∀ e ∈ l.map encM, e.cells.length = 6 := fun e he => by
  obtain ⟨y, _, rfl⟩ := List.mem_map.1 he
  simp [encM]

/-- The objects of a stage: the chain's, and its row. -/
def CK (ps : List (List In)) (x : Va) (out : List Va) (miss : List (Nat × Va)) : List Ob :=
  CH ps out miss ++ [.box [.p (.int .i64 x.k), .p (.int .i64 x.i), .p (.bool x.b), .p (.str x.s), .p (.slice (x.t.map encV))]]

theorem chain1_loop (ps : List (List In)) (hps : ps.length ≤ 1000) (k : Nat) (hk : k < ps.length) (x : Va) (R : Va → List Va → List (Nat × Va) → Prop) (out O : List Va) (miss M : List (Nat × Va)) (l : List Va) (hl : l.length ≤ 1000000) (o : List Va) (m : List (Nat × Va)) (h : ChainL R l o m) (hO : out ++ o = O) (hM : miss ++ m = M)
    (hR : ∀ y o m out miss, R y o m → (out ++ o).length ≤ O.length → (miss ++ m).length ≤ M.length → Abs.Fn Try.prog vm_Chain_1_i (CH ps out miss) [.p (.int .i64 (k + 1 : Nat)), .p (encV y), .bptr 0 0, .bptr 1 0, .bptr 2 0, .bptr 3 0] (.tup []) (CH ps (out ++ o) (miss ++ m))) :
    vm_Chain_1_J1 (.p (.int .i64 k)) (.bptr 3 0) (.p (.slice (l.map encV))) (CK ps x out miss) (fun v H' => Gives 6 v H' (.tup []) (CH ps O M)) := by
  have lm : l.length ≤ maxLen := Nat.le_trans hl (by simp only [maxLen]; omega)
  simp [vm_Chain_1_J1, lm]
  refine loop_le (n := 7) (fun q : Nat × List Va × List (Nat × Va) => [.p (.int .i64 q.1)]) (fun q => CK ps x q.2.1 q.2.2) (fun q => q.1 ≤ l.length ∧ ∃ o2 m2, ChainL R (l.drop q.1) o2 m2 ∧ q.2.1 ++ o2 = O ∧ q.2.2 ++ m2 = M) (fun q => l.length - q.1) [] (0, out, miss) (fun q => rfl) ?_ ⟨by simp, o, m, by simpa using h, hO, hM⟩ ?_
  · simp [ghosts, CK, CH]
  · rintro ⟨i, out, miss⟩ B ⟨hi, o2, m2, hc, hO, hM⟩ hB
    simp only at hi hc hO hM
    simp [vm_Chain_1_L1]
    constructor
    · intro hlt
      have hlt : i < l.length := by omega
      rw [List.drop_eq_getElem_cons hlt] at hc
      obtain ⟨o1, m1, o3, m3, h1, h2, rfl, rfl⟩ := hc
      have hf := hR l[i] o1 m1 out miss h1 (by rw [← hO]; simp) (by rw [← hM]; simp)
      have w1 : IntKind.i64.wrap ((k : Int) + 1) = (k : Int) + 1 := IntWalk.i64_in _ (by omega)
      have w2 : IntKind.i64.wrap ((i : Int) + 1) = (i : Int) + 1 := IntWalk.i64_in _ (by omega)
      simp [CH] at hf
      simp [CK, CH, hlt, List.getElem?_eq_getElem hlt, w1]
      refine aCallG_of [0, 1, 2, 3, 4, 5] hf rfl (by simp [renF, AV.norm]) (by simp) (by simp [framed, renF]) (by simp [AV.under, AV.under1]) (by simp [Ob.below, AV.under1]) ?_
      simp [renF, frameH, setAll, w2]
      refine hB (i + 1, out ++ o1, miss ++ m1) _ _ ⟨hlt, o3, m3, h2, by simpa using hO, by simpa using hM⟩ (by simp only; omega) ?_ ?_ ?_ ?_ ?_
      all_goals simp [CK, CH, AV.under, AV.under1, Ob.below]
    · intro hge
      have hge : l.length ≤ i := by omega
      rw [List.drop_of_length_le hge] at hc
      obtain ⟨rfl, rfl⟩ := hc
      simp only [List.append_nil] at hO hM
      subst hO hM
      simp only [CK, CH, List.cons_append, List.nil_append]
      exact gives_ids [0, 1, 2, 3, 4, 5] (by simp [renF]) rfl (by simp) (by simp [framed, renF]) (by simp [AV.under]) (by simp [Ob.below, AV.under1])

/-- A bound on what each stage lets out. -/
def okLen (ps : List (List In)) : Prop := ∀ p ∈ ps, ∀ x l, RunI p x 0 [] [] (.ok l) → l.length ≤ 1000000

theorem chain1_spec (ps : List (List In)) (hps : ps.length ≤ 1000) (hok : okLen ps) : ∀ (n k : Nat) (x : Va) (o : List Va) (m : List (Nat × Va)) (out : List Va) (miss : List (Nat × Va)), ChainR ps n k x o m → k + n = ps.length → (out ++ o).length ≤ 100000 → (miss ++ m).length ≤ 100000 →
    Abs.Fn Try.prog vm_Chain_1_i (CH ps out miss) [.p (.int .i64 k), .p (encV x), .bptr 0 0, .bptr 1 0, .bptr 2 0, .bptr 3 0] (.tup []) (CH ps (out ++ o) (miss ++ m))
  | 0, k, x, o, m, out, miss, h, hk, ho, hm => by
    obtain ⟨h1, rfl, rfl⟩ := h
    have lm : ps.length ≤ maxLen := Nat.le_trans hps (by simp only [maxLen]; omega)
    subst h1
    apply vm_Chain_1_fnH
    simp [vm_Chain_1, CH, lm]
    have hb : out.length + 1 ≤ 100000 := by simpa using ho
    rw [takeV]
    refine ⟨by simp only [maxLen]; omega, ⟨encV5 _, by simp, by simp; omega⟩, by omega, ?_⟩
    exact gives_ids [0, 1, 2, 3, 4, 5] (by simp [renF]) rfl (by simp) (by simp [framed, renF]) (by simp [AV.under]) (by simp [Ob.below, AV.under1])
  | n + 1, k, x, o, m, out, miss, h, hk, ho, hm => by
    obtain ⟨p, r, hp, hpl, hr, hrest⟩ := h
    obtain ⟨hlt, rfl⟩ := List.getElem?_eq_some_iff.1 hp
    have lm : ps.length ≤ maxLen := Nat.le_trans hps (by simp only [maxLen]; omega)
    have hrun := vmRun_spec ps[k] x r hr hpl
    have hne : ¬ (k : Int) = ps.length := by omega
    have hne' : ¬ k = ps.length := by omega
    apply vm_Chain_1_fnH
    cases r with
    | er f =>
      obtain ⟨rfl, rfl⟩ := hrest
      have hf := runI_er hr f rfl
      have hlp := chain1_loop ps hps k hlt x (fun _ _ _ => False) out out (miss ++ [(k, x)]) (miss ++ [(k, x)]) [] (by simp) [] [] ⟨rfl, rfl⟩ (by simp) (by simp) (fun _ _ _ _ _ h => h.elim)
      simp [CK, CH] at hlp
      simp [vm_Chain_1, CH, lm, hlt, List.getElem?_eq_getElem hlt, hne, hne']
      simp [runR] at hrun
      refine aCallT_of rfl hrun rfl ?_
      have hb : miss.length + 1 ≤ 100000 := by simpa using hm
      simp [encM] at hlp
      simp [hf, CH, takeM, appendable, encM]
      exact ⟨⟨fun e a b _ he => by subst he; rfl, by omega⟩, hlp⟩
    | ok l =>
      have hl := hok ps[k] (List.getElem_mem _) x l hr
      have hlp := chain1_loop ps hps k hlt x _ out (out ++ o) miss (miss ++ m) l hl o m hrest rfl rfl (fun y o1 m1 out1 miss1 h1 h2 h3 => chain1_spec ps hps hok n (k + 1) y o1 m1 out1 miss1 h1 (by omega) (by omega) (by omega))
      simp [CK, CH] at hlp
      simp [vm_Chain_1, CH, lm, hlt, List.getElem?_eq_getElem hlt, hne, hne']
      simp [runR] at hrun
      refine aCallT_of rfl hrun rfl ?_
      simp [CH]
      exact hlp

/-- A chain of programs. -/
theorem Chain_spec (ps : List (List In)) (hps : ps.length ≤ 1000) (hok : okLen ps) (x : Va) (o : List Va) (m : List (Nat × Va)) (h : ChainR ps ps.length 0 x o m) (ho : o.length ≤ 100000) (hm : m.length ≤ 100000) :
    Abs.Fn Try.prog vm_Chain_i [] [.p (.slice (ps.map fun p => .slice (p.map encI))), .p (encV x)] (.tup [.p (.slice (o.map encV)), .p (.slice (m.map encM))]) [] := by
  have h1 := chain1_spec ps hps hok ps.length 0 x o m [] [] h (by omega) (by simpa using ho) (by simpa using hm)
  simp [CH] at h1
  refine fn_mode ?_
  apply vm_Chain_fnH
  simp [vm_Chain]
  unfold aCallW
  refine aCall_ghosts (gs := [.mcell 3 0 5, .mcell 4 0 6]) ?_
  simp [ghosts, ghost]
  refine aCallG_of [1, 3, 4, 5, 6, 7] h1 rfl (by simp [renF, AV.norm]) (by simp) (by simp [framed, renF]) (by simp [AV.under, AV.under1]) (by simp [Ob.below, AV.under1]) ?_
  simp [renF, frameH, setAll]
  refine gives_moded (gives_freeze (id := 6) rfl ?_) rfl
  refine gives_freeze (id := 7) rfl ?_
  simp [AV.unm, AV.unm1, takeV, takeM]
  exact gives_pure (by simp [AV.pur, toTs])

end Go.Proofs.Ytondmcnmdooonaa
