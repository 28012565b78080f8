/- The law GraphGrows. -/
import Derived.Test.YtmnmiiifilfcmaaGreatZSpGraphD
import Derived.Test.YtmnmiiifilfcmaaGreatZSpExprB
import Derived.Test.YtmnmiiifilfcmaaGreatS2
set_option linter.unusedSimpArgs false
set_option linter.unusedVariables false
namespace Go.Proofs.YtmnmiiifilfcmaaGreat
open Go Go.Abs

attribute [local irreducible] Abs.Fn

theorem we_zero8 : We 1000000000 zeroE := .mk _ _ _ _ (.mk _ _ _ _ _ (by simp) (by simp) (by simp)) (by simp) (by simp)
abbrev mapG : Nd := ⟨[], ⟨2, [], .mk 0 [], [e2 oAdd eX (eL (intV 1))], zeroE, 0, 0⟩, [0], 2, 4, grpG, false⟩
def smallG : List Nd := [srcG 2 4, mapG, sinkG 1 2 4]

theorem okN_src (p m : Int) : OkN (srcG p m) := ⟨by simp, ⟨we_zero8, by simp [sizeE, sizeEs]⟩, by simp, by simp⟩
theorem okN_sink (i p m : Int) : OkN (sinkG i p m) := ⟨by simp, ⟨we_zero8, by simp [sizeE, sizeEs]⟩, by simp, by simp⟩
theorem okN_map : OkN mapG := ⟨fun e he => by
  simp only [List.mem_cons, List.not_mem_nil, or_false] at he
  subst he
  exact ⟨we_2 we_x (we_l (wv_int _)), by simp [sizeE, sizeEs]⟩, ⟨we_zero8, by simp [sizeE, sizeEs]⟩, by simp, by simp⟩
theorem okN_flat (i : Int) (n : Nat) (h : n ≤ 4) : OkN (flatG i n) := ⟨fun e he => by
  have := List.eq_of_mem_replicate he
  subst this
  exact ⟨we_x, by simp [sizeE, sizeEs]⟩, ⟨we_zero8, by simp [sizeE, sizeEs]⟩, by simp; omega, by simp⟩
theorem okN_small : ∀ n ∈ smallG, OkN n := by
  intro n hn
  simp only [smallG, List.mem_cons, List.not_mem_nil, or_false] at hn
  rcases hn with rfl | rfl | rfl
  · exact okN_src _ _
  · exact okN_map
  · exact okN_sink _ _ _

theorem Small_spec : Abs.Fn Tryz.prog runnellaw8_Small_i [] [] (.p (.slice (smallG.map encN))) [] := by
  apply runnellaw8_Small_fn
  simp [runnellaw8_Small]
  (first | refine aCall_fold rfl ?_ | refine aCallT_fold rfl ?_)
  (first | refine aCallU_p (X_spec) ?_ | refine aCallTU_p (X_spec) ?_ | refine aCallU_of (X_spec) ?_ | refine aCallTU_of (X_spec) rfl ?_ | refine aCallTU_of (X_spec) (by simp [AV.pur]; rfl) ?_)
  try simp
  (first | refine aCall_fold rfl ?_ | refine aCallT_fold rfl ?_)
  (first | refine aCallU_p (Int_spec 1) ?_ | refine aCallTU_p (Int_spec 1) ?_ | refine aCallU_of (Int_spec 1) ?_ | refine aCallTU_of (Int_spec 1) rfl ?_ | refine aCallTU_of (Int_spec 1) (by simp [AV.pur]; rfl) ?_)
  try simp
  (first | refine aCall_fold rfl ?_ | refine aCallT_fold rfl ?_)
  (first | refine aCallU_p (Lit_spec _) ?_ | refine aCallTU_p (Lit_spec _) ?_ | refine aCallU_of (Lit_spec _) ?_ | refine aCallTU_of (Lit_spec _) rfl ?_ | refine aCallTU_of (Lit_spec _) (by simp [AV.pur]; rfl) ?_)
  try simp
  (first | refine aCall_fold rfl ?_ | refine aCallT_fold rfl ?_)
  (first | refine aCallU_p (Op4_spec _ _) ?_ | refine aCallTU_p (Op4_spec _ _) ?_ | refine aCallU_of (Op4_spec _ _) ?_ | refine aCallTU_of (Op4_spec _ _) rfl ?_ | refine aCallTU_of (Op4_spec _ _) (by simp [AV.pur]; rfl) ?_)
  try simp
  exact gives_pure (by simp [AV.pur, smallG, oAdd, intV])

theorem small_check : checkG smallG = (0, 0) := by rfl
theorem small_two : checkG [srcG 2 4, mapG] = (1, 1) := by rfl
theorem small_types : typesG smallG = [.mk 1 [], .mk 1 [], .mk 1 []] := by rfl

theorem known8_spec : Abs.Fn Tryz.prog runnellaw8_known_i [] [] (.p (.bool true)) [] := by
  have c1 := GCheck_spec smallG okN_small
  have c2 := GCheck_spec [srcG 2 4, mapG] (fun n hn => okN_small n (by simp only [smallG, List.mem_cons] at hn ⊢; rcases hn with h | h | h <;> simp_all))
  have c3 := Types_spec smallG okN_small (by simp [smallG])
  have c4 := Outs_spec smallG 0 (by simp [smallG])
  have c5 := Named_spec smallG 9 (by simp [smallG])
  have e4 : outsFrom 0 0 smallG = [1] := by rfl
  have e5 : kindFrom 9 0 smallG = [2] := by rfl
  rw [small_check] at c1
  rw [small_two] at c2
  rw [small_types] at c3
  rw [e4] at c4
  rw [e5] at c5
  have hs : (smallG.map encN).take 2 = [srcG 2 4, mapG].map encN := rfl
  have hl : (smallG.map encN).length = 3 := rfl
  have hsm := Small_spec
  rw [← hs] at c2
  generalize smallG.map encN = S at *
  apply runnellaw8_known_fn
  simp [runnellaw8_known]
  refine aCallW_of rfl rfl hsm ?_
  simp
  refine aCallW_of rfl rfl c1 ?_
  simp [aSliceSl, atSize, hl]
  refine aCallW_of rfl rfl c2 ?_
  simp
  refine aCallW_of rfl rfl c3 ?_
  simp
  refine aCallW_of rfl rfl c4 ?_
  simp
  refine aCallW_of rfl rfl c5 ?_
  simp
  exact gives_p rfl

theorem flatsG_snoc (m : Nat) : ∀ (ns : List Nat) (i : Nat), flatsG i (ns ++ [m]) = flatsG i ns ++ [flatG (i + ns.length : Nat) m]
  | [], i => by simp [flatsG]
  | n :: r, i => by
    simp only [List.cons_append, flatsG]
    rw [flatsG_snoc m r (i + 1), show i + 1 + r.length = i + (n :: r).length by simp; omega]

theorem growsG_ok (ns : List Nat) (h : ∀ n ∈ ns, 1 ≤ n ∧ n ≤ 4) : ∀ x ∈ growsG ns, OkN x := by
  intro x hx
  simp only [growsG, List.cons_append, List.mem_cons, List.mem_append, List.not_mem_nil, or_false] at hx
  rcases hx with rfl | hx | rfl
  · exact okN_src _ _
  · obtain ⟨j, n, rfl, hn⟩ := flatsG_mem _ _ _ hx
    exact okN_flat _ _ (h n hn).2
  · exact okN_sink _ _ _

/-- What is known on the way. -/
def Way (ns : List Nat) (i : Nat) (w bad : Int) : Prop := (bad = -1 ∧ ∃ k : Nat, w = k ∧ k ≤ 64 ∧ badG 0 1 ns = badG i k (ns.drop i)) ∨ (∃ b : Nat, bad = b ∧ badG 0 1 ns = some b)

end Go.Proofs.YtmnmiiifilfcmaaGreat
