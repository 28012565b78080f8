/- The package code over trees: a program read out of its bytes. -/
import Derived.Test.YtgfnodmghaghpaaDoorZSpCodeD
import Derived.Test.YtgfnodmghaghpaaDoorZPuCode
set_option linter.unusedSimpArgs false
set_option linter.unusedVariables false
namespace Go.Proofs.YtgfnodmghaghpaaDoor
open Go Go.Abs

attribute [local irreducible] Abs.Fn

theorem gives_refl {n : Nat} {v : AV} {H : List Ob} : Gives n v H v H := fun w G u hi hr => ⟨G, hi, hr, Move.refl n w G⟩

theorem cFieldInt (F : Nat) (ids : List (Nat × Nat)) (l : List Nat) (at' a2 : Nat) (bad n : Int) (tail : List Ob) (h : Abs.Fn Tryd.prog F (rC l at' 0 bad ++ tail) (ids.map fun c => .bptr c.1 c.2) (.p (.int .i64 n)) (rC l a2 0 bad ++ tail)) :
    Abs.Fn Tryd.prog code_field_int_i (rC l at' 0 bad ++ tail) [.bptr 0 0, .mclo F ids] (.p (.int .i64 n)) (rC l a2 0 bad ++ tail) := by
  apply code_field_int_fnH
  simp [code_field_int]
  simp at h
  refine aCallM_of (caps := ids.map fun c => .bptr c.1 c.2) rfl (by simpa using h) ?_
  simp
  exact gives_refl

theorem cNum1_ok (l : List Nat) (at' n most : Nat) (bad e : Int) (rest : List Nat) (h : l.drop at' = numB n ++ rest) (hn : n ≤ most) (hm : most ≤ 2147483647) (hb : ∀ c ∈ l, c < 256) (hl : l.length ≤ 100000000) :
    Abs.Fn Tryd.prog code_reader_num_1_i (rC l at' 0 bad ++ [.box [.bptr 0 0], .box [.p (.int .u64 most)], .box [.p (.int .i64 e)]]) [.bptr 1 0, .bptr 2 0, .bptr 3 0] (.p (.int .i64 n)) (rC l (at' + (numB n).length) 0 bad ++ [.box [.bptr 0 0], .box [.p (.int .u64 most)], .box [.p (.int .i64 e)]]) := by
  have hat : at' + (numB n).length ≤ l.length := by
    have h1 := drop_le h (by have := numB_pos n; simp; omega)
    simp at h1; omega
  have hp := numP_numB n 0 0 rest (by omega) (by omega)
  rw [← h] at hp
  simp at hp
  have hu := UintC l at' n (numB n).length bad hp hb (by omega) (by omega) hat
  apply code_reader_num_1_fnH
  simp [code_reader_num_1]
  refine aCallF_of [0] hu rfl (by simp [renF]) (by simp) (by simp [framed, renF]) (by simp [AV.under, AV.under1]) (by simp [Ob.below, AV.under1]) ?_
  simp [renF, frameH, setAll]
  refine ⟨fun hh => by omega, fun _ => ?_⟩
  rw [IntWalk.i64_in _ (by omega)]
  exact gives_ids [0, 1, 2, 3] (by simp [renF]) rfl (by simp) (by simp [framed, renF]) (by simp [AV.under, AV.under1]) (by simp [Ob.below, AV.under1])

theorem cNum_ok (l : List Nat) (at' n most : Nat) (bad e : Int) (rest : List Nat) (h : l.drop at' = numB n ++ rest) (hn : n ≤ most) (hm : most ≤ 2147483647) (hb : ∀ c ∈ l, c < 256) (hl : l.length ≤ 100000000) :
    Abs.Fn Tryd.prog code_reader_num_i (rC l at' 0 bad) [.bptr 0 0, .p (.int .u64 most), .p (.int .i64 e)] (.p (.int .i64 n)) (rC l (at' + (numB n).length) 0 bad) := by
  have hf := cFieldInt code_reader_num_1_i [(1, 0), (2, 0), (3, 0)] l at' (at' + (numB n).length) bad n [.box [.bptr 0 0], .box [.p (.int .u64 most)], .box [.p (.int .i64 e)]] (cNum1_ok l at' n most bad e rest h hn hm hb hl)
  apply code_reader_num_fnH
  simp [code_reader_num]
  refine aCallM_of (caps := []) rfl (by simpa using hf) ?_
  simp
  exact gives_ids [0] (by simp [renF]) rfl (by simp) (by simp [framed, renF]) (by simp [AV.under, AV.under1]) (by simp [Ob.below, AV.under1])

theorem cInst1_ok (l : List Nat) (at' k : Nat) (bad : Int) (r : List Nat) (h : l.drop at' = (k + 1) :: r) (hk : k < 19) (hb : ∀ c ∈ l, c < 256) (hl : l.length ≤ 100000000) :
    Abs.Fn Tryd.prog code_reader_inst_1_i (rC l at' 0 bad ++ [.box [.bptr 0 0], .box [.p (.slice (formsL.map encF))]]) [.bptr 1 0, .bptr 2 0] (.p (.int .i64 k)) (rC l (at' + 1) 0 bad ++ [.box [.bptr 0 0], .box [.p (.slice (formsL.map encF))]]) := by
  have hu := ByteC l at' bad (k + 1) r h (by omega)
  have hlen : formsL.length = 19 := rfl
  apply code_reader_inst_1_fnH
  simp [code_reader_inst_1]
  refine aCallF_of [0] hu rfl (by simp [renF]) (by simp) (by simp [framed, renF]) (by simp [AV.under, AV.under1]) (by simp [Ob.below, AV.under1]) ?_
  have w1 : IntKind.i64.wrap ((k : Int) + 1) = (k : Int) + 1 := IntWalk.i64_in _ (by omega)
  have w2 : IntKind.i64.wrap (k : Int) = (k : Int) := IntWalk.i64_in _ (by omega)
  simp [renF, frameH, setAll, w1, w2, hlen]
  refine ⟨fun hh => by omega, fun _ => ?_⟩
  exact gives_ids [0, 1, 2] (by simp [renF]) rfl (by simp) (by simp [framed, renF]) (by simp [AV.under, AV.under1]) (by simp [Ob.below, AV.under1])

theorem cFieldVal (l : List Nat) (at' : Nat) (bad : Int) (v : Va) (rest : List Nat) (h : l.drop at' = putB v ++ rest) (hc : checkV v 0 = 0) (hi : V64 v) (hb : ∀ c ∈ l, c < 256) (hl : l.length ≤ 100000000) :
    Abs.Fn Tryd.prog code_field_val_Value_i (rC l at' 0 bad) [.bptr 0 0, .bnd wire_Reader_Val_i 0 0] (.p (encV v)) (rC l (at' + (putB v).length) 0 bad) := by
  have hv := ValC l at' bad v rest h hc hi hb hl
  simp only [encV_eta] at hv ⊢
  apply code_field_val_Value_fnH
  simp [code_field_val_Value]
  refine aCallF_of [0] hv rfl (by simp [renF]) (by simp) (by simp [framed, renF]) (by simp [AV.under, AV.under1]) (by simp [Ob.below, AV.under1]) ?_
  simp [renF, frameH, setAll]
  refine gives_norm ?_
  exact gives_ids [0] (by simp [renF, AV.norm]) rfl (by simp) (by simp [framed, renF]) (by simp [AV.under, AV.under1]) (by simp [Ob.below, AV.under1])

end Go.Proofs.YtgfnodmghaghpaaDoor
