/- The package code over trees: programs in bytes and in words, and back, where nothing is wrong. -/
import Derived.Test.YtgfnodmghaghpaaDoorZSpCodeC
import Derived.Test.YtgfnodmghaghpaaDoorZSpWireL
import Derived.Test.YtgfnodmghaghpaaDoorZSpText
set_option linter.unusedSimpArgs false
set_option linter.unusedVariables false
namespace Go.Proofs.YtgfnodmghaghpaaDoor
open Go Go.Abs

attribute [local irreducible] Abs.Fn

/-- The reader's object. -/
abbrev rC (l : List Nat) (at' : Nat) (e bad : Int) : List Ob := [.box [.p (.slice (byT l)), .p (.int .i64 at'), .p (.int .i64 e), .p (.int .i64 bad)]]

theorem fieldC_byte (l : List Nat) (at' k : Nat) (bad : Int) (F : Nat) (caps : List T) (t : T) (h : Abs.Fn Tryd.prog F [] ((([.slice (byT (l.drop at'))] : List T) ++ caps).map .p) (.tup [.p t, .p (.int .i64 k), .p (.int .i64 0)]) []) (hat : at' ≤ l.length) (hl : l.length ≤ 1000000000) (hk : at' + k ≤ l.length) :
    Abs.Fn Tryd.prog wire_field_byte_i (rC l at' 0 bad) [.bptr 0 0, .p (.func F caps)] (.p t) (rC l (at' + k) 0 bad) := by
  apply wire_field_byte_fnH
  have w : IntKind.i64.wrap ((at' : Int) + k) = (at' : Int) + k := IntWalk.i64_in _ (by omega)
  simp [wire_field_byte, aSliceSl, atSize, boundK]
  refine ⟨hat, fun hh => by simp [byT, hh], ?_⟩
  rw [take_byT, drop_byT]
  refine aCallT_of rfl h (by simp [AV.pur, toTs]; rfl) ?_
  simp [w]
  exact gives_ids [0] (by simp [renF]) rfl (by simp) (by simp [framed, renF]) (by simp [AV.under, AV.under1]) (by simp [Ob.below, AV.under1])

theorem fieldC_uint64 (l : List Nat) (at' k : Nat) (bad : Int) (F : Nat) (caps : List T) (t : T) (h : Abs.Fn Tryd.prog F [] ((([.slice (byT (l.drop at'))] : List T) ++ caps).map .p) (.tup [.p t, .p (.int .i64 k), .p (.int .i64 0)]) []) (hat : at' ≤ l.length) (hl : l.length ≤ 1000000000) (hk : at' + k ≤ l.length) :
    Abs.Fn Tryd.prog wire_field_uint64_i (rC l at' 0 bad) [.bptr 0 0, .p (.func F caps)] (.p t) (rC l (at' + k) 0 bad) := by
  apply wire_field_uint64_fnH
  have w : IntKind.i64.wrap ((at' : Int) + k) = (at' : Int) + k := IntWalk.i64_in _ (by omega)
  simp [wire_field_uint64, aSliceSl, atSize, boundK]
  refine ⟨hat, fun hh => by simp [byT, hh], ?_⟩
  rw [take_byT, drop_byT]
  refine aCallT_of rfl h (by simp [AV.pur, toTs]; rfl) ?_
  simp [w]
  exact gives_ids [0] (by simp [renF]) rfl (by simp) (by simp [framed, renF]) (by simp [AV.under, AV.under1]) (by simp [Ob.below, AV.under1])

theorem fieldC_val (l : List Nat) (at' k : Nat) (bad : Int) (F : Nat) (caps : List T) (v : Va) (h : Abs.Fn Tryd.prog F [] ((([.slice (byT (l.drop at'))] : List T) ++ caps).map .p) (.tup [.p (encV v), .p (.int .i64 k), .p (.int .i64 0)]) []) (hat : at' ≤ l.length) (hl : l.length ≤ 1000000000) (hk : at' + k ≤ l.length) :
    Abs.Fn Tryd.prog wire_field_val_Value_i (rC l at' 0 bad) [.bptr 0 0, .p (.func F caps)] (.p (encV v)) (rC l (at' + k) 0 bad) := by
  apply wire_field_val_Value_fnH
  have w : IntKind.i64.wrap ((at' : Int) + k) = (at' : Int) + k := IntWalk.i64_in _ (by omega)
  simp only [encV_eta] at h ⊢
  simp [wire_field_val_Value, aSliceSl, atSize, boundK]
  refine ⟨hat, fun hh => by simp [byT, hh], ?_⟩
  rw [take_byT, drop_byT]
  refine aCallT_of rfl h (by simp [AV.pur, toTs]; rfl) ?_
  simp [w]
  refine gives_norm ?_
  exact gives_ids [0] (by simp [renF, AV.norm]) rfl (by simp) (by simp [framed, renF]) (by simp [AV.under, AV.under1]) (by simp [Ob.below, AV.under1])

theorem ByteC (l : List Nat) (at' : Nat) (bad : Int) (c : Nat) (r : List Nat) (h : l.drop at' = c :: r) (hl : l.length ≤ 1000000000) : Abs.Fn Tryd.prog wire_Reader_Byte_i (rC l at' 0 bad) [.bptr 0 0] (.p (.int .u8 c)) (rC l (at' + 1) 0 bad) := by
  have ho := wireOne_spec (l.drop at')
  rw [h] at ho
  simp only at ho
  rw [← h] at ho
  have hlen : at' + 1 ≤ l.length := by
    have := congrArg List.length h
    simp at this; omega
  have hb := fieldC_byte l at' 1 bad wire_one_i [] (.int .u8 c) ho (by omega) hl (by omega)
  apply wire_Reader_Byte_fnH
  simp [wire_Reader_Byte]
  refine aCallF_of [0] hb rfl (by simp [renF]) (by simp) (by simp [framed, renF]) (by simp [AV.under, AV.under1]) (by simp [Ob.below, AV.under1]) ?_
  simp [renF, frameH, setAll]
  exact gives_ids [0] (by simp [renF]) rfl (by simp) (by simp [framed, renF]) (by simp [AV.under, AV.under1]) (by simp [Ob.below, AV.under1])

theorem UintC (l : List Nat) (at' n k : Nat) (bad : Int) (h : numP 0 0 (l.drop at') = .ok (n, k)) (hc : ∀ c ∈ l, c < 256) (hat : at' ≤ l.length) (hl : l.length ≤ 1000000000) (hk : at' + k ≤ l.length) : Abs.Fn Tryd.prog wire_Reader_Uint_i (rC l at' 0 bad) [.bptr 0 0] (.p (.int .u64 n)) (rC l (at' + k) 0 bad) := by
  have ho := Num_spec (l.drop at') (fun c h => hc c (List.mem_of_mem_drop h))
  rw [h] at ho
  have hb := fieldC_uint64 l at' k bad wire_Num_i [] (.int .u64 n) ho hat hl hk
  apply wire_Reader_Uint_fnH
  simp [wire_Reader_Uint]
  refine aCallF_of [0] hb rfl (by simp [renF]) (by simp) (by simp [framed, renF]) (by simp [AV.under, AV.under1]) (by simp [Ob.below, AV.under1]) ?_
  simp [renF, frameH, setAll]
  exact gives_ids [0] (by simp [renF]) rfl (by simp) (by simp [framed, renF]) (by simp [AV.under, AV.under1]) (by simp [Ob.below, AV.under1])

theorem ValC (l : List Nat) (at' : Nat) (bad : Int) (v : Va) (rest : List Nat) (h : l.drop at' = putB v ++ rest) (hc : checkV v 0 = 0) (hi : V64 v) (hb : ∀ c ∈ l, c < 256) (hl : l.length ≤ 100000000) : Abs.Fn Tryd.prog wire_Reader_Val_i (rC l at' 0 bad) [.bptr 0 0] (.p (encV v)) (rC l (at' + (putB v).length) 0 bad) := by
  have hat : at' + (putB v).length ≤ l.length := by
    have h1 := drop_le h (by have := putB_pos v; simp; omega)
    simp at h1; omega
  have hg := Get_ok v rest hc hi (fun c hm => hb c (List.mem_of_mem_drop (by rw [h]; simp [hm]))) (by rw [← h]; simp; omega)
  rw [← h] at hg
  have hf := fieldC_val l at' (putB v).length bad wire_Get_i [] v hg (by omega) (by omega) hat
  simp only [encV_eta] at hf ⊢
  apply wire_Reader_Val_fnH
  simp [wire_Reader_Val]
  refine aCallF_of [0] hf rfl (by simp [renF]) (by simp) (by simp [framed, renF]) (by simp [AV.under, AV.under1]) (by simp [Ob.below, AV.under1]) ?_
  simp [renF, frameH, setAll]
  refine gives_norm ?_
  exact gives_ids [0] (by simp [renF, AV.norm]) rfl (by simp) (by simp [framed, renF]) (by simp [AV.under, AV.under1]) (by simp [Ob.below, AV.under1])

end Go.Proofs.YtgfnodmghaghpaaDoor
