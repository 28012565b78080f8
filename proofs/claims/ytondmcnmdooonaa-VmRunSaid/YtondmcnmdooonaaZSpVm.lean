/- The package vm over trees: stacks. -/
import Derived.Test.YtondmcnmdooonaaZPuVm
import Derived.Test.YtondmcnmdooonaaZSpExpr
import Derived.Test.YtondmcnmdooonaaZSpEval
import Derived.Test.YtondmcnmdooonaaZSpNorm
import Derived.Test.YtondmcnmdooonaaS1
set_option linter.unusedSimpArgs false
set_option linter.unusedVariables false
namespace Go.Proofs.Ytondmcnmdooonaa
open Go Go.Abs

attribute [local irreducible] Abs.Fn

/-- The machine's objects: itself, its stack's row, the row of what is let out. -/
def mBox (x : Va) (S O : AV) : List AV := [.p (.int .i64 x.k), .p (.int .i64 x.i), .p (.bool x.b), .p (.str x.s), .p (.slice (x.t.map encV)), S, O]
def MH (x : Va) (v : Nat) (es : List T) (n : Nat) (outs : List Va) : List Ob := [.box (mBox x (.msl 1 v 5 0 n) (.own 2 (outs.map encV))), .mrow v 5 es, .row outs.length 5]

theorem cloneS_spec (v : Nat) (es : List T) (o k : Nat) (h5 : ∀ e ∈ es, e.cells.length = 5) (hk : o + k ≤ es.length) (hl : es.length ≤ 10000000) :
    Abs.Fn Try.prog slices_Clone_vm_stack_val_Value_val_Value_i [.mrow v 5 es] [.msl 0 v 5 o k] (.own 1 ((es.drop o).take k)) [.mrow v 5 es, .row k 5] := by
  have h5' : ∀ e ∈ (es.drop o).take k, e.cells.length = 5 := fun e he => h5 e (List.mem_of_mem_drop (List.mem_of_mem_take he))
  have hlen : ((es.drop o).take k).length = k := by simp; omega
  rcases Nat.eq_zero_or_pos k with rfl | hpos
  · refine fn_arg_cases msl_zero ?_ ?_
    · apply slices_Clone_vm_stack_val_Value_val_Value_fnH
      simp [slices_Clone_vm_stack_val_Value_val_Value]
      exact gives_addrow (H := [.mrow v 5 es]) (by simp)
    · apply slices_Clone_vm_stack_val_Value_val_Value_fnH
      simp [slices_Clone_vm_stack_val_Value_val_Value]
      exact ⟨⟨by simp, by simp, by simp⟩, gives_ids [0, 1] (by simp [renF]) rfl (by simp) (by simp [framed]) (by simp [AV.under, AV.under1]) (by simp [Ob.below])⟩
  · apply slices_Clone_vm_stack_val_Value_val_Value_fnH
    simp [slices_Clone_vm_stack_val_Value_val_Value, hk, hpos]
    have hmin : min k (es.length - o) = k := by omega
    rw [hmin]
    exact ⟨⟨by simp, h5', by simp; omega⟩, gives_ids [0, 1] (by simp [renF]) rfl (by simp) (by simp [framed]) (by simp [AV.under, AV.under1]) (by simp [Ob.below])⟩

theorem vmPush_spec (x y : Va) (v : Nat) (es : List T) (n : Nat) (outs : List Va) (hn : n ≤ es.length) (hb : n ≤ 1000000) (h5 : ∀ e ∈ es, e.cells.length = 5) :
    Abs.Fn Try.prog vm_stack_val_Value_push_i (MH x v es n outs) [.bptr 0 5, .p (encV y)] (.tup []) (MH x (v + 1) (es.take n ++ [encV y]) (n + 1) outs) := by
  apply vm_stack_val_Value_push_fnH
  simp [vm_stack_val_Value_push, MH, mBox, hn]
  refine ⟨by simp only [maxLen]; omega, ⟨fun e he => h5 e (List.mem_of_mem_take he), by simp, by simp; omega⟩, by omega, ?_⟩
  exact gives_ids [0, 1, 2] (by simp [renF]) rfl (by simp) (by simp [framed, renF]) (by simp [AV.under]) (by simp [Ob.below, AV.under1])

theorem vmPop_spec (x : Va) (v : Nat) (es : List T) (n : Nat) (outs : List Va) (k : Nat) (hk : k ≤ n) (hn : n ≤ es.length) (hb : es.length ≤ 1000000) (h5 : ∀ e ∈ es, e.cells.length = 5) :
    Abs.Fn Try.prog vm_stack_val_Value_pop_i (MH x v es n outs) [.bptr 0 5, .p (.int .i64 k)] (.own 3 ((es.drop (n - k)).take k)) (MH x v es (n - k) outs ++ [.row k 5]) := by
  have hc := cloneS_spec v es (n - k) k h5 (by omega) (by omega)
  apply vm_stack_val_Value_pop_fnH
  have w1 : IntKind.i64.wrap ((n : Int) - k) = (n : Int) - k := IntWalk.i64_in _ (by omega)
  have w2 : ((n : Int) - k).toNat = n - k := by omega
  have w3 : n - (n - k) = k := by omega
  simp [vm_stack_val_Value_pop, MH, mBox, w1, w2, w3, aSliceM]
  intro _
  refine ⟨by omega, ?_⟩
  refine aCallF_of [1] hc rfl (by simp [renF]) (by simp) (by simp [framed]) (by simp [AV.under, AV.under1]) (by simp [Ob.below]) ?_
  simp [renF, frameH, setAll, w1, w2, w3, aSliceM]
  exact ⟨⟨hk, by omega⟩, gives_ids [0, 1, 2, 3] (by simp [renF]) rfl (by simp) (by simp [framed, renF, MH, mBox]) (by simp [AV.under, AV.under1]) (by simp [Ob.below, AV.under1, MH, mBox])⟩

theorem encV5 (l : List Va) : ∀ e ∈ l.map encV, e.cells.length = 5 := fun e he => by
  obtain ⟨y, _, rfl⟩ := List.mem_map.1 he
  simp

theorem pop_top (x : Va) (v : Nat) (s0 top outs : List Va) (hb : s0.length + top.length ≤ 1000000) :
    Abs.Fn Try.prog vm_stack_val_Value_pop_i (MH x v ((s0 ++ top).map encV) (s0.length + top.length) outs) [.bptr 0 5, .p (.int .i64 top.length)] (.own 3 (top.map encV)) (MH x v ((s0 ++ top).map encV) s0.length outs ++ [.row top.length 5]) := by
  have := vmPop_spec x v ((s0 ++ top).map encV) (s0.length + top.length) outs top.length (by omega) (by simp) (by simpa using hb) (encV5 _)
  have e1 : s0.length + top.length - top.length = s0.length := by omega
  rw [e1] at this
  have e2 : (((s0 ++ top).map encV).drop s0.length).take top.length = top.map encV := by
    rw [List.map_append, List.drop_append_of_le_length (by simp), List.drop_of_length_le (by simp), List.nil_append, List.take_of_length_le (by simp)]
  rwa [e2] at this

theorem push_top (x : Va) (v : Nat) (s0 top outs : List Va) (y : Va) (hb : s0.length ≤ 1000000) :
    Abs.Fn Try.prog vm_stack_val_Value_push_i (MH x v ((s0 ++ top).map encV) s0.length outs) [.bptr 0 5, .p (encV y)] (.tup []) (MH x (v + 1) ((s0 ++ [y]).map encV) (s0.length + 1) outs) := by
  have := vmPush_spec x y v ((s0 ++ top).map encV) s0.length outs (by simp) hb (encV5 _)
  have e2 : ((s0 ++ top).map encV).take s0.length ++ [encV y] = (s0 ++ [y]).map encV := by
    rw [List.map_append, List.take_append_of_le_length (by simp), List.take_of_length_le (by simp), List.map_append]
    rfl
  rwa [e2] at this

theorem does_push (x : Va) (i : In) (s outs : List Va) (v : Nat) (hs : s.length ≤ 100000) (hop : i.op = oPush) :
    Abs.Fn Try.prog vm_machine_does_i (MH x v (s.map encV) s.length outs) [.bptr 0 0, .p (encI i)] (.p (.int .i64 0)) (MH x (v + 1) ((s ++ [i.v]).map encV) (s.length + 1) outs) := by
  have hp := push_top x v s [] outs i.v (by omega)
  simp [MH, mBox] at hp
  apply vm_machine_does_fnH
  simp [vm_machine_does, MH, mBox, encI_eta, hop]
  refine aCallG_of [0, 1, 2] hp rfl (by simp [renF, AV.norm]) (by simp) (by simp [framed, renF]) (by simp [AV.under, AV.under1]) (by simp [Ob.below, AV.under1]) ?_
  simp [renF, frameH, setAll, MH, mBox]
  exact gives_ids [0, 1, 2] (by simp [renF]) rfl (by simp) (by simp [framed, renF, MH, mBox]) (by simp [AV.under, AV.under1]) (by simp [Ob.below, AV.under1, MH, mBox])

theorem does_x (x : Va) (i : In) (s outs : List Va) (v : Nat) (hs : s.length ≤ 100000) (hop : i.op = oX) :
    Abs.Fn Try.prog vm_machine_does_i (MH x v (s.map encV) s.length outs) [.bptr 0 0, .p (encI i)] (.p (.int .i64 0)) (MH x (v + 1) ((s ++ [x]).map encV) (s.length + 1) outs) := by
  have hp := push_top x v s [] outs x (by omega)
  simp [MH, mBox] at hp
  apply vm_machine_does_fnH
  simp [vm_machine_does, MH, mBox, encI_eta, hop]
  refine aCallG_of [0, 1, 2] hp rfl (by simp [renF, AV.norm]) (by simp) (by simp [framed, renF]) (by simp [AV.under, AV.under1]) (by simp [Ob.below, AV.under1]) ?_
  simp [renF, frameH, setAll, MH, mBox]
  exact gives_ids [0, 1, 2] (by simp [renF]) rfl (by simp) (by simp [framed, renF, MH, mBox]) (by simp [AV.under, AV.under1]) (by simp [Ob.below, AV.under1, MH, mBox])

theorem does_at (x : Va) (i : In) (s0 outs : List Va) (a b : Va) (v : Nat) (hs : s0.length ≤ 100000) (hop : i.op = oAt) (h0 : 0 ≤ i.n) (hb : a.t[i.n.toNat]? = some b) :
    Abs.Fn Try.prog vm_machine_does_i (MH x v ((s0 ++ [a]).map encV) (s0.length + 1) outs) [.bptr 0 0, .p (encI i)] (.p (.int .i64 0)) (MH x (v + 1) ((s0 ++ [b]).map encV) (s0.length + 1) outs) := by
  have hp := pop_top x v s0 [a] outs (by simp; omega)
  have hq := push_top x v s0 [a] outs b (by omega)
  obtain ⟨hlt, hbe⟩ := List.getElem?_eq_some_iff.1 hb
  have hi2 : i.n < a.t.length := by omega
  subst hbe
  simp [MH, mBox] at hp hq
  apply vm_machine_does_fnH
  simp [vm_machine_does, MH, mBox, encI_eta, hop]
  repeat' apply And.intro
  all_goals
    refine aCallG_of [0, 1, 2] hp rfl (by simp [renF, AV.norm]) (by simp) (by simp [framed, renF]) (by simp [AV.under, AV.under1]) (by simp [Ob.below, AV.under1]) ?_
    simp [renF, frameH, setAll, MH, mBox, h0, hi2, hlt]
    try refine aCallG_of [0, 1, 2] hq rfl (by simp [renF, AV.norm]) (by simp) (by simp [framed, renF]) (by simp [AV.under, AV.under1]) (by simp [Ob.below, AV.under1]) ?_
    try simp [renF, frameH, setAll, MH, mBox]
    try exact gives_ids [0, 1, 2] (by simp [renF]) rfl (by simp) (by simp [framed, renF, MH, mBox]) (by simp [AV.under, AV.under1]) (by simp [Ob.below, AV.under1, MH, mBox])

theorem does_emit (x : Va) (i : In) (s0 top outs : List Va) (v : Nat) (hs : s0.length + top.length ≤ 100000) (ho : outs.length ≤ 100000) (hop : i.op = oEmit') (hn : i.n = top.length) :
    Abs.Fn Try.prog vm_machine_does_i (MH x v ((s0 ++ top).map encV) (s0.length + top.length) outs) [.bptr 0 0, .p (encI i)] (.p (.int .i64 0)) (MH x v ((s0 ++ top).map encV) s0.length (outs ++ top)) := by
  have hp := pop_top x v s0 top outs (by omega)
  simp [MH, mBox] at hp
  apply vm_machine_does_fnH
  simp [vm_machine_does, MH, mBox, encI_eta, hop, hn]
  repeat' apply And.intro
  all_goals
    refine aCallG_of [0, 1, 2] hp rfl (by simp [renF, AV.norm]) (by simp) (by simp [framed, renF]) (by simp [AV.under, AV.under1]) (by simp [Ob.below, AV.under1]) ?_
    simp [renF, frameH, setAll, MH, mBox]
    refine ⟨⟨encV5 _, encV5 _, by simp; omega⟩, ?_⟩
    exact gives_ids [0, 1, 2] (by simp [renF]) rfl (by simp) (by simp [framed, renF, MH, mBox]) (by simp [AV.under, AV.under1]) (by simp [Ob.below, AV.under1, MH, mBox])

theorem does_tup (x : Va) (i : In) (s0 top outs : List Va) (v : Nat) (hs : s0.length + top.length ≤ 100000) (hop : i.op = oTup) (hn : i.n = top.length) :
    Abs.Fn Try.prog vm_machine_does_i (MH x v ((s0 ++ top).map encV) (s0.length + top.length) outs) [.bptr 0 0, .p (encI i)] (.p (.int .i64 0)) (MH x (v + 1) ((s0 ++ [tupV top]).map encV) (s0.length + 1) outs) := by
  have hp := pop_top x v s0 top outs (by omega)
  have hq := push_top x v s0 top outs (tupV top) (by omega)
  have ht := Tup_spec top (by omega)
  simp [MH, mBox] at hp hq ht
  apply vm_machine_does_fnH
  simp [vm_machine_does, MH, mBox, encI_eta, hop, hn]
  refine aCallG_of [0, 1, 2] hp rfl (by simp [renF, AV.norm]) (by simp) (by simp [framed, renF]) (by simp [AV.under, AV.under1]) (by simp [Ob.below, AV.under1]) ?_
  simp [renF, frameH, setAll, MH, mBox]
  refine aCallW_of rfl rfl ht ?_
  simp
  refine aCallG_of [0, 1, 2] hq rfl (by simp [renF, AV.norm]) (by simp) (by simp [framed, renF]) (by simp [AV.under, AV.under1]) (by simp [Ob.below, AV.under1]) ?_
  simp [renF, frameH, setAll, MH, mBox]
  exact gives_ids [0, 1, 2] (by simp [renF]) rfl (by simp) (by simp [framed, renF, MH, mBox]) (by simp [AV.under, AV.under1]) (by simp [Ob.below, AV.under1, MH, mBox])

theorem does_one (x : Va) (i : In) (s0 outs : List Va) (a b : Va) (v : Nat) (hs : s0.length ≤ 100000) (hop : i.op = oNeg ∨ i.op = oNot ∨ i.op = oLen) (hm : mkE i.op 0 [a] = some (.ok b)) :
    Abs.Fn Try.prog vm_machine_does_i (MH x v ((s0 ++ [a]).map encV) (s0.length + 1) outs) [.bptr 0 0, .p (encI i)] (.p (.int .i64 0)) (MH x (v + 1) ((s0 ++ [b]).map encV) (s0.length + 1) outs) := by
  have hp := pop_top x v s0 [a] outs (by simp; omega)
  have hq := push_top x v s0 [a] outs b (by omega)
  have h1 := One_spec i.op a b hm (by rcases hop with h | h | h <;> simp [h])
  simp [MH, mBox] at hp hq h1
  have n1 : i.op ≠ oPush ∧ i.op ≠ oX ∧ i.op ≠ oAt ∧ i.op ≠ oTup ∧ i.op ≠ oEmit' := by rcases hop with h | h | h <;> simp [h]
  obtain ⟨n1, n2, n3, n4, n5⟩ := n1
  apply vm_machine_does_fnH
  simp [vm_machine_does, MH, mBox, encI_eta, n1, n2, n3, n4, n5, hop]
  repeat' (with_reducible apply And.intro)
  all_goals try (intro q1 q2 q3; exact absurd hop (by simp [q1, q2, q3]))
  all_goals
    refine aCallG_of [0, 1, 2] hp rfl (by simp [renF, AV.norm]) (by simp) (by simp [framed, renF]) (by simp [AV.under, AV.under1]) (by simp [Ob.below, AV.under1]) ?_
    simp [renF, frameH, setAll, MH, mBox]
    repeat' (with_reducible apply And.intro)
  all_goals
    refine aCallW_of rfl rfl h1 ?_
    simp [renF, frameH, setAll, MH, mBox]
    repeat' (with_reducible apply And.intro)
  all_goals
    try simp [renF, frameH, setAll, MH, mBox]
    try (with_reducible refine And.intro ?_ ?_)
  all_goals
    refine aCallG_of [0, 1, 2] hq rfl (by simp [renF, AV.norm]) (by simp) (by simp [framed, renF]) (by simp [AV.under, AV.under1]) (by simp [Ob.below, AV.under1]) ?_
    simp [renF, frameH, setAll, MH, mBox]
    exact gives_ids [0, 1, 2] (by simp [renF]) rfl (by simp) (by simp [framed, renF, MH, mBox]) (by simp [AV.under, AV.under1]) (by simp [Ob.below, AV.under1, MH, mBox])

theorem does_two (x : Va) (i : In) (s0 outs : List Va) (a b c : Va) (v : Nat) (hs : s0.length ≤ 100000) (hop : i.op ≠ oPush ∧ i.op ≠ oX ∧ i.op ≠ oAt ∧ i.op ≠ oTup ∧ i.op ≠ oEmit' ∧ i.op ≠ oNeg ∧ i.op ≠ oNot ∧ i.op ≠ oLen) (ha : Wv 1000000000 a) (hb : Wv 1000000000 b) (hm : mkE i.op 0 [a, b] = some (.ok c)) :
    Abs.Fn Try.prog vm_machine_does_i (MH x v ((s0 ++ [a, b]).map encV) (s0.length + 2) outs) [.bptr 0 0, .p (encI i)] (.p (.int .i64 0)) (MH x (v + 1) ((s0 ++ [c]).map encV) (s0.length + 1) outs) := by
  have hp := pop_top x v s0 [a, b] outs (by simp; omega)
  have hq := push_top x v s0 [a, b] outs c (by omega)
  obtain ⟨n1, n2, n3, n4, n5, n6, n7, n8⟩ := hop
  have h1 := Both_spec i.op a b _ hm ⟨n3, n4⟩ ha hb
  simp [MH, mBox, bothR, R.get, R.num] at hp hq h1
  apply vm_machine_does_fnH
  simp [vm_machine_does, MH, mBox, encI_eta, n1, n2, n3, n4, n5, n6, n7, n8]
  refine aCallG_of [0, 1, 2] hp rfl (by simp [renF, AV.norm]) (by simp) (by simp [framed, renF]) (by simp [AV.under, AV.under1]) (by simp [Ob.below, AV.under1]) ?_
  simp [renF, frameH, setAll, MH, mBox]
  refine aCallT_of rfl h1 (by simp [AV.pur]; rfl) ?_
  simp [renF, frameH, setAll, MH, mBox]
  refine aCallG_of [0, 1, 2] hq rfl (by simp [renF, AV.norm]) (by simp) (by simp [framed, renF]) (by simp [AV.under, AV.under1]) (by simp [Ob.below, AV.under1]) ?_
  simp [renF, frameH, setAll, MH, mBox]
  exact gives_ids [0, 1, 2] (by simp [renF]) rfl (by simp) (by simp [framed, renF, MH, mBox]) (by simp [AV.under, AV.under1]) (by simp [Ob.below, AV.under1, MH, mBox])

theorem does_er (x : Va) (i : In) (s0 outs : List Va) (a b : Va) (f : Int) (v : Nat) (hs : s0.length ≤ 100000) (hop : i.op ≠ oPush ∧ i.op ≠ oX ∧ i.op ≠ oAt ∧ i.op ≠ oTup ∧ i.op ≠ oEmit' ∧ i.op ≠ oNeg ∧ i.op ≠ oNot ∧ i.op ≠ oLen) (ha : Wv 1000000000 a) (hb : Wv 1000000000 b) (hm : mkE i.op 0 [a, b] = some (.er f)) :
    Abs.Fn Try.prog vm_machine_does_i (MH x v ((s0 ++ [a, b]).map encV) (s0.length + 2) outs) [.bptr 0 0, .p (encI i)] (.p (.int .i64 f)) (MH x v ((s0 ++ [a, b]).map encV) s0.length outs) := by
  have hp := pop_top x v s0 [a, b] outs (by simp; omega)
  obtain ⟨n1, n2, n3, n4, n5, n6, n7, n8⟩ := hop
  have h1 := Both_spec i.op a b _ hm ⟨n3, n4⟩ ha hb
  have hf := mkE_er hm
  simp [MH, mBox, bothR, R.get, R.num] at hp h1
  apply vm_machine_does_fnH
  simp [vm_machine_does, MH, mBox, encI_eta, n1, n2, n3, n4, n5, n6, n7, n8]
  refine aCallG_of [0, 1, 2] hp rfl (by simp [renF, AV.norm]) (by simp) (by simp [framed, renF]) (by simp [AV.under, AV.under1]) (by simp [Ob.below, AV.under1]) ?_
  simp [renF, frameH, setAll, MH, mBox]
  refine aCallT_of rfl h1 (by simp [AV.pur]; rfl) ?_
  simp [hf, renF, frameH, setAll, MH, mBox]
  exact gives_ids [0, 1, 2] (by simp [renF]) rfl (by simp) (by simp [framed, renF, MH, mBox]) (by simp [AV.under, AV.under1]) (by simp [Ob.below, AV.under1, MH, mBox])

end Go.Proofs.Ytondmcnmdooonaa
