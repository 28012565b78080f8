/- Made by program (Gen.lean): functions of the dump, over trees. -/
import Derived.Test.YtmnmiiifilfcmaaGreatS1

section
/- Made by program (Gen.lean): functions of the dump, over trees. -/
set_option maxRecDepth 4000
set_option linter.unusedVariables false
namespace Go.Proofs.YtmnmiiifilfcmaaGreat
open Go Go.Abs

/- runnel/runnellaw8.Good -/
def runnellaw8_Good (x0 : AV) (H : List Ob) (K : AV → List Ob → Prop) : Prop :=
  aCall Tryz.prog (.p (.func runnellaw8_Few_i [])) [x0] H fun v0 h1 =>
  aUn .not v0 fun v2 =>
  aGuard v2
  (K (.p (.bool false)) h1)
  (aCall Tryz.prog (.p (.func runnellaw8_Of_i [])) [x0] h1 fun v3 h4 =>
  aCall Tryz.prog (.p (.func runnelref10_Check_i [])) [v3] h4 fun v5 h6 =>
  aExtract v5 0 fun _ =>
  aExtract v5 1 fun v8 =>
  aBin false false .eql v8 (.p (.int .i64 0)) fun v9 =>
  K v9 h6)

def runnellaw8_Good_ann : Nat → List Nat := fun _ => []

theorem runnellaw8_Good_eq (x0 : AV) (H : List Ob) (r : AV) (Ho : List Ob) : aBody Tryz.prog runnellaw8_Good_ann Tryz.f5 H [x0] r Ho = runnellaw8_Good x0 H (fun v H' => Gives H.length v H' r Ho) := by kernel_rfl

theorem runnellaw8_Good_fnH {x0 : AV} {Hin : List Ob} {r : AV} {Ho : List Ob} (h : runnellaw8_Good x0 Hin (fun v H' => Gives Hin.length v H' r Ho)) : Abs.Fn Tryz.prog runnellaw8_Good_i Hin [x0] r Ho :=
  fn_intro mixed runnellaw8_Good_ann (fn := Tryz.f5) (by kernel_rfl) (by kernel_rfl) (by rw [runnellaw8_Good_eq]; exact h)

theorem runnellaw8_Good_fn {x0 : AV} {r : AV} {Ho : List Ob} (h : runnellaw8_Good x0 [] (fun v H' => Gives 0 v H' r Ho)) : Abs.Fn Tryz.prog runnellaw8_Good_i [] [x0] r Ho := runnellaw8_Good_fnH (Hin := []) h

/- runnel/graph.Outs -/
def graph_Outs (x0 x1 : AV) (H : List Ob) (K : AV → List Ob → Prop) : Prop :=
  aBox x1 H fun v0 h1 =>
  aMakeFunc graph_Outs_1_i [v0] h1 fun v2 h3 =>
  aCall Tryz.prog (.p (.func graph_which_graph_Node_i [])) [x0, v2] h3 fun v4 h5 =>
  K v4 h5

def graph_Outs_ann : Nat → List Nat := fun _ => []

theorem graph_Outs_eq (x0 x1 : AV) (H : List Ob) (r : AV) (Ho : List Ob) : aBody Tryz.prog graph_Outs_ann Tryz.f6 H [x0, x1] r Ho = graph_Outs x0 x1 H (fun v H' => Gives H.length v H' r Ho) := by kernel_rfl

theorem graph_Outs_fnH {x0 x1 : AV} {Hin : List Ob} {r : AV} {Ho : List Ob} (h : graph_Outs x0 x1 Hin (fun v H' => Gives Hin.length v H' r Ho)) : Abs.Fn Tryz.prog graph_Outs_i Hin [x0, x1] r Ho :=
  fn_intro mixed graph_Outs_ann (fn := Tryz.f6) (by kernel_rfl) (by kernel_rfl) (by rw [graph_Outs_eq]; exact h)

theorem graph_Outs_fn {x0 x1 : AV} {r : AV} {Ho : List Ob} (h : graph_Outs x0 x1 [] (fun v H' => Gives 0 v H' r Ho)) : Abs.Fn Tryz.prog graph_Outs_i [] [x0, x1] r Ho := graph_Outs_fnH (Hin := []) h

/- runnel/runnellaw8.Small -/
def runnellaw8_Small (H : List Ob) (K : AV → List Ob → Prop) : Prop :=
  aBuild [(.p (.int .i64 0)), (.full [])] [(0, 1, (.p (.int .i64 1)))] fun v0 =>
  aBuild [(.p (.int .i64 0)), (.p (.str [])), (.p (.int .i64 0)), (.full []), (.full []), (.p (.str [])), (.p (.int .i64 0)), (.p (.int .i64 0)), (.p (.bool false)), (.p (.str [])), (.full []), (.p (.int .i64 0)), (.full []), (.p (.int .i64 0)), (.p (.int .i64 0))] [(0, 1, (.p (.int .i64 1))), (1, 1, (.p (.str [115]))), (2, 2, v0)] fun v1 =>
  aBuild [(.p (.str [])), (.p (.int .i64 0)), (.p (.str [])), (.p (.int .i64 0)), (.full []), (.full []), (.p (.str [])), (.p (.int .i64 0)), (.p (.int .i64 0)), (.p (.bool false)), (.p (.str [])), (.full []), (.p (.int .i64 0)), (.full []), (.p (.int .i64 0)), (.p (.int .i64 0)), (.full []), (.p (.int .i64 0)), (.p (.int .i64 0)), (.p (.str [])), (.p (.bool false))] [(1, 15, v1), (17, 1, (.p (.int .i64 2))), (18, 1, (.p (.int .i64 4))), (19, 1, (.p (.str [103])))] fun v2 =>
  aCall Tryz.prog (.p (.func runnellaw4_X_i [])) [] H fun v3 h4 =>
  aCall Tryz.prog (.p (.func val_Int_i [])) [(.p (.int .i64 1))] h4 fun v5 h6 =>
  aCall Tryz.prog (.p (.func runnellaw4_Lit_i [])) [v5] h6 fun v7 h8 =>
  aBuildSlice 8 [v3, v7] fun v9 =>
  aCall Tryz.prog (.p (.func runnellaw4_Op_i [])) [(.p (.str [97, 100, 100])), v9] h8 fun v10 h11 =>
  aBuildSlice 8 [v10] fun v12 =>
  aBuild [(.p (.int .i64 0)), (.p (.str [])), (.p (.int .i64 0)), (.full []), (.full []), (.p (.str [])), (.p (.int .i64 0)), (.p (.int .i64 0)), (.p (.bool false)), (.p (.str [])), (.full []), (.p (.int .i64 0)), (.full []), (.p (.int .i64 0)), (.p (.int .i64 0))] [(0, 1, (.p (.int .i64 2))), (4, 1, v12)] fun v13 =>
  aBuildSlice 1 [(.p (.int .i64 0))] fun v14 =>
  aBuild [(.p (.str [])), (.p (.int .i64 0)), (.p (.str [])), (.p (.int .i64 0)), (.full []), (.full []), (.p (.str [])), (.p (.int .i64 0)), (.p (.int .i64 0)), (.p (.bool false)), (.p (.str [])), (.full []), (.p (.int .i64 0)), (.full []), (.p (.int .i64 0)), (.p (.int .i64 0)), (.full []), (.p (.int .i64 0)), (.p (.int .i64 0)), (.p (.str [])), (.p (.bool false))] [(1, 15, v13), (16, 1, v14), (17, 1, (.p (.int .i64 2))), (18, 1, (.p (.int .i64 4))), (19, 1, (.p (.str [103])))] fun v15 =>
  aBuild [(.p (.int .i64 0)), (.p (.str [])), (.p (.int .i64 0)), (.full []), (.full []), (.p (.str [])), (.p (.int .i64 0)), (.p (.int .i64 0)), (.p (.bool false)), (.p (.str [])), (.full []), (.p (.int .i64 0)), (.full []), (.p (.int .i64 0)), (.p (.int .i64 0))] [(0, 1, (.p (.int .i64 9))), (1, 1, (.p (.str [97])))] fun v16 =>
  aBuildSlice 1 [(.p (.int .i64 1))] fun v17 =>
  aBuild [(.p (.str [])), (.p (.int .i64 0)), (.p (.str [])), (.p (.int .i64 0)), (.full []), (.full []), (.p (.str [])), (.p (.int .i64 0)), (.p (.int .i64 0)), (.p (.bool false)), (.p (.str [])), (.full []), (.p (.int .i64 0)), (.full []), (.p (.int .i64 0)), (.p (.int .i64 0)), (.full []), (.p (.int .i64 0)), (.p (.int .i64 0)), (.p (.str [])), (.p (.bool false))] [(1, 15, v16), (16, 1, v17), (17, 1, (.p (.int .i64 2))), (18, 1, (.p (.int .i64 4))), (19, 1, (.p (.str [103])))] fun v18 =>
  aBuildSlice 21 [v2, v15, v18] fun v19 =>
  K v19 h11

def runnellaw8_Small_ann : Nat → List Nat := fun _ => []

theorem runnellaw8_Small_eq (H : List Ob) (r : AV) (Ho : List Ob) : aBody Tryz.prog runnellaw8_Small_ann Tryz.f7 H [] r Ho = runnellaw8_Small H (fun v H' => Gives H.length v H' r Ho) := by kernel_rfl

theorem runnellaw8_Small_fnH {Hin : List Ob} {r : AV} {Ho : List Ob} (h : runnellaw8_Small Hin (fun v H' => Gives Hin.length v H' r Ho)) : Abs.Fn Tryz.prog runnellaw8_Small_i Hin [] r Ho :=
  fn_intro mixed runnellaw8_Small_ann (fn := Tryz.f7) (by kernel_rfl) (by kernel_rfl) (by rw [runnellaw8_Small_eq]; exact h)

theorem runnellaw8_Small_fn {r : AV} {Ho : List Ob} (h : runnellaw8_Small [] (fun v H' => Gives 0 v H' r Ho)) : Abs.Fn Tryz.prog runnellaw8_Small_i [] [] r Ho := runnellaw8_Small_fnH (Hin := []) h

/- runnel/graph.Check -/
def graph_Check_L2 (q2s0 q2s44 q2s45 y0 : AV) (H : List Ob) (B2 : List AV → List Ob → Prop) (K : AV → List Ob → Prop) : Prop :=
  aBin false false .lss y0 q2s45 fun v28 =>
  aGuard v28
  (aIndexAddr 21 q2s44 y0 fun v29 =>
  aLoad true 21 v29 H fun v30 =>
  aAlloc [(.p (.str [])), (.p (.int .i64 0)), (.p (.str [])), (.p (.int .i64 0)), (.full []), (.full []), (.p (.str [])), (.p (.int .i64 0)), (.p (.int .i64 0)), (.p (.bool false)), (.p (.str [])), (.full []), (.p (.int .i64 0)), (.full []), (.p (.int .i64 0)), (.p (.int .i64 0)), (.full []), (.p (.int .i64 0)), (.p (.int .i64 0)), (.p (.str [])), (.p (.bool false))] H fun v31 h32 =>
  aStore 21 v31 v30 h32 fun _ h34 =>
  aFieldAddr 1 v31 fun v35 =>
  aFieldAddr 0 v35 fun v36 =>
  aLoad false 1 v36 h34 fun v37 =>
  aBin false false .neq v37 (.p (.int .i64 9)) fun v38 =>
  aMerge true v38 (fun Q39 =>
  aCall Tryz.prog (.p (.func graph_Outs_i [])) [q2s0, y0] h34 fun v40 h41 =>
  aLenS false v40 fun v42 =>
  aBin false false .eql v42 (.p (.int .i64 0)) fun v43 =>
  (h41 = h34 ∧ Q39 v43)) fun v44 =>
  aGuard v44
  (K (.tup [y0, (.p (.int .i64 1))]) h34)
  (aBin false false .add y0 (.p (.int .i64 1)) fun v45 =>
  B2 [v45] h34))
  (K (.tup [(.p (.int .i64 0)), (.p (.int .i64 0))]) H)

def graph_Check_L1 (q1s0 q1s19 q1s20 y0 y1 : AV) (H : List Ob) (B1 : List AV → List Ob → Prop) (K : AV → List Ob → Prop) : Prop :=
  aBin false false .lss y1 q1s20 fun v5 =>
  aGuard v5
  (aIndexAddr 21 q1s19 y1 fun v6 =>
  aLoad true 21 v6 H fun v7 =>
  aAlloc [(.p (.str [])), (.p (.int .i64 0)), (.p (.str [])), (.p (.int .i64 0)), (.full []), (.full []), (.p (.str [])), (.p (.int .i64 0)), (.p (.int .i64 0)), (.p (.bool false)), (.p (.str [])), (.full []), (.p (.int .i64 0)), (.full []), (.p (.int .i64 0)), (.p (.int .i64 0)), (.full []), (.p (.int .i64 0)), (.p (.int .i64 0)), (.p (.str [])), (.p (.bool false))] H fun v8 h9 =>
  aStore 21 v8 v7 h9 fun _ h11 =>
  aAlloc [(.p (.int .i64 0)), (.full [])] h11 fun v12 h13 =>
  aLoad true 21 v8 h13 fun v14 =>
  aSlice false 21 q1s0 none (some y1) none fun v15 =>
  aCallT Tryz.prog (.p (.func graph_Node_check_i [])) [v14, v15, y0] fun v16 =>
  aExtract v16 0 fun v17 =>
  aExtract v16 1 fun v18 =>
  aStore 2 v12 v17 h13 fun _ h20 =>
  aBin false false .neq v18 (.p (.int .i64 0)) fun v21 =>
  aGuard v21
  (K (.tup [y1, v18]) h20)
  (aLoad true 2 v12 h20 fun v22 =>
  aBuildSlice 2 [v22] fun v23 =>
  aAppend false 2 32 y0 v23 h20 fun v24 h25 =>
  aBin false false .add y1 (.p (.int .i64 1)) fun v26 =>
  B1 [v24, v26] h25))
  (aLen false false q1s0 fun v27 =>
  aLoopN 1 [(.p (.int .i64 0))] H fun xs H B2 => graph_Check_L2 q1s0 q1s0 v27 (xs.getD 0 .top) H B2 K)

def graph_Check (x0 : AV) (H : List Ob) (K : AV → List Ob → Prop) : Prop :=
  aLen false false x0 fun v0 =>
  aBin false false .eql v0 (.p (.int .i64 0)) fun v1 =>
  aGuard v1
  (K (.tup [(.p (.int .i64 0)), (.p (.int .i64 3))]) H)
  (aLen false false x0 fun v2 =>
  aBin false false .gtr v2 (.p (.int .i64 16)) fun v3 =>
  aGuard v3
  (K (.tup [(.p (.int .i64 0)), (.p (.int .i64 10))]) H)
  (aLen false false x0 fun v4 =>
  aLoopN 2 [(.full []), (.p (.int .i64 0))] H fun xs H B1 => graph_Check_L1 x0 x0 v4 (xs.getD 0 .top) (xs.getD 1 .top) H B1 K))

def graph_Check_ann : Nat → List Nat := fun k => match k with | 7 => [4, 21] | 15 => [46] | _ => []

theorem graph_Check_eq (x0 : AV) (H : List Ob) (r : AV) (Ho : List Ob) : aBody Tryz.prog graph_Check_ann Tryz.f8 H [x0] r Ho = graph_Check x0 H (fun v H' => Gives H.length v H' r Ho) := by kernel_rfl

theorem graph_Check_fnH {x0 : AV} {Hin : List Ob} {r : AV} {Ho : List Ob} (h : graph_Check x0 Hin (fun v H' => Gives Hin.length v H' r Ho)) : Abs.Fn Tryz.prog graph_Check_i Hin [x0] r Ho :=
  fn_intro mixed graph_Check_ann (fn := Tryz.f8) (by kernel_rfl) (by kernel_rfl) (by rw [graph_Check_eq]; exact h)

theorem graph_Check_fn {x0 : AV} {r : AV} {Ho : List Ob} (h : graph_Check x0 [] (fun v H' => Gives 0 v H' r Ho)) : Abs.Fn Tryz.prog graph_Check_i [] [x0] r Ho := graph_Check_fnH (Hin := []) h

/- runnel/graph.Types -/
def graph_Types_L1 (q1s0 q1s8 q1s9 y0 y1 : AV) (H : List Ob) (B1 : List AV → List Ob → Prop) (K : AV → List Ob → Prop) : Prop :=
  aBin false false .lss y1 q1s9 fun v1 =>
  aGuard v1
  (aIndexAddr 21 q1s8 y1 fun v2 =>
  aLoad true 21 v2 H fun v3 =>
  aAlloc [(.p (.str [])), (.p (.int .i64 0)), (.p (.str [])), (.p (.int .i64 0)), (.full []), (.full []), (.p (.str [])), (.p (.int .i64 0)), (.p (.int .i64 0)), (.p (.bool false)), (.p (.str [])), (.full []), (.p (.int .i64 0)), (.full []), (.p (.int .i64 0)), (.p (.int .i64 0)), (.full []), (.p (.int .i64 0)), (.p (.int .i64 0)), (.p (.str [])), (.p (.bool false))] H fun v4 h5 =>
  aStore 21 v4 v3 h5 fun _ h7 =>
  aAlloc [(.p (.int .i64 0)), (.full [])] h7 fun v8 h9 =>
  aLoad true 21 v4 h9 fun v10 =>
  aSlice false 21 q1s0 none (some y1) none fun v11 =>
  aCallT Tryz.prog (.p (.func graph_Node_check_i [])) [v10, v11, y0] fun v12 =>
  aExtract v12 0 fun v13 =>
  aExtract v12 1 fun v14 =>
  aStore 2 v8 v13 h9 fun _ h16 =>
  aBin false false .neq v14 (.p (.int .i64 0)) fun v17 =>
  aGuard v17
  (K (.full []) h16)
  (aLoad true 2 v8 h16 fun v18 =>
  aBuildSlice 2 [v18] fun v19 =>
  aAppend false 2 32 y0 v19 h16 fun v20 h21 =>
  aBin false false .add y1 (.p (.int .i64 1)) fun v22 =>
  B1 [v20, v22] h21))
  (aCall Tryz.prog (.p (.func slices_Clip_typ_Type_typ_Type_i [])) [y0] H fun v23 h24 =>
  K v23 h24)

def graph_Types (x0 : AV) (H : List Ob) (K : AV → List Ob → Prop) : Prop :=
  aLen false false x0 fun v0 =>
  aLoopN 2 [(.full []), (.p (.int .i64 0))] H fun xs H B1 => graph_Types_L1 x0 x0 v0 (xs.getD 0 .top) (xs.getD 1 .top) H B1 K

def graph_Types_ann : Nat → List Nat := fun k => match k with | 3 => [3, 10] | _ => []

theorem graph_Types_eq (x0 : AV) (H : List Ob) (r : AV) (Ho : List Ob) : aBody Tryz.prog graph_Types_ann Tryz.f9 H [x0] r Ho = graph_Types x0 H (fun v H' => Gives H.length v H' r Ho) := by kernel_rfl

theorem graph_Types_fnH {x0 : AV} {Hin : List Ob} {r : AV} {Ho : List Ob} (h : graph_Types x0 Hin (fun v H' => Gives Hin.length v H' r Ho)) : Abs.Fn Tryz.prog graph_Types_i Hin [x0] r Ho :=
  fn_intro mixed graph_Types_ann (fn := Tryz.f9) (by kernel_rfl) (by kernel_rfl) (by rw [graph_Types_eq]; exact h)

theorem graph_Types_fn {x0 : AV} {r : AV} {Ho : List Ob} (h : graph_Types x0 [] (fun v H' => Gives 0 v H' r Ho)) : Abs.Fn Tryz.prog graph_Types_i [] [x0] r Ho := graph_Types_fnH (Hin := []) h

/- runnel/graph.Named -/
def graph_Named (x0 x1 : AV) (H : List Ob) (K : AV → List Ob → Prop) : Prop :=
  aBox x1 H fun v0 h1 =>
  aMakeFunc graph_Named_1_i [v0] h1 fun v2 h3 =>
  aCall Tryz.prog (.p (.func graph_which_graph_Node_i [])) [x0, v2] h3 fun v4 h5 =>
  K v4 h5

def graph_Named_ann : Nat → List Nat := fun _ => []

theorem graph_Named_eq (x0 x1 : AV) (H : List Ob) (r : AV) (Ho : List Ob) : aBody Tryz.prog graph_Named_ann Tryz.f10 H [x0, x1] r Ho = graph_Named x0 x1 H (fun v H' => Gives H.length v H' r Ho) := by kernel_rfl

theorem graph_Named_fnH {x0 x1 : AV} {Hin : List Ob} {r : AV} {Ho : List Ob} (h : graph_Named x0 x1 Hin (fun v H' => Gives Hin.length v H' r Ho)) : Abs.Fn Tryz.prog graph_Named_i Hin [x0, x1] r Ho :=
  fn_intro mixed graph_Named_ann (fn := Tryz.f10) (by kernel_rfl) (by kernel_rfl) (by rw [graph_Named_eq]; exact h)

theorem graph_Named_fn {x0 x1 : AV} {r : AV} {Ho : List Ob} (h : graph_Named x0 x1 [] (fun v H' => Gives 0 v H' r Ho)) : Abs.Fn Tryz.prog graph_Named_i [] [x0, x1] r Ho := graph_Named_fnH (Hin := []) h

/- runnel/runnellaw8.Few -/
def runnellaw8_Few_L1 (q1s0 y0 : AV) (H : List Ob) (B1 : List AV → List Ob → Prop) (K : AV → List Ob → Prop) : Prop :=
  aLen false false q1s0 fun v2 =>
  aBin false false .lss y0 v2 fun v3 =>
  aGuard v3
  (aIndexAddr 21 q1s0 y0 fun v4 =>
  aFieldAddr 0 v4 fun v5 =>
  aLoad false 1 v5 H fun v6 =>
  aLen false true v6 fun v7 =>
  aBin false false .gtr v7 (.p (.int .i64 50)) fun v8 =>
  aMerge false v8 (fun Q9 =>
  aIndexAddr 21 q1s0 y0 fun v10 =>
  aFieldAddr 19 v10 fun v11 =>
  aLoad false 1 v11 H fun v12 =>
  aLenS true v12 fun v13 =>
  aBin false false .gtr v13 (.p (.int .i64 50)) fun v14 =>
  (H = H ∧ Q9 v14)) fun v15 =>
  aMerge false v15 (fun Q16 =>
  aIndexAddr 21 q1s0 y0 fun v17 =>
  aFieldAddr 16 v17 fun v18 =>
  aLoad false 1 v18 H fun v19 =>
  aLenS false v19 fun v20 =>
  aBin false false .gtr v20 (.p (.int .i64 8)) fun v21 =>
  (H = H ∧ Q16 v21)) fun v22 =>
  aMerge false v22 (fun Q23 =>
  aIndexAddr 21 q1s0 y0 fun v24 =>
  aFieldAddr 1 v24 fun v25 =>
  aLoad true 15 v25 H fun v26 =>
  aCall Tryz.prog (.p (.func runnellaw7_Few_i [])) [v26] H fun v27 h28 =>
  aUn .not v27 fun v29 =>
  (h28 = H ∧ Q23 v29)) fun v30 =>
  aGuard v30
  (K (.p (.bool false)) H)
  (aBin false false .add y0 (.p (.int .i64 1)) fun v31 =>
  B1 [v31] H))
  (K (.p (.bool true)) H)

def runnellaw8_Few (x0 : AV) (H : List Ob) (K : AV → List Ob → Prop) : Prop :=
  aLen false false x0 fun v0 =>
  aBin false false .gtr v0 (.p (.int .i64 20)) fun v1 =>
  aGuard v1
  (K (.p (.bool false)) H)
  (aLoopN 1 [(.p (.int .i64 0))] H fun xs H B1 => runnellaw8_Few_L1 x0 (xs.getD 0 .top) H B1 K)

def runnellaw8_Few_ann : Nat → List Nat := fun k => match k with | 4 => [3] | _ => []

theorem runnellaw8_Few_eq (x0 : AV) (H : List Ob) (r : AV) (Ho : List Ob) : aBody Tryz.prog runnellaw8_Few_ann Tryz.f11 H [x0] r Ho = runnellaw8_Few x0 H (fun v H' => Gives H.length v H' r Ho) := by kernel_rfl

theorem runnellaw8_Few_fnH {x0 : AV} {Hin : List Ob} {r : AV} {Ho : List Ob} (h : runnellaw8_Few x0 Hin (fun v H' => Gives Hin.length v H' r Ho)) : Abs.Fn Tryz.prog runnellaw8_Few_i Hin [x0] r Ho :=
  fn_intro mixed runnellaw8_Few_ann (fn := Tryz.f11) (by kernel_rfl) (by kernel_rfl) (by rw [runnellaw8_Few_eq]; exact h)

theorem runnellaw8_Few_fn {x0 : AV} {r : AV} {Ho : List Ob} (h : runnellaw8_Few x0 [] (fun v H' => Gives 0 v H' r Ho)) : Abs.Fn Tryz.prog runnellaw8_Few_i [] [x0] r Ho := runnellaw8_Few_fnH (Hin := []) h

/- runnel/runnellaw8.Of -/
def runnellaw8_Of_L1 (q1s0 y0 y1 : AV) (H : List Ob) (B1 : List AV → List Ob → Prop) (K : AV → List Ob → Prop) : Prop :=
  aLen false false q1s0 fun v0 =>
  aBin false false .lss y1 v0 fun v1 =>
  aGuard v1
  (aIndexAddr 21 q1s0 y1 fun v2 =>
  aLoad true 21 v2 H fun v3 =>
  aAlloc [(.p (.str [])), (.p (.int .i64 0)), (.p (.str [])), (.p (.int .i64 0)), (.full []), (.full []), (.p (.str [])), (.p (.int .i64 0)), (.p (.int .i64 0)), (.p (.bool false)), (.p (.str [])), (.full []), (.p (.int .i64 0)), (.full []), (.p (.int .i64 0)), (.p (.int .i64 0)), (.full []), (.p (.int .i64 0)), (.p (.int .i64 0)), (.p (.str [])), (.p (.bool false))] H fun v4 h5 =>
  aStore 21 v4 v3 h5 fun _ h7 =>
  aFieldAddr 0 v4 fun v8 =>
  aLoad false 1 v8 h7 fun v9 =>
  aFieldAddr 1 v4 fun v10 =>
  aLoad true 15 v10 h7 fun v11 =>
  aCallT Tryz.prog (.p (.func runnellaw7_Of_i [])) [v11] fun v12 =>
  aFieldAddr 16 v4 fun v13 =>
  aLoad false 1 v13 h7 fun v14 =>
  aFieldAddr 17 v4 fun v15 =>
  aLoad false 1 v15 h7 fun v16 =>
  aFieldAddr 18 v4 fun v17 =>
  aLoad false 1 v17 h7 fun v18 =>
  aFieldAddr 19 v4 fun v19 =>
  aLoad false 1 v19 h7 fun v20 =>
  aFieldAddr 20 v4 fun v21 =>
  aLoad false 1 v21 h7 fun v22 =>
  aBuild [(.p (.str [])), (.p (.int .i64 0)), (.p (.str [])), (.p (.int .i64 0)), (.full []), (.full []), (.p (.str [])), (.p (.int .i64 0)), (.p (.int .i64 0)), (.p (.bool false)), (.p (.str [])), (.full []), (.p (.int .i64 0)), (.full []), (.p (.int .i64 0)), (.p (.int .i64 0)), (.full []), (.p (.int .i64 0)), (.p (.int .i64 0)), (.p (.str [])), (.p (.bool false))] [(0, 1, v9), (1, 15, v12), (16, 1, v14), (17, 1, v16), (18, 1, v18), (19, 1, v20), (20, 1, v22)] fun v23 =>
  aBuildSlice 21 [v23] fun v24 =>
  aCalm [y0, v24] <|
  aAppend false 21 288 y0 v24 h7 fun v25 h26 =>
  aBin false false .add y1 (.p (.int .i64 1)) fun v27 =>
  B1 [v25, v27] h26)
  (K y0 H)

def runnellaw8_Of (x0 : AV) (H : List Ob) (K : AV → List Ob → Prop) : Prop :=
  aLoopN 2 [(.full []), (.p (.int .i64 0))] H fun xs H B1 => runnellaw8_Of_L1 x0 (xs.getD 0 .top) (xs.getD 1 .top) H B1 K

def runnellaw8_Of_ann : Nat → List Nat := fun k => match k with | 3 => [3, 4] | _ => []

theorem runnellaw8_Of_eq (x0 : AV) (H : List Ob) (r : AV) (Ho : List Ob) : aBody Tryz.prog runnellaw8_Of_ann Tryz.f13 H [x0] r Ho = runnellaw8_Of x0 H (fun v H' => Gives H.length v H' r Ho) := by kernel_rfl

theorem runnellaw8_Of_fnH {x0 : AV} {Hin : List Ob} {r : AV} {Ho : List Ob} (h : runnellaw8_Of x0 Hin (fun v H' => Gives Hin.length v H' r Ho)) : Abs.Fn Tryz.prog runnellaw8_Of_i Hin [x0] r Ho :=
  fn_intro mixed runnellaw8_Of_ann (fn := Tryz.f13) (by kernel_rfl) (by kernel_rfl) (by rw [runnellaw8_Of_eq]; exact h)

theorem runnellaw8_Of_fn {x0 : AV} {r : AV} {Ho : List Ob} (h : runnellaw8_Of x0 [] (fun v H' => Gives 0 v H' r Ho)) : Abs.Fn Tryz.prog runnellaw8_Of_i [] [x0] r Ho := runnellaw8_Of_fnH (Hin := []) h

/- runnel/graph.which[runnel/graph.Node] -/
def graph_which_graph_Node_L1 (q1s1 q1s8 q1s9 y0 y1 : AV) (H : List Ob) (B1 : List AV → List Ob → Prop) (K : AV → List Ob → Prop) : Prop :=
  aBin false false .lss y1 q1s9 fun v1 =>
  aGuard v1
  (aIndexAddr 21 q1s8 y1 fun v2 =>
  aLoad true 21 v2 H fun v3 =>
  aAlloc [(.p (.str [])), (.p (.int .i64 0)), (.p (.str [])), (.p (.int .i64 0)), (.full []), (.full []), (.p (.str [])), (.p (.int .i64 0)), (.p (.int .i64 0)), (.p (.bool false)), (.p (.str [])), (.full []), (.p (.int .i64 0)), (.full []), (.p (.int .i64 0)), (.p (.int .i64 0)), (.full []), (.p (.int .i64 0)), (.p (.int .i64 0)), (.p (.str [])), (.p (.bool false))] H fun v4 h5 =>
  aStore 21 v4 v3 h5 fun _ h7 =>
  aLoad true 21 v4 h7 fun v8 =>
  aCall Tryz.prog q1s1 [v8] h7 fun v9 h10 =>
  aGuard v9
  (aBuildSlice 1 [y1] fun v11 =>
  aAppend false 1 8 y0 v11 h10 fun v12 h13 =>
  aBin false false .add y1 (.p (.int .i64 1)) fun v14 =>
  B1 [v12, v14] h13)
  (aBin false false .add y1 (.p (.int .i64 1)) fun v15 =>
  B1 [y0, v15] h10))
  (aCall Tryz.prog (.p (.func slices_Clip_int_int_i [])) [y0] H fun v16 h17 =>
  K v16 h17)

def graph_which_graph_Node (x0 x1 : AV) (H : List Ob) (K : AV → List Ob → Prop) : Prop :=
  aLen false false x0 fun v0 =>
  aLoopN 2 [(.full []), (.p (.int .i64 0))] H fun xs H B1 => graph_which_graph_Node_L1 x1 x0 v0 (xs.getD 0 .top) (xs.getD 1 .top) H B1 K

def graph_which_graph_Node_ann : Nat → List Nat := fun k => match k with | 3 => [5, 10] | _ => []

theorem graph_which_graph_Node_eq (x0 x1 : AV) (H : List Ob) (r : AV) (Ho : List Ob) : aBody Tryz.prog graph_which_graph_Node_ann Tryz.f14 H [x0, x1] r Ho = graph_which_graph_Node x0 x1 H (fun v H' => Gives H.length v H' r Ho) := by kernel_rfl

theorem graph_which_graph_Node_fnH {x0 x1 : AV} {Hin : List Ob} {r : AV} {Ho : List Ob} (h : graph_which_graph_Node x0 x1 Hin (fun v H' => Gives Hin.length v H' r Ho)) : Abs.Fn Tryz.prog graph_which_graph_Node_i Hin [x0, x1] r Ho :=
  fn_intro mixed graph_which_graph_Node_ann (fn := Tryz.f14) (by kernel_rfl) (by kernel_rfl) (by rw [graph_which_graph_Node_eq]; exact h)

theorem graph_which_graph_Node_fn {x0 x1 : AV} {r : AV} {Ho : List Ob} (h : graph_which_graph_Node x0 x1 [] (fun v H' => Gives 0 v H' r Ho)) : Abs.Fn Tryz.prog graph_which_graph_Node_i [] [x0, x1] r Ho := graph_which_graph_Node_fnH (Hin := []) h

/- runnel/graph.Outs$1 -/
def graph_Outs_1 (x0 x1 : AV) (H : List Ob) (K : AV → List Ob → Prop) : Prop :=
  aBox x0 H fun v0 h1 =>
  aFieldAddr 16 v0 fun v2 =>
  aLoad false 1 v2 h1 fun v3 =>
  aLoad false 1 x1 h1 fun v4 =>
  aCall Tryz.prog (.p (.func slices_Contains_int_int_i [])) [v3, v4] h1 fun v5 h6 =>
  K v5 h6

def graph_Outs_1_ann : Nat → List Nat := fun _ => []

theorem graph_Outs_1_eq (x0 x1 : AV) (H : List Ob) (r : AV) (Ho : List Ob) : aBody Tryz.prog graph_Outs_1_ann Tryz.f15 H [x0, x1] r Ho = graph_Outs_1 x0 x1 H (fun v H' => Gives H.length v H' r Ho) := by kernel_rfl

theorem graph_Outs_1_fnH {x0 x1 : AV} {Hin : List Ob} {r : AV} {Ho : List Ob} (h : graph_Outs_1 x0 x1 Hin (fun v H' => Gives Hin.length v H' r Ho)) : Abs.Fn Tryz.prog graph_Outs_1_i Hin [x0, x1] r Ho :=
  fn_intro mixed graph_Outs_1_ann (fn := Tryz.f15) (by kernel_rfl) (by kernel_rfl) (by rw [graph_Outs_1_eq]; exact h)

theorem graph_Outs_1_fn {x0 x1 : AV} {r : AV} {Ho : List Ob} (h : graph_Outs_1 x0 x1 [] (fun v H' => Gives 0 v H' r Ho)) : Abs.Fn Tryz.prog graph_Outs_1_i [] [x0, x1] r Ho := graph_Outs_1_fnH (Hin := []) h

/- (runnel/graph.Node).check (in pieces) -/
def graph_Node_check_ann : Nat → List Nat := fun k => match k with | 1000999999 => [1] | 2000001 => [1, 2, 3, 6, 9999] | 2000002 => [1, 2, 3, 6, 8, 9999] | 2000003 => [1, 2, 3, 6, 8, 9, 9999] | 2000004 => [1, 2, 3, 6, 8, 9, 14, 9999] | 2000005 => [1, 2, 3, 6, 8, 9, 14, 9999] | 2000007 => [1, 2, 3, 6, 9, 29, 9999] | 2000009 => [1, 2, 3, 6, 9, 39, 9999] | 2000010 => [1, 2, 3, 6, 9, 39, 9999] | 2000011 => [1, 2, 3, 6, 9, 39, 9999] | 2000012 => [1, 2, 3, 6, 9, 39, 9999] | 2000013 => [1, 2, 3, 6, 9, 39, 9999] | 2000014 => [1, 2, 3, 6, 9, 9999] | 2000015 => [1, 3, 6, 9, 10, 11, 9999] | 2000017 => [1, 3, 6, 9, 10, 11, 9999] | 2000019 => [6, 10, 11, 9999] | 3000015 => [1000] | _ => []
def graph_Node_check_cut : Nat → Bool := fun k => match k with | 1 => true | 2 => true | 3 => true | 4 => true | 5 => true | 7 => true | 9 => true | 10 => true | 11 => true | 12 => true | 13 => true | 14 => true | 15 => true | 17 => true | 19 => true | _ => false
noncomputable def graph_Node_check_c : Code := Tryz.f21.body.getD .skip
noncomputable def graph_Node_check_c1 : Code := (cr graph_Node_check_c)
noncomputable def graph_Node_check_c2 : Code := (cr (cr graph_Node_check_c))
noncomputable def graph_Node_check_c3 : Code := (cr (cr (cr graph_Node_check_c)))
noncomputable def graph_Node_check_c4 : Code := (cr (cl (cl (cl (cr (cr (cr graph_Node_check_c)))))))
noncomputable def graph_Node_check_c5 : Code := (cr (cl (cl (cr (cr (cr graph_Node_check_c))))))
noncomputable def graph_Node_check_c7 : Code := (cr (cr (cr (cl (cl (cr (cr (cr graph_Node_check_c))))))))
noncomputable def graph_Node_check_c9 : Code := (cr (cl (cr (cr (cr (cr (cl (cl (cr (cr (cr graph_Node_check_c)))))))))))
noncomputable def graph_Node_check_c10 : Code := (cr (cr (cr (cl (cr (cr (cr (cr (cl (cl (cr (cr (cr graph_Node_check_c)))))))))))))
noncomputable def graph_Node_check_c11 : Code := (cr (cr (cr (cr (cr (cl (cr (cr (cr (cr (cl (cl (cr (cr (cr graph_Node_check_c)))))))))))))))
noncomputable def graph_Node_check_c12 : Code := (cr (cr (cr (cr (cr (cr (cr (cl (cr (cr (cr (cr (cl (cl (cr (cr (cr graph_Node_check_c)))))))))))))))))
noncomputable def graph_Node_check_c13 : Code := (cr (cr (cr (cr (cr (cl (cl (cr (cr (cr graph_Node_check_c))))))))))
noncomputable def graph_Node_check_c14 : Code := (cr (cr (cr (cr graph_Node_check_c))))
noncomputable def graph_Node_check_c15 : Code := (cr (cr (cr (cr (cr graph_Node_check_c)))))
noncomputable def graph_Node_check_c17 : Code := (cr (cr (cr (cr (cr (cr graph_Node_check_c))))))
noncomputable def graph_Node_check_c19 : Code := (cr (cr (cr (cr (cr (cr (cr graph_Node_check_c)))))))

def graph_Node_check_P0 (j0 j1 j2 : AV) (H : List Ob) (self : Code → List AV → List Ob → Ko → Prop) (kp : Ko) : Prop :=
  aBox j0 H fun v0 h1 =>
  aAlloc [(.p (.int .i64 0)), (.full [])] h1 fun v2 h3 =>
  self graph_Node_check_c1 (keepS [1, 2, 3, 6, 9999] 0 (j0 :: j1 :: j2 :: v0 :: .top :: .top :: v2 :: (.p (.int .i64 0)) :: .top :: .top :: .top :: .top :: .top :: .top :: .top :: .top :: .top :: .top :: .top :: .top :: .top :: .top :: .top :: .top :: .top :: .top :: .top :: .top :: .top :: .top :: .top :: .top :: .top :: .top :: .top :: .top :: .top :: .top :: .top :: .top :: .top :: .top :: .top :: .top :: .top :: .top :: .top :: .top :: .top :: .top :: .top :: .top :: .top :: .top :: .top :: .top :: .top :: .top :: .top :: .top :: .top :: .top :: .top :: .top :: .top :: .top :: .top :: .top :: .top :: .top :: .top :: .top :: .top :: .top :: .top :: .top :: .top :: .top :: .top :: .top :: .top :: .top :: .top :: .top :: .top :: .top :: .top :: .top :: .top :: .top :: .top :: .top :: .top :: .top :: .top :: [])) h3 kp

theorem graph_Node_check_P0_x (j0 j1 j2 : AV) (H : List Ob) (self : Code → List AV → List Ob → Ko → Prop) (kp : Ko) : awpX Tryz.prog graph_Node_check_ann self graph_Node_check_cut graph_Node_check_c (j0 :: j1 :: j2 :: .top :: .top :: .top :: .top :: .top :: .top :: .top :: .top :: .top :: .top :: .top :: .top :: .top :: .top :: .top :: .top :: .top :: .top :: .top :: .top :: .top :: .top :: .top :: .top :: .top :: .top :: .top :: .top :: .top :: .top :: .top :: .top :: .top :: .top :: .top :: .top :: .top :: .top :: .top :: .top :: .top :: .top :: .top :: .top :: .top :: .top :: .top :: .top :: .top :: .top :: .top :: .top :: .top :: .top :: .top :: .top :: .top :: .top :: .top :: .top :: .top :: .top :: .top :: .top :: .top :: .top :: .top :: .top :: .top :: .top :: .top :: .top :: .top :: .top :: .top :: .top :: .top :: .top :: .top :: .top :: .top :: .top :: .top :: .top :: .top :: .top :: .top :: .top :: .top :: .top :: .top :: .top :: []) H kp = graph_Node_check_P0 j0 j1 j2 H self kp := by kernel_rfl

theorem graph_Node_check_c_eq (j0 j1 j2 : AV) (H : List Ob) (kp : Ko) : awp Tryz.prog graph_Node_check_ann graph_Node_check_c (j0 :: j1 :: j2 :: .top :: .top :: .top :: .top :: .top :: .top :: .top :: .top :: .top :: .top :: .top :: .top :: .top :: .top :: .top :: .top :: .top :: .top :: .top :: .top :: .top :: .top :: .top :: .top :: .top :: .top :: .top :: .top :: .top :: .top :: .top :: .top :: .top :: .top :: .top :: .top :: .top :: .top :: .top :: .top :: .top :: .top :: .top :: .top :: .top :: .top :: .top :: .top :: .top :: .top :: .top :: .top :: .top :: .top :: .top :: .top :: .top :: .top :: .top :: .top :: .top :: .top :: .top :: .top :: .top :: .top :: .top :: .top :: .top :: .top :: .top :: .top :: .top :: .top :: .top :: .top :: .top :: .top :: .top :: .top :: .top :: .top :: .top :: .top :: .top :: .top :: .top :: .top :: .top :: .top :: .top :: .top :: []) H kp = graph_Node_check_P0 j0 j1 j2 H (awp Tryz.prog graph_Node_check_ann) kp :=
  (awpX_eq Tryz.prog graph_Node_check_ann graph_Node_check_cut graph_Node_check_c (j0 :: j1 :: j2 :: .top :: .top :: .top :: .top :: .top :: .top :: .top :: .top :: .top :: .top :: .top :: .top :: .top :: .top :: .top :: .top :: .top :: .top :: .top :: .top :: .top :: .top :: .top :: .top :: .top :: .top :: .top :: .top :: .top :: .top :: .top :: .top :: .top :: .top :: .top :: .top :: .top :: .top :: .top :: .top :: .top :: .top :: .top :: .top :: .top :: .top :: .top :: .top :: .top :: .top :: .top :: .top :: .top :: .top :: .top :: .top :: .top :: .top :: .top :: .top :: .top :: .top :: .top :: .top :: .top :: .top :: .top :: .top :: .top :: .top :: .top :: .top :: .top :: .top :: .top :: .top :: .top :: .top :: .top :: .top :: .top :: .top :: .top :: .top :: .top :: .top :: .top :: .top :: .top :: .top :: .top :: .top :: []) H kp).symm.trans (graph_Node_check_P0_x j0 j1 j2 H (awp Tryz.prog graph_Node_check_ann) kp)

theorem graph_Node_check_end_ret (j0 j1 j2 j3 j4 j5 j6 j7 j8 j9 j10 j11 j12 j13 j14 j15 j16 j17 j18 j19 j20 j21 j22 j23 j24 j25 j26 j27 j28 j29 j30 j31 j32 j33 j34 j35 j36 j37 j38 j39 j40 j41 j42 j43 j44 j45 j46 j47 j48 j49 j50 j51 j52 j53 j54 j55 j56 j57 j58 j59 j60 j61 j62 j63 j64 j65 j66 j67 j68 j69 j70 j71 j72 j73 j74 j75 j76 j77 j78 j79 j80 j81 j82 j83 j84 j85 j86 j87 j88 j89 j90 j91 j92 j93 j94 : AV) (H : List Ob) (K : AV → List Ob → Prop) : kEnd Tryz.prog [.cell 6 30, .tmp 7] K .ret (j0 :: j1 :: j2 :: j3 :: j4 :: j5 :: j6 :: j7 :: j8 :: j9 :: j10 :: j11 :: j12 :: j13 :: j14 :: j15 :: j16 :: j17 :: j18 :: j19 :: j20 :: j21 :: j22 :: j23 :: j24 :: j25 :: j26 :: j27 :: j28 :: j29 :: j30 :: j31 :: j32 :: j33 :: j34 :: j35 :: j36 :: j37 :: j38 :: j39 :: j40 :: j41 :: j42 :: j43 :: j44 :: j45 :: j46 :: j47 :: j48 :: j49 :: j50 :: j51 :: j52 :: j53 :: j54 :: j55 :: j56 :: j57 :: j58 :: j59 :: j60 :: j61 :: j62 :: j63 :: j64 :: j65 :: j66 :: j67 :: j68 :: j69 :: j70 :: j71 :: j72 :: j73 :: j74 :: j75 :: j76 :: j77 :: j78 :: j79 :: j80 :: j81 :: j82 :: j83 :: j84 :: j85 :: j86 :: j87 :: j88 :: j89 :: j90 :: j91 :: j92 :: j93 :: j94 :: []) H = (aLoad true 2 j6 H fun v0 =>
  K (.tup [v0, j7]) H) := by kernel_rfl

theorem graph_Node_check_end_normal (j0 j1 j2 j3 j4 j5 j6 j7 j8 j9 j10 j11 j12 j13 j14 j15 j16 j17 j18 j19 j20 j21 j22 j23 j24 j25 j26 j27 j28 j29 j30 j31 j32 j33 j34 j35 j36 j37 j38 j39 j40 j41 j42 j43 j44 j45 j46 j47 j48 j49 j50 j51 j52 j53 j54 j55 j56 j57 j58 j59 j60 j61 j62 j63 j64 j65 j66 j67 j68 j69 j70 j71 j72 j73 j74 j75 j76 j77 j78 j79 j80 j81 j82 j83 j84 j85 j86 j87 j88 j89 j90 j91 j92 j93 j94 : AV) (H : List Ob) (K : AV → List Ob → Prop) : kEnd Tryz.prog [.cell 6 30, .tmp 7] K .normal (j0 :: j1 :: j2 :: j3 :: j4 :: j5 :: j6 :: j7 :: j8 :: j9 :: j10 :: j11 :: j12 :: j13 :: j14 :: j15 :: j16 :: j17 :: j18 :: j19 :: j20 :: j21 :: j22 :: j23 :: j24 :: j25 :: j26 :: j27 :: j28 :: j29 :: j30 :: j31 :: j32 :: j33 :: j34 :: j35 :: j36 :: j37 :: j38 :: j39 :: j40 :: j41 :: j42 :: j43 :: j44 :: j45 :: j46 :: j47 :: j48 :: j49 :: j50 :: j51 :: j52 :: j53 :: j54 :: j55 :: j56 :: j57 :: j58 :: j59 :: j60 :: j61 :: j62 :: j63 :: j64 :: j65 :: j66 :: j67 :: j68 :: j69 :: j70 :: j71 :: j72 :: j73 :: j74 :: j75 :: j76 :: j77 :: j78 :: j79 :: j80 :: j81 :: j82 :: j83 :: j84 :: j85 :: j86 :: j87 :: j88 :: j89 :: j90 :: j91 :: j92 :: j93 :: j94 :: []) H = (aLoad true 2 j6 H fun v0 =>
  K (.tup [v0, j7]) H) := by kernel_rfl

theorem graph_Node_check_eq (j0 j1 j2 : AV) (H : List Ob) (r : AV) (Ho : List Ob) : aBody Tryz.prog graph_Node_check_ann Tryz.f21 H [j0, j1, j2] r Ho = graph_Node_check_P0 j0 j1 j2 H (awp Tryz.prog graph_Node_check_ann) (kEnd Tryz.prog [.cell 6 30, .tmp 7] fun v H' => Gives H.length v H' r Ho) :=
  (show aBody Tryz.prog graph_Node_check_ann Tryz.f21 H [j0, j1, j2] r Ho = awp Tryz.prog graph_Node_check_ann graph_Node_check_c (j0 :: j1 :: j2 :: .top :: .top :: .top :: .top :: .top :: .top :: .top :: .top :: .top :: .top :: .top :: .top :: .top :: .top :: .top :: .top :: .top :: .top :: .top :: .top :: .top :: .top :: .top :: .top :: .top :: .top :: .top :: .top :: .top :: .top :: .top :: .top :: .top :: .top :: .top :: .top :: .top :: .top :: .top :: .top :: .top :: .top :: .top :: .top :: .top :: .top :: .top :: .top :: .top :: .top :: .top :: .top :: .top :: .top :: .top :: .top :: .top :: .top :: .top :: .top :: .top :: .top :: .top :: .top :: .top :: .top :: .top :: .top :: .top :: .top :: .top :: .top :: .top :: .top :: .top :: .top :: .top :: .top :: .top :: .top :: .top :: .top :: .top :: .top :: .top :: .top :: .top :: .top :: .top :: .top :: .top :: .top :: []) H (kEnd Tryz.prog [.cell 6 30, .tmp 7] fun v H' => Gives H.length v H' r Ho) from by kernel_rfl).trans (graph_Node_check_c_eq j0 j1 j2 H _)

theorem graph_Node_check_fn {j0 j1 j2 : AV} {r : AV} {Ho : List Ob} (h : graph_Node_check_P0 j0 j1 j2 [] (awp Tryz.prog graph_Node_check_ann) (kEnd Tryz.prog [.cell 6 30, .tmp 7] fun v H' => Gives 0 v H' r Ho)) : Abs.Fn Tryz.prog graph_Node_check_i [] [j0, j1, j2] r Ho :=
  fn_intro mixed graph_Node_check_ann (fn := Tryz.f21) (by kernel_rfl) (by kernel_rfl) (by rw [graph_Node_check_eq]; exact h)

def graph_Node_check_P1 (j1 j2 j3 j6 : AV) (H : List Ob) (self : Code → List AV → List Ob → Ko → Prop) (kp : Ko) : Prop :=
  aMakeFunc graph_Node_check_1_i [j3] H fun v4 h5 =>
  self graph_Node_check_c2 (keepS [1, 2, 3, 6, 8, 9999] 0 (.top :: j1 :: j2 :: j3 :: .top :: .top :: j6 :: .top :: v4 :: .top :: .top :: .top :: v4 :: .top :: .top :: .top :: .top :: .top :: .top :: .top :: .top :: .top :: .top :: .top :: .top :: .top :: .top :: .top :: .top :: .top :: .top :: .top :: .top :: .top :: .top :: .top :: .top :: .top :: .top :: .top :: .top :: .top :: .top :: .top :: .top :: .top :: .top :: .top :: .top :: .top :: .top :: .top :: .top :: .top :: .top :: .top :: .top :: .top :: .top :: .top :: .top :: .top :: .top :: .top :: .top :: .top :: .top :: .top :: .top :: .top :: .top :: .top :: .top :: .top :: .top :: .top :: .top :: .top :: .top :: .top :: .top :: .top :: .top :: .top :: .top :: .top :: .top :: .top :: .top :: .top :: .top :: .top :: .top :: .top :: .top :: [])) h5 kp

theorem graph_Node_check_P1_x (j0 j1 j2 j3 j4 j5 j6 j7 j8 j9 j10 j11 j12 j13 j14 j15 j16 j17 j18 j19 j20 j21 j22 j23 j24 j25 j26 j27 j28 j29 j30 j31 j32 j33 j34 j35 j36 j37 j38 j39 j40 j41 j42 j43 j44 j45 j46 j47 j48 j49 j50 j51 j52 j53 j54 j55 j56 j57 j58 j59 j60 j61 j62 j63 j64 j65 j66 j67 j68 j69 j70 j71 j72 j73 j74 j75 j76 j77 j78 j79 j80 j81 j82 j83 j84 j85 j86 j87 j88 j89 j90 j91 j92 j93 j94 : AV) (H : List Ob) (self : Code → List AV → List Ob → Ko → Prop) (kp : Ko) : awpX Tryz.prog graph_Node_check_ann self graph_Node_check_cut graph_Node_check_c1 (keepS [1, 2, 3, 6, 9999] 0 (j0 :: j1 :: j2 :: j3 :: j4 :: j5 :: j6 :: j7 :: j8 :: j9 :: j10 :: j11 :: j12 :: j13 :: j14 :: j15 :: j16 :: j17 :: j18 :: j19 :: j20 :: j21 :: j22 :: j23 :: j24 :: j25 :: j26 :: j27 :: j28 :: j29 :: j30 :: j31 :: j32 :: j33 :: j34 :: j35 :: j36 :: j37 :: j38 :: j39 :: j40 :: j41 :: j42 :: j43 :: j44 :: j45 :: j46 :: j47 :: j48 :: j49 :: j50 :: j51 :: j52 :: j53 :: j54 :: j55 :: j56 :: j57 :: j58 :: j59 :: j60 :: j61 :: j62 :: j63 :: j64 :: j65 :: j66 :: j67 :: j68 :: j69 :: j70 :: j71 :: j72 :: j73 :: j74 :: j75 :: j76 :: j77 :: j78 :: j79 :: j80 :: j81 :: j82 :: j83 :: j84 :: j85 :: j86 :: j87 :: j88 :: j89 :: j90 :: j91 :: j92 :: j93 :: j94 :: [])) H kp = graph_Node_check_P1 j1 j2 j3 j6 H self kp := by kernel_rfl

theorem graph_Node_check_c1_eq (j0 j1 j2 j3 j4 j5 j6 j7 j8 j9 j10 j11 j12 j13 j14 j15 j16 j17 j18 j19 j20 j21 j22 j23 j24 j25 j26 j27 j28 j29 j30 j31 j32 j33 j34 j35 j36 j37 j38 j39 j40 j41 j42 j43 j44 j45 j46 j47 j48 j49 j50 j51 j52 j53 j54 j55 j56 j57 j58 j59 j60 j61 j62 j63 j64 j65 j66 j67 j68 j69 j70 j71 j72 j73 j74 j75 j76 j77 j78 j79 j80 j81 j82 j83 j84 j85 j86 j87 j88 j89 j90 j91 j92 j93 j94 : AV) (H : List Ob) (kp : Ko) : awp Tryz.prog graph_Node_check_ann graph_Node_check_c1 (keepS [1, 2, 3, 6, 9999] 0 (j0 :: j1 :: j2 :: j3 :: j4 :: j5 :: j6 :: j7 :: j8 :: j9 :: j10 :: j11 :: j12 :: j13 :: j14 :: j15 :: j16 :: j17 :: j18 :: j19 :: j20 :: j21 :: j22 :: j23 :: j24 :: j25 :: j26 :: j27 :: j28 :: j29 :: j30 :: j31 :: j32 :: j33 :: j34 :: j35 :: j36 :: j37 :: j38 :: j39 :: j40 :: j41 :: j42 :: j43 :: j44 :: j45 :: j46 :: j47 :: j48 :: j49 :: j50 :: j51 :: j52 :: j53 :: j54 :: j55 :: j56 :: j57 :: j58 :: j59 :: j60 :: j61 :: j62 :: j63 :: j64 :: j65 :: j66 :: j67 :: j68 :: j69 :: j70 :: j71 :: j72 :: j73 :: j74 :: j75 :: j76 :: j77 :: j78 :: j79 :: j80 :: j81 :: j82 :: j83 :: j84 :: j85 :: j86 :: j87 :: j88 :: j89 :: j90 :: j91 :: j92 :: j93 :: j94 :: [])) H kp = graph_Node_check_P1 j1 j2 j3 j6 H (awp Tryz.prog graph_Node_check_ann) kp :=
  (awpX_eq Tryz.prog graph_Node_check_ann graph_Node_check_cut graph_Node_check_c1 (keepS [1, 2, 3, 6, 9999] 0 (j0 :: j1 :: j2 :: j3 :: j4 :: j5 :: j6 :: j7 :: j8 :: j9 :: j10 :: j11 :: j12 :: j13 :: j14 :: j15 :: j16 :: j17 :: j18 :: j19 :: j20 :: j21 :: j22 :: j23 :: j24 :: j25 :: j26 :: j27 :: j28 :: j29 :: j30 :: j31 :: j32 :: j33 :: j34 :: j35 :: j36 :: j37 :: j38 :: j39 :: j40 :: j41 :: j42 :: j43 :: j44 :: j45 :: j46 :: j47 :: j48 :: j49 :: j50 :: j51 :: j52 :: j53 :: j54 :: j55 :: j56 :: j57 :: j58 :: j59 :: j60 :: j61 :: j62 :: j63 :: j64 :: j65 :: j66 :: j67 :: j68 :: j69 :: j70 :: j71 :: j72 :: j73 :: j74 :: j75 :: j76 :: j77 :: j78 :: j79 :: j80 :: j81 :: j82 :: j83 :: j84 :: j85 :: j86 :: j87 :: j88 :: j89 :: j90 :: j91 :: j92 :: j93 :: j94 :: [])) H kp).symm.trans (graph_Node_check_P1_x j0 j1 j2 j3 j4 j5 j6 j7 j8 j9 j10 j11 j12 j13 j14 j15 j16 j17 j18 j19 j20 j21 j22 j23 j24 j25 j26 j27 j28 j29 j30 j31 j32 j33 j34 j35 j36 j37 j38 j39 j40 j41 j42 j43 j44 j45 j46 j47 j48 j49 j50 j51 j52 j53 j54 j55 j56 j57 j58 j59 j60 j61 j62 j63 j64 j65 j66 j67 j68 j69 j70 j71 j72 j73 j74 j75 j76 j77 j78 j79 j80 j81 j82 j83 j84 j85 j86 j87 j88 j89 j90 j91 j92 j93 j94 H (awp Tryz.prog graph_Node_check_ann) kp)

def graph_Node_check_P2 (j1 j2 j3 j6 j8 : AV) (H : List Ob) (self : Code → List AV → List Ob → Ko → Prop) (kp : Ko) : Prop :=
  aMakeFunc graph_Node_check_2_i [j3] H fun v6 h7 =>
  self graph_Node_check_c3 (keepS [1, 2, 3, 6, 8, 9, 9999] 0 (.top :: j1 :: j2 :: j3 :: .top :: .top :: j6 :: .top :: j8 :: v6 :: .top :: .top :: .top :: v6 :: .top :: .top :: .top :: .top :: .top :: .top :: .top :: .top :: .top :: .top :: .top :: .top :: .top :: .top :: .top :: .top :: .top :: .top :: .top :: .top :: .top :: .top :: .top :: .top :: .top :: .top :: .top :: .top :: .top :: .top :: .top :: .top :: .top :: .top :: .top :: .top :: .top :: .top :: .top :: .top :: .top :: .top :: .top :: .top :: .top :: .top :: .top :: .top :: .top :: .top :: .top :: .top :: .top :: .top :: .top :: .top :: .top :: .top :: .top :: .top :: .top :: .top :: .top :: .top :: .top :: .top :: .top :: .top :: .top :: .top :: .top :: .top :: .top :: .top :: .top :: .top :: .top :: .top :: .top :: .top :: .top :: [])) h7 kp

theorem graph_Node_check_P2_x (j0 j1 j2 j3 j4 j5 j6 j7 j8 j9 j10 j11 j12 j13 j14 j15 j16 j17 j18 j19 j20 j21 j22 j23 j24 j25 j26 j27 j28 j29 j30 j31 j32 j33 j34 j35 j36 j37 j38 j39 j40 j41 j42 j43 j44 j45 j46 j47 j48 j49 j50 j51 j52 j53 j54 j55 j56 j57 j58 j59 j60 j61 j62 j63 j64 j65 j66 j67 j68 j69 j70 j71 j72 j73 j74 j75 j76 j77 j78 j79 j80 j81 j82 j83 j84 j85 j86 j87 j88 j89 j90 j91 j92 j93 j94 : AV) (H : List Ob) (self : Code → List AV → List Ob → Ko → Prop) (kp : Ko) : awpX Tryz.prog graph_Node_check_ann self graph_Node_check_cut graph_Node_check_c2 (keepS [1, 2, 3, 6, 8, 9999] 0 (j0 :: j1 :: j2 :: j3 :: j4 :: j5 :: j6 :: j7 :: j8 :: j9 :: j10 :: j11 :: j12 :: j13 :: j14 :: j15 :: j16 :: j17 :: j18 :: j19 :: j20 :: j21 :: j22 :: j23 :: j24 :: j25 :: j26 :: j27 :: j28 :: j29 :: j30 :: j31 :: j32 :: j33 :: j34 :: j35 :: j36 :: j37 :: j38 :: j39 :: j40 :: j41 :: j42 :: j43 :: j44 :: j45 :: j46 :: j47 :: j48 :: j49 :: j50 :: j51 :: j52 :: j53 :: j54 :: j55 :: j56 :: j57 :: j58 :: j59 :: j60 :: j61 :: j62 :: j63 :: j64 :: j65 :: j66 :: j67 :: j68 :: j69 :: j70 :: j71 :: j72 :: j73 :: j74 :: j75 :: j76 :: j77 :: j78 :: j79 :: j80 :: j81 :: j82 :: j83 :: j84 :: j85 :: j86 :: j87 :: j88 :: j89 :: j90 :: j91 :: j92 :: j93 :: j94 :: [])) H kp = graph_Node_check_P2 j1 j2 j3 j6 j8 H self kp := by kernel_rfl

theorem graph_Node_check_c2_eq (j0 j1 j2 j3 j4 j5 j6 j7 j8 j9 j10 j11 j12 j13 j14 j15 j16 j17 j18 j19 j20 j21 j22 j23 j24 j25 j26 j27 j28 j29 j30 j31 j32 j33 j34 j35 j36 j37 j38 j39 j40 j41 j42 j43 j44 j45 j46 j47 j48 j49 j50 j51 j52 j53 j54 j55 j56 j57 j58 j59 j60 j61 j62 j63 j64 j65 j66 j67 j68 j69 j70 j71 j72 j73 j74 j75 j76 j77 j78 j79 j80 j81 j82 j83 j84 j85 j86 j87 j88 j89 j90 j91 j92 j93 j94 : AV) (H : List Ob) (kp : Ko) : awp Tryz.prog graph_Node_check_ann graph_Node_check_c2 (keepS [1, 2, 3, 6, 8, 9999] 0 (j0 :: j1 :: j2 :: j3 :: j4 :: j5 :: j6 :: j7 :: j8 :: j9 :: j10 :: j11 :: j12 :: j13 :: j14 :: j15 :: j16 :: j17 :: j18 :: j19 :: j20 :: j21 :: j22 :: j23 :: j24 :: j25 :: j26 :: j27 :: j28 :: j29 :: j30 :: j31 :: j32 :: j33 :: j34 :: j35 :: j36 :: j37 :: j38 :: j39 :: j40 :: j41 :: j42 :: j43 :: j44 :: j45 :: j46 :: j47 :: j48 :: j49 :: j50 :: j51 :: j52 :: j53 :: j54 :: j55 :: j56 :: j57 :: j58 :: j59 :: j60 :: j61 :: j62 :: j63 :: j64 :: j65 :: j66 :: j67 :: j68 :: j69 :: j70 :: j71 :: j72 :: j73 :: j74 :: j75 :: j76 :: j77 :: j78 :: j79 :: j80 :: j81 :: j82 :: j83 :: j84 :: j85 :: j86 :: j87 :: j88 :: j89 :: j90 :: j91 :: j92 :: j93 :: j94 :: [])) H kp = graph_Node_check_P2 j1 j2 j3 j6 j8 H (awp Tryz.prog graph_Node_check_ann) kp :=
  (awpX_eq Tryz.prog graph_Node_check_ann graph_Node_check_cut graph_Node_check_c2 (keepS [1, 2, 3, 6, 8, 9999] 0 (j0 :: j1 :: j2 :: j3 :: j4 :: j5 :: j6 :: j7 :: j8 :: j9 :: j10 :: j11 :: j12 :: j13 :: j14 :: j15 :: j16 :: j17 :: j18 :: j19 :: j20 :: j21 :: j22 :: j23 :: j24 :: j25 :: j26 :: j27 :: j28 :: j29 :: j30 :: j31 :: j32 :: j33 :: j34 :: j35 :: j36 :: j37 :: j38 :: j39 :: j40 :: j41 :: j42 :: j43 :: j44 :: j45 :: j46 :: j47 :: j48 :: j49 :: j50 :: j51 :: j52 :: j53 :: j54 :: j55 :: j56 :: j57 :: j58 :: j59 :: j60 :: j61 :: j62 :: j63 :: j64 :: j65 :: j66 :: j67 :: j68 :: j69 :: j70 :: j71 :: j72 :: j73 :: j74 :: j75 :: j76 :: j77 :: j78 :: j79 :: j80 :: j81 :: j82 :: j83 :: j84 :: j85 :: j86 :: j87 :: j88 :: j89 :: j90 :: j91 :: j92 :: j93 :: j94 :: [])) H kp).symm.trans (graph_Node_check_P2_x j0 j1 j2 j3 j4 j5 j6 j7 j8 j9 j10 j11 j12 j13 j14 j15 j16 j17 j18 j19 j20 j21 j22 j23 j24 j25 j26 j27 j28 j29 j30 j31 j32 j33 j34 j35 j36 j37 j38 j39 j40 j41 j42 j43 j44 j45 j46 j47 j48 j49 j50 j51 j52 j53 j54 j55 j56 j57 j58 j59 j60 j61 j62 j63 j64 j65 j66 j67 j68 j69 j70 j71 j72 j73 j74 j75 j76 j77 j78 j79 j80 j81 j82 j83 j84 j85 j86 j87 j88 j89 j90 j91 j92 j93 j94 H (awp Tryz.prog graph_Node_check_ann) kp)

def graph_Node_check_P3 (j1 j2 j3 j6 j8 j9 : AV) (H : List Ob) (self : Code → List AV → List Ob → Ko → Prop) (kp : Ko) : Prop :=
  aFieldAddr 0 j3 fun v8 =>
  aLoad false 1 v8 H fun v9 =>
  aBin false false .neq v9 (.p (.str [])) fun v10 =>
  aMerge true v10 (fun Q11 =>
  aFieldAddr 0 j3 fun v12 =>
  aLoad false 1 v12 H fun v13 =>
  aCall Tryz.prog (.p (.func op_Name_i [])) [v13] H fun v14 h15 =>
  aUn .not v14 fun v16 =>
  (h15 = H ∧ Q11 v16)) fun v17 =>
  self graph_Node_check_c4 (keepS [1, 2, 3, 6, 8, 9, 14, 9999] 0 (.top :: j1 :: j2 :: j3 :: .top :: .top :: j6 :: .top :: j8 :: j9 :: .top :: .top :: .top :: .top :: v17 :: v8 :: v9 :: v10 :: v10 :: .top :: .top :: .top :: .top :: v17 :: .top :: .top :: .top :: .top :: .top :: .top :: .top :: .top :: .top :: .top :: .top :: .top :: .top :: .top :: .top :: .top :: .top :: .top :: .top :: .top :: .top :: .top :: .top :: .top :: .top :: .top :: .top :: .top :: .top :: .top :: .top :: .top :: .top :: .top :: .top :: .top :: .top :: .top :: .top :: .top :: .top :: .top :: .top :: .top :: .top :: .top :: .top :: .top :: .top :: .top :: .top :: .top :: .top :: .top :: .top :: .top :: .top :: .top :: .top :: .top :: .top :: .top :: .top :: .top :: .top :: .top :: .top :: .top :: .top :: .top :: .top :: [])) H (kSeq self graph_Node_check_c5 [1, 2, 3, 6, 8, 9, 14, 9999] (kBlock 0 (kSeq self graph_Node_check_c14 [1, 2, 3, 6, 9, 9999] kp)))

theorem graph_Node_check_P3_x (j0 j1 j2 j3 j4 j5 j6 j7 j8 j9 j10 j11 j12 j13 j14 j15 j16 j17 j18 j19 j20 j21 j22 j23 j24 j25 j26 j27 j28 j29 j30 j31 j32 j33 j34 j35 j36 j37 j38 j39 j40 j41 j42 j43 j44 j45 j46 j47 j48 j49 j50 j51 j52 j53 j54 j55 j56 j57 j58 j59 j60 j61 j62 j63 j64 j65 j66 j67 j68 j69 j70 j71 j72 j73 j74 j75 j76 j77 j78 j79 j80 j81 j82 j83 j84 j85 j86 j87 j88 j89 j90 j91 j92 j93 j94 : AV) (H : List Ob) (self : Code → List AV → List Ob → Ko → Prop) (kp : Ko) : awpX Tryz.prog graph_Node_check_ann self graph_Node_check_cut graph_Node_check_c3 (keepS [1, 2, 3, 6, 8, 9, 9999] 0 (j0 :: j1 :: j2 :: j3 :: j4 :: j5 :: j6 :: j7 :: j8 :: j9 :: j10 :: j11 :: j12 :: j13 :: j14 :: j15 :: j16 :: j17 :: j18 :: j19 :: j20 :: j21 :: j22 :: j23 :: j24 :: j25 :: j26 :: j27 :: j28 :: j29 :: j30 :: j31 :: j32 :: j33 :: j34 :: j35 :: j36 :: j37 :: j38 :: j39 :: j40 :: j41 :: j42 :: j43 :: j44 :: j45 :: j46 :: j47 :: j48 :: j49 :: j50 :: j51 :: j52 :: j53 :: j54 :: j55 :: j56 :: j57 :: j58 :: j59 :: j60 :: j61 :: j62 :: j63 :: j64 :: j65 :: j66 :: j67 :: j68 :: j69 :: j70 :: j71 :: j72 :: j73 :: j74 :: j75 :: j76 :: j77 :: j78 :: j79 :: j80 :: j81 :: j82 :: j83 :: j84 :: j85 :: j86 :: j87 :: j88 :: j89 :: j90 :: j91 :: j92 :: j93 :: j94 :: [])) H kp = graph_Node_check_P3 j1 j2 j3 j6 j8 j9 H self kp := by kernel_rfl

theorem graph_Node_check_c3_eq (j0 j1 j2 j3 j4 j5 j6 j7 j8 j9 j10 j11 j12 j13 j14 j15 j16 j17 j18 j19 j20 j21 j22 j23 j24 j25 j26 j27 j28 j29 j30 j31 j32 j33 j34 j35 j36 j37 j38 j39 j40 j41 j42 j43 j44 j45 j46 j47 j48 j49 j50 j51 j52 j53 j54 j55 j56 j57 j58 j59 j60 j61 j62 j63 j64 j65 j66 j67 j68 j69 j70 j71 j72 j73 j74 j75 j76 j77 j78 j79 j80 j81 j82 j83 j84 j85 j86 j87 j88 j89 j90 j91 j92 j93 j94 : AV) (H : List Ob) (kp : Ko) : awp Tryz.prog graph_Node_check_ann graph_Node_check_c3 (keepS [1, 2, 3, 6, 8, 9, 9999] 0 (j0 :: j1 :: j2 :: j3 :: j4 :: j5 :: j6 :: j7 :: j8 :: j9 :: j10 :: j11 :: j12 :: j13 :: j14 :: j15 :: j16 :: j17 :: j18 :: j19 :: j20 :: j21 :: j22 :: j23 :: j24 :: j25 :: j26 :: j27 :: j28 :: j29 :: j30 :: j31 :: j32 :: j33 :: j34 :: j35 :: j36 :: j37 :: j38 :: j39 :: j40 :: j41 :: j42 :: j43 :: j44 :: j45 :: j46 :: j47 :: j48 :: j49 :: j50 :: j51 :: j52 :: j53 :: j54 :: j55 :: j56 :: j57 :: j58 :: j59 :: j60 :: j61 :: j62 :: j63 :: j64 :: j65 :: j66 :: j67 :: j68 :: j69 :: j70 :: j71 :: j72 :: j73 :: j74 :: j75 :: j76 :: j77 :: j78 :: j79 :: j80 :: j81 :: j82 :: j83 :: j84 :: j85 :: j86 :: j87 :: j88 :: j89 :: j90 :: j91 :: j92 :: j93 :: j94 :: [])) H kp = graph_Node_check_P3 j1 j2 j3 j6 j8 j9 H (awp Tryz.prog graph_Node_check_ann) kp :=
  (awpX_eq Tryz.prog graph_Node_check_ann graph_Node_check_cut graph_Node_check_c3 (keepS [1, 2, 3, 6, 8, 9, 9999] 0 (j0 :: j1 :: j2 :: j3 :: j4 :: j5 :: j6 :: j7 :: j8 :: j9 :: j10 :: j11 :: j12 :: j13 :: j14 :: j15 :: j16 :: j17 :: j18 :: j19 :: j20 :: j21 :: j22 :: j23 :: j24 :: j25 :: j26 :: j27 :: j28 :: j29 :: j30 :: j31 :: j32 :: j33 :: j34 :: j35 :: j36 :: j37 :: j38 :: j39 :: j40 :: j41 :: j42 :: j43 :: j44 :: j45 :: j46 :: j47 :: j48 :: j49 :: j50 :: j51 :: j52 :: j53 :: j54 :: j55 :: j56 :: j57 :: j58 :: j59 :: j60 :: j61 :: j62 :: j63 :: j64 :: j65 :: j66 :: j67 :: j68 :: j69 :: j70 :: j71 :: j72 :: j73 :: j74 :: j75 :: j76 :: j77 :: j78 :: j79 :: j80 :: j81 :: j82 :: j83 :: j84 :: j85 :: j86 :: j87 :: j88 :: j89 :: j90 :: j91 :: j92 :: j93 :: j94 :: [])) H kp).symm.trans (graph_Node_check_P3_x j0 j1 j2 j3 j4 j5 j6 j7 j8 j9 j10 j11 j12 j13 j14 j15 j16 j17 j18 j19 j20 j21 j22 j23 j24 j25 j26 j27 j28 j29 j30 j31 j32 j33 j34 j35 j36 j37 j38 j39 j40 j41 j42 j43 j44 j45 j46 j47 j48 j49 j50 j51 j52 j53 j54 j55 j56 j57 j58 j59 j60 j61 j62 j63 j64 j65 j66 j67 j68 j69 j70 j71 j72 j73 j74 j75 j76 j77 j78 j79 j80 j81 j82 j83 j84 j85 j86 j87 j88 j89 j90 j91 j92 j93 j94 H (awp Tryz.prog graph_Node_check_ann) kp)

def graph_Node_check_P4 (j1 j2 j3 j6 j8 j9 j14 : AV) (H : List Ob) (_ : Code → List AV → List Ob → Ko → Prop) (kp : Ko) : Prop :=
  aGuard j14
  (kp .normal (.top :: j1 :: j2 :: j3 :: .top :: .top :: j6 :: .top :: j8 :: j9 :: .top :: .top :: .top :: .top :: (.p (.bool true)) :: .top :: .top :: .top :: .top :: .top :: .top :: .top :: .top :: .top :: .top :: .top :: .top :: .top :: .top :: .top :: .top :: .top :: .top :: .top :: .top :: .top :: .top :: .top :: .top :: .top :: .top :: .top :: .top :: .top :: .top :: .top :: .top :: .top :: .top :: .top :: .top :: .top :: .top :: .top :: .top :: .top :: .top :: .top :: .top :: .top :: .top :: .top :: .top :: .top :: .top :: .top :: .top :: .top :: .top :: .top :: .top :: .top :: .top :: .top :: .top :: .top :: .top :: .top :: .top :: .top :: .top :: .top :: .top :: .top :: .top :: .top :: .top :: .top :: .top :: .top :: .top :: .top :: .top :: .top :: .top :: []) H)
  (aFieldAddr 19 j3 fun v18 =>
  aLoad false 1 v18 H fun v19 =>
  aCall Tryz.prog (.p (.func op_Name_i [])) [v19] H fun v20 h21 =>
  aUn .not v20 fun v22 =>
  kp .normal (.top :: j1 :: j2 :: j3 :: .top :: .top :: j6 :: .top :: j8 :: j9 :: .top :: .top :: .top :: .top :: v22 :: .top :: .top :: .top :: .top :: .top :: .top :: .top :: .top :: .top :: v18 :: v19 :: v20 :: v22 :: .top :: .top :: .top :: .top :: .top :: .top :: .top :: .top :: .top :: .top :: .top :: .top :: .top :: .top :: .top :: .top :: .top :: .top :: .top :: .top :: .top :: .top :: .top :: .top :: .top :: .top :: .top :: .top :: .top :: .top :: .top :: .top :: .top :: .top :: .top :: .top :: .top :: .top :: .top :: .top :: .top :: .top :: .top :: .top :: .top :: .top :: .top :: .top :: .top :: .top :: .top :: .top :: .top :: .top :: .top :: .top :: .top :: .top :: .top :: .top :: .top :: .top :: .top :: .top :: .top :: .top :: .top :: []) h21)

theorem graph_Node_check_P4_x (j0 j1 j2 j3 j4 j5 j6 j7 j8 j9 j10 j11 j12 j13 j14 j15 j16 j17 j18 j19 j20 j21 j22 j23 j24 j25 j26 j27 j28 j29 j30 j31 j32 j33 j34 j35 j36 j37 j38 j39 j40 j41 j42 j43 j44 j45 j46 j47 j48 j49 j50 j51 j52 j53 j54 j55 j56 j57 j58 j59 j60 j61 j62 j63 j64 j65 j66 j67 j68 j69 j70 j71 j72 j73 j74 j75 j76 j77 j78 j79 j80 j81 j82 j83 j84 j85 j86 j87 j88 j89 j90 j91 j92 j93 j94 : AV) (H : List Ob) (self : Code → List AV → List Ob → Ko → Prop) (kp : Ko) : awpX Tryz.prog graph_Node_check_ann self graph_Node_check_cut graph_Node_check_c4 (keepS [1, 2, 3, 6, 8, 9, 14, 9999] 0 (j0 :: j1 :: j2 :: j3 :: j4 :: j5 :: j6 :: j7 :: j8 :: j9 :: j10 :: j11 :: j12 :: j13 :: j14 :: j15 :: j16 :: j17 :: j18 :: j19 :: j20 :: j21 :: j22 :: j23 :: j24 :: j25 :: j26 :: j27 :: j28 :: j29 :: j30 :: j31 :: j32 :: j33 :: j34 :: j35 :: j36 :: j37 :: j38 :: j39 :: j40 :: j41 :: j42 :: j43 :: j44 :: j45 :: j46 :: j47 :: j48 :: j49 :: j50 :: j51 :: j52 :: j53 :: j54 :: j55 :: j56 :: j57 :: j58 :: j59 :: j60 :: j61 :: j62 :: j63 :: j64 :: j65 :: j66 :: j67 :: j68 :: j69 :: j70 :: j71 :: j72 :: j73 :: j74 :: j75 :: j76 :: j77 :: j78 :: j79 :: j80 :: j81 :: j82 :: j83 :: j84 :: j85 :: j86 :: j87 :: j88 :: j89 :: j90 :: j91 :: j92 :: j93 :: j94 :: [])) H kp = graph_Node_check_P4 j1 j2 j3 j6 j8 j9 j14 H self kp := by kernel_rfl

theorem graph_Node_check_c4_eq (j0 j1 j2 j3 j4 j5 j6 j7 j8 j9 j10 j11 j12 j13 j14 j15 j16 j17 j18 j19 j20 j21 j22 j23 j24 j25 j26 j27 j28 j29 j30 j31 j32 j33 j34 j35 j36 j37 j38 j39 j40 j41 j42 j43 j44 j45 j46 j47 j48 j49 j50 j51 j52 j53 j54 j55 j56 j57 j58 j59 j60 j61 j62 j63 j64 j65 j66 j67 j68 j69 j70 j71 j72 j73 j74 j75 j76 j77 j78 j79 j80 j81 j82 j83 j84 j85 j86 j87 j88 j89 j90 j91 j92 j93 j94 : AV) (H : List Ob) (kp : Ko) : awp Tryz.prog graph_Node_check_ann graph_Node_check_c4 (keepS [1, 2, 3, 6, 8, 9, 14, 9999] 0 (j0 :: j1 :: j2 :: j3 :: j4 :: j5 :: j6 :: j7 :: j8 :: j9 :: j10 :: j11 :: j12 :: j13 :: j14 :: j15 :: j16 :: j17 :: j18 :: j19 :: j20 :: j21 :: j22 :: j23 :: j24 :: j25 :: j26 :: j27 :: j28 :: j29 :: j30 :: j31 :: j32 :: j33 :: j34 :: j35 :: j36 :: j37 :: j38 :: j39 :: j40 :: j41 :: j42 :: j43 :: j44 :: j45 :: j46 :: j47 :: j48 :: j49 :: j50 :: j51 :: j52 :: j53 :: j54 :: j55 :: j56 :: j57 :: j58 :: j59 :: j60 :: j61 :: j62 :: j63 :: j64 :: j65 :: j66 :: j67 :: j68 :: j69 :: j70 :: j71 :: j72 :: j73 :: j74 :: j75 :: j76 :: j77 :: j78 :: j79 :: j80 :: j81 :: j82 :: j83 :: j84 :: j85 :: j86 :: j87 :: j88 :: j89 :: j90 :: j91 :: j92 :: j93 :: j94 :: [])) H kp = graph_Node_check_P4 j1 j2 j3 j6 j8 j9 j14 H (awp Tryz.prog graph_Node_check_ann) kp :=
  (awpX_eq Tryz.prog graph_Node_check_ann graph_Node_check_cut graph_Node_check_c4 (keepS [1, 2, 3, 6, 8, 9, 14, 9999] 0 (j0 :: j1 :: j2 :: j3 :: j4 :: j5 :: j6 :: j7 :: j8 :: j9 :: j10 :: j11 :: j12 :: j13 :: j14 :: j15 :: j16 :: j17 :: j18 :: j19 :: j20 :: j21 :: j22 :: j23 :: j24 :: j25 :: j26 :: j27 :: j28 :: j29 :: j30 :: j31 :: j32 :: j33 :: j34 :: j35 :: j36 :: j37 :: j38 :: j39 :: j40 :: j41 :: j42 :: j43 :: j44 :: j45 :: j46 :: j47 :: j48 :: j49 :: j50 :: j51 :: j52 :: j53 :: j54 :: j55 :: j56 :: j57 :: j58 :: j59 :: j60 :: j61 :: j62 :: j63 :: j64 :: j65 :: j66 :: j67 :: j68 :: j69 :: j70 :: j71 :: j72 :: j73 :: j74 :: j75 :: j76 :: j77 :: j78 :: j79 :: j80 :: j81 :: j82 :: j83 :: j84 :: j85 :: j86 :: j87 :: j88 :: j89 :: j90 :: j91 :: j92 :: j93 :: j94 :: [])) H kp).symm.trans (graph_Node_check_P4_x j0 j1 j2 j3 j4 j5 j6 j7 j8 j9 j10 j11 j12 j13 j14 j15 j16 j17 j18 j19 j20 j21 j22 j23 j24 j25 j26 j27 j28 j29 j30 j31 j32 j33 j34 j35 j36 j37 j38 j39 j40 j41 j42 j43 j44 j45 j46 j47 j48 j49 j50 j51 j52 j53 j54 j55 j56 j57 j58 j59 j60 j61 j62 j63 j64 j65 j66 j67 j68 j69 j70 j71 j72 j73 j74 j75 j76 j77 j78 j79 j80 j81 j82 j83 j84 j85 j86 j87 j88 j89 j90 j91 j92 j93 j94 H (awp Tryz.prog graph_Node_check_ann) kp)

def graph_Node_check_P5 (j1 j2 j3 j6 j8 j9 j14 : AV) (H : List Ob) (self : Code → List AV → List Ob → Ko → Prop) (kp : Ko) : Prop :=
  aGuard j14
  (aBuild [(.p (.int .i64 0)), (.full [])] [] fun v23 =>
  aStore 2 j6 v23 H fun _ h25 =>
  kp .ret (.top :: j1 :: j2 :: j3 :: .top :: .top :: j6 :: (.p (.int .i64 6)) :: j8 :: j9 :: .top :: .top :: .top :: .top :: (.p (.bool true)) :: .top :: .top :: .top :: .top :: .top :: .top :: .top :: .top :: .top :: .top :: .top :: .top :: .top :: v23 :: .top :: .top :: .top :: .top :: .top :: .top :: .top :: .top :: .top :: .top :: .top :: .top :: .top :: .top :: .top :: .top :: .top :: .top :: .top :: .top :: .top :: .top :: .top :: .top :: .top :: .top :: .top :: .top :: .top :: .top :: .top :: .top :: .top :: .top :: .top :: .top :: .top :: .top :: .top :: .top :: .top :: .top :: .top :: .top :: .top :: .top :: .top :: .top :: .top :: .top :: .top :: .top :: .top :: .top :: .top :: .top :: .top :: .top :: .top :: .top :: .top :: .top :: .top :: .top :: .top :: .top :: []) h25)
  (aFieldAddr 0 j3 fun v26 =>
  aLoad false 1 v26 H fun v27 =>
  aBin false false .neq v27 (.p (.str [])) fun v28 =>
  aMerge true v28 (fun Q29 =>
  aCall Tryz.prog (.p (.func slices_ContainsFunc_graph_Graph_graph_Node_i [])) [j1, j8] H fun v30 h31 =>
  (h31 = H ∧ Q29 v30)) fun v32 =>
  self graph_Node_check_c7 (keepS [1, 2, 3, 6, 9, 29, 9999] 0 (.top :: j1 :: j2 :: j3 :: .top :: .top :: j6 :: .top :: j8 :: j9 :: .top :: .top :: .top :: .top :: (.p (.bool false)) :: .top :: .top :: .top :: .top :: .top :: .top :: .top :: .top :: .top :: .top :: .top :: .top :: .top :: .top :: v32 :: v26 :: v27 :: v28 :: v28 :: .top :: .top :: .top :: v32 :: .top :: .top :: .top :: .top :: .top :: .top :: .top :: .top :: .top :: .top :: .top :: .top :: .top :: .top :: .top :: .top :: .top :: .top :: .top :: .top :: .top :: .top :: .top :: .top :: .top :: .top :: .top :: .top :: .top :: .top :: .top :: .top :: .top :: .top :: .top :: .top :: .top :: .top :: .top :: .top :: .top :: .top :: .top :: .top :: .top :: .top :: .top :: .top :: .top :: .top :: .top :: .top :: .top :: .top :: .top :: .top :: .top :: [])) H kp)

theorem graph_Node_check_P5_x (j0 j1 j2 j3 j4 j5 j6 j7 j8 j9 j10 j11 j12 j13 j14 j15 j16 j17 j18 j19 j20 j21 j22 j23 j24 j25 j26 j27 j28 j29 j30 j31 j32 j33 j34 j35 j36 j37 j38 j39 j40 j41 j42 j43 j44 j45 j46 j47 j48 j49 j50 j51 j52 j53 j54 j55 j56 j57 j58 j59 j60 j61 j62 j63 j64 j65 j66 j67 j68 j69 j70 j71 j72 j73 j74 j75 j76 j77 j78 j79 j80 j81 j82 j83 j84 j85 j86 j87 j88 j89 j90 j91 j92 j93 j94 : AV) (H : List Ob) (self : Code → List AV → List Ob → Ko → Prop) (kp : Ko) : awpX Tryz.prog graph_Node_check_ann self graph_Node_check_cut graph_Node_check_c5 (keepS [1, 2, 3, 6, 8, 9, 14, 9999] 0 (j0 :: j1 :: j2 :: j3 :: j4 :: j5 :: j6 :: j7 :: j8 :: j9 :: j10 :: j11 :: j12 :: j13 :: j14 :: j15 :: j16 :: j17 :: j18 :: j19 :: j20 :: j21 :: j22 :: j23 :: j24 :: j25 :: j26 :: j27 :: j28 :: j29 :: j30 :: j31 :: j32 :: j33 :: j34 :: j35 :: j36 :: j37 :: j38 :: j39 :: j40 :: j41 :: j42 :: j43 :: j44 :: j45 :: j46 :: j47 :: j48 :: j49 :: j50 :: j51 :: j52 :: j53 :: j54 :: j55 :: j56 :: j57 :: j58 :: j59 :: j60 :: j61 :: j62 :: j63 :: j64 :: j65 :: j66 :: j67 :: j68 :: j69 :: j70 :: j71 :: j72 :: j73 :: j74 :: j75 :: j76 :: j77 :: j78 :: j79 :: j80 :: j81 :: j82 :: j83 :: j84 :: j85 :: j86 :: j87 :: j88 :: j89 :: j90 :: j91 :: j92 :: j93 :: j94 :: [])) H kp = graph_Node_check_P5 j1 j2 j3 j6 j8 j9 j14 H self kp := by kernel_rfl

theorem graph_Node_check_c5_eq (j0 j1 j2 j3 j4 j5 j6 j7 j8 j9 j10 j11 j12 j13 j14 j15 j16 j17 j18 j19 j20 j21 j22 j23 j24 j25 j26 j27 j28 j29 j30 j31 j32 j33 j34 j35 j36 j37 j38 j39 j40 j41 j42 j43 j44 j45 j46 j47 j48 j49 j50 j51 j52 j53 j54 j55 j56 j57 j58 j59 j60 j61 j62 j63 j64 j65 j66 j67 j68 j69 j70 j71 j72 j73 j74 j75 j76 j77 j78 j79 j80 j81 j82 j83 j84 j85 j86 j87 j88 j89 j90 j91 j92 j93 j94 : AV) (H : List Ob) (kp : Ko) : awp Tryz.prog graph_Node_check_ann graph_Node_check_c5 (keepS [1, 2, 3, 6, 8, 9, 14, 9999] 0 (j0 :: j1 :: j2 :: j3 :: j4 :: j5 :: j6 :: j7 :: j8 :: j9 :: j10 :: j11 :: j12 :: j13 :: j14 :: j15 :: j16 :: j17 :: j18 :: j19 :: j20 :: j21 :: j22 :: j23 :: j24 :: j25 :: j26 :: j27 :: j28 :: j29 :: j30 :: j31 :: j32 :: j33 :: j34 :: j35 :: j36 :: j37 :: j38 :: j39 :: j40 :: j41 :: j42 :: j43 :: j44 :: j45 :: j46 :: j47 :: j48 :: j49 :: j50 :: j51 :: j52 :: j53 :: j54 :: j55 :: j56 :: j57 :: j58 :: j59 :: j60 :: j61 :: j62 :: j63 :: j64 :: j65 :: j66 :: j67 :: j68 :: j69 :: j70 :: j71 :: j72 :: j73 :: j74 :: j75 :: j76 :: j77 :: j78 :: j79 :: j80 :: j81 :: j82 :: j83 :: j84 :: j85 :: j86 :: j87 :: j88 :: j89 :: j90 :: j91 :: j92 :: j93 :: j94 :: [])) H kp = graph_Node_check_P5 j1 j2 j3 j6 j8 j9 j14 H (awp Tryz.prog graph_Node_check_ann) kp :=
  (awpX_eq Tryz.prog graph_Node_check_ann graph_Node_check_cut graph_Node_check_c5 (keepS [1, 2, 3, 6, 8, 9, 14, 9999] 0 (j0 :: j1 :: j2 :: j3 :: j4 :: j5 :: j6 :: j7 :: j8 :: j9 :: j10 :: j11 :: j12 :: j13 :: j14 :: j15 :: j16 :: j17 :: j18 :: j19 :: j20 :: j21 :: j22 :: j23 :: j24 :: j25 :: j26 :: j27 :: j28 :: j29 :: j30 :: j31 :: j32 :: j33 :: j34 :: j35 :: j36 :: j37 :: j38 :: j39 :: j40 :: j41 :: j42 :: j43 :: j44 :: j45 :: j46 :: j47 :: j48 :: j49 :: j50 :: j51 :: j52 :: j53 :: j54 :: j55 :: j56 :: j57 :: j58 :: j59 :: j60 :: j61 :: j62 :: j63 :: j64 :: j65 :: j66 :: j67 :: j68 :: j69 :: j70 :: j71 :: j72 :: j73 :: j74 :: j75 :: j76 :: j77 :: j78 :: j79 :: j80 :: j81 :: j82 :: j83 :: j84 :: j85 :: j86 :: j87 :: j88 :: j89 :: j90 :: j91 :: j92 :: j93 :: j94 :: [])) H kp).symm.trans (graph_Node_check_P5_x j0 j1 j2 j3 j4 j5 j6 j7 j8 j9 j10 j11 j12 j13 j14 j15 j16 j17 j18 j19 j20 j21 j22 j23 j24 j25 j26 j27 j28 j29 j30 j31 j32 j33 j34 j35 j36 j37 j38 j39 j40 j41 j42 j43 j44 j45 j46 j47 j48 j49 j50 j51 j52 j53 j54 j55 j56 j57 j58 j59 j60 j61 j62 j63 j64 j65 j66 j67 j68 j69 j70 j71 j72 j73 j74 j75 j76 j77 j78 j79 j80 j81 j82 j83 j84 j85 j86 j87 j88 j89 j90 j91 j92 j93 j94 H (awp Tryz.prog graph_Node_check_ann) kp)

def graph_Node_check_P7 (j1 j2 j3 j6 j9 j29 : AV) (H : List Ob) (self : Code → List AV → List Ob → Ko → Prop) (kp : Ko) : Prop :=
  aGuard j29
  (aBuild [(.p (.int .i64 0)), (.full [])] [] fun v33 =>
  aStore 2 j6 v33 H fun _ h35 =>
  kp .ret (.top :: j1 :: j2 :: j3 :: .top :: .top :: j6 :: (.p (.int .i64 7)) :: .top :: j9 :: .top :: .top :: .top :: .top :: .top :: .top :: .top :: .top :: .top :: .top :: .top :: .top :: .top :: .top :: .top :: .top :: .top :: .top :: .top :: (.p (.bool true)) :: .top :: .top :: .top :: .top :: .top :: .top :: .top :: .top :: v33 :: .top :: .top :: .top :: .top :: .top :: .top :: .top :: .top :: .top :: .top :: .top :: .top :: .top :: .top :: .top :: .top :: .top :: .top :: .top :: .top :: .top :: .top :: .top :: .top :: .top :: .top :: .top :: .top :: .top :: .top :: .top :: .top :: .top :: .top :: .top :: .top :: .top :: .top :: .top :: .top :: .top :: .top :: .top :: .top :: .top :: .top :: .top :: .top :: .top :: .top :: .top :: .top :: .top :: .top :: .top :: .top :: []) h35)
  (aFieldAddr 17 j3 fun v36 =>
  aLoad false 1 v36 H fun v37 =>
  aBin false false .lss v37 (.p (.int .i64 1)) fun v38 =>
  self graph_Node_check_c9 (keepS [1, 2, 3, 6, 9, 39, 9999] 0 (.top :: j1 :: j2 :: j3 :: .top :: .top :: j6 :: .top :: .top :: j9 :: .top :: .top :: .top :: .top :: .top :: .top :: .top :: .top :: .top :: .top :: .top :: .top :: .top :: .top :: .top :: .top :: .top :: .top :: .top :: (.p (.bool false)) :: .top :: .top :: .top :: .top :: .top :: .top :: .top :: .top :: .top :: v38 :: v36 :: v37 :: v38 :: .top :: .top :: .top :: .top :: .top :: .top :: .top :: .top :: .top :: .top :: .top :: .top :: .top :: .top :: .top :: .top :: .top :: .top :: .top :: .top :: .top :: .top :: .top :: .top :: .top :: .top :: .top :: .top :: .top :: .top :: .top :: .top :: .top :: .top :: .top :: .top :: .top :: .top :: .top :: .top :: .top :: .top :: .top :: .top :: .top :: .top :: .top :: .top :: .top :: .top :: .top :: .top :: [])) H (kSeq self graph_Node_check_c13 [1, 2, 3, 6, 9, 39, 9999] kp))

theorem graph_Node_check_P7_x (j0 j1 j2 j3 j4 j5 j6 j7 j8 j9 j10 j11 j12 j13 j14 j15 j16 j17 j18 j19 j20 j21 j22 j23 j24 j25 j26 j27 j28 j29 j30 j31 j32 j33 j34 j35 j36 j37 j38 j39 j40 j41 j42 j43 j44 j45 j46 j47 j48 j49 j50 j51 j52 j53 j54 j55 j56 j57 j58 j59 j60 j61 j62 j63 j64 j65 j66 j67 j68 j69 j70 j71 j72 j73 j74 j75 j76 j77 j78 j79 j80 j81 j82 j83 j84 j85 j86 j87 j88 j89 j90 j91 j92 j93 j94 : AV) (H : List Ob) (self : Code → List AV → List Ob → Ko → Prop) (kp : Ko) : awpX Tryz.prog graph_Node_check_ann self graph_Node_check_cut graph_Node_check_c7 (keepS [1, 2, 3, 6, 9, 29, 9999] 0 (j0 :: j1 :: j2 :: j3 :: j4 :: j5 :: j6 :: j7 :: j8 :: j9 :: j10 :: j11 :: j12 :: j13 :: j14 :: j15 :: j16 :: j17 :: j18 :: j19 :: j20 :: j21 :: j22 :: j23 :: j24 :: j25 :: j26 :: j27 :: j28 :: j29 :: j30 :: j31 :: j32 :: j33 :: j34 :: j35 :: j36 :: j37 :: j38 :: j39 :: j40 :: j41 :: j42 :: j43 :: j44 :: j45 :: j46 :: j47 :: j48 :: j49 :: j50 :: j51 :: j52 :: j53 :: j54 :: j55 :: j56 :: j57 :: j58 :: j59 :: j60 :: j61 :: j62 :: j63 :: j64 :: j65 :: j66 :: j67 :: j68 :: j69 :: j70 :: j71 :: j72 :: j73 :: j74 :: j75 :: j76 :: j77 :: j78 :: j79 :: j80 :: j81 :: j82 :: j83 :: j84 :: j85 :: j86 :: j87 :: j88 :: j89 :: j90 :: j91 :: j92 :: j93 :: j94 :: [])) H kp = graph_Node_check_P7 j1 j2 j3 j6 j9 j29 H self kp := by kernel_rfl

theorem graph_Node_check_c7_eq (j0 j1 j2 j3 j4 j5 j6 j7 j8 j9 j10 j11 j12 j13 j14 j15 j16 j17 j18 j19 j20 j21 j22 j23 j24 j25 j26 j27 j28 j29 j30 j31 j32 j33 j34 j35 j36 j37 j38 j39 j40 j41 j42 j43 j44 j45 j46 j47 j48 j49 j50 j51 j52 j53 j54 j55 j56 j57 j58 j59 j60 j61 j62 j63 j64 j65 j66 j67 j68 j69 j70 j71 j72 j73 j74 j75 j76 j77 j78 j79 j80 j81 j82 j83 j84 j85 j86 j87 j88 j89 j90 j91 j92 j93 j94 : AV) (H : List Ob) (kp : Ko) : awp Tryz.prog graph_Node_check_ann graph_Node_check_c7 (keepS [1, 2, 3, 6, 9, 29, 9999] 0 (j0 :: j1 :: j2 :: j3 :: j4 :: j5 :: j6 :: j7 :: j8 :: j9 :: j10 :: j11 :: j12 :: j13 :: j14 :: j15 :: j16 :: j17 :: j18 :: j19 :: j20 :: j21 :: j22 :: j23 :: j24 :: j25 :: j26 :: j27 :: j28 :: j29 :: j30 :: j31 :: j32 :: j33 :: j34 :: j35 :: j36 :: j37 :: j38 :: j39 :: j40 :: j41 :: j42 :: j43 :: j44 :: j45 :: j46 :: j47 :: j48 :: j49 :: j50 :: j51 :: j52 :: j53 :: j54 :: j55 :: j56 :: j57 :: j58 :: j59 :: j60 :: j61 :: j62 :: j63 :: j64 :: j65 :: j66 :: j67 :: j68 :: j69 :: j70 :: j71 :: j72 :: j73 :: j74 :: j75 :: j76 :: j77 :: j78 :: j79 :: j80 :: j81 :: j82 :: j83 :: j84 :: j85 :: j86 :: j87 :: j88 :: j89 :: j90 :: j91 :: j92 :: j93 :: j94 :: [])) H kp = graph_Node_check_P7 j1 j2 j3 j6 j9 j29 H (awp Tryz.prog graph_Node_check_ann) kp :=
  (awpX_eq Tryz.prog graph_Node_check_ann graph_Node_check_cut graph_Node_check_c7 (keepS [1, 2, 3, 6, 9, 29, 9999] 0 (j0 :: j1 :: j2 :: j3 :: j4 :: j5 :: j6 :: j7 :: j8 :: j9 :: j10 :: j11 :: j12 :: j13 :: j14 :: j15 :: j16 :: j17 :: j18 :: j19 :: j20 :: j21 :: j22 :: j23 :: j24 :: j25 :: j26 :: j27 :: j28 :: j29 :: j30 :: j31 :: j32 :: j33 :: j34 :: j35 :: j36 :: j37 :: j38 :: j39 :: j40 :: j41 :: j42 :: j43 :: j44 :: j45 :: j46 :: j47 :: j48 :: j49 :: j50 :: j51 :: j52 :: j53 :: j54 :: j55 :: j56 :: j57 :: j58 :: j59 :: j60 :: j61 :: j62 :: j63 :: j64 :: j65 :: j66 :: j67 :: j68 :: j69 :: j70 :: j71 :: j72 :: j73 :: j74 :: j75 :: j76 :: j77 :: j78 :: j79 :: j80 :: j81 :: j82 :: j83 :: j84 :: j85 :: j86 :: j87 :: j88 :: j89 :: j90 :: j91 :: j92 :: j93 :: j94 :: [])) H kp).symm.trans (graph_Node_check_P7_x j0 j1 j2 j3 j4 j5 j6 j7 j8 j9 j10 j11 j12 j13 j14 j15 j16 j17 j18 j19 j20 j21 j22 j23 j24 j25 j26 j27 j28 j29 j30 j31 j32 j33 j34 j35 j36 j37 j38 j39 j40 j41 j42 j43 j44 j45 j46 j47 j48 j49 j50 j51 j52 j53 j54 j55 j56 j57 j58 j59 j60 j61 j62 j63 j64 j65 j66 j67 j68 j69 j70 j71 j72 j73 j74 j75 j76 j77 j78 j79 j80 j81 j82 j83 j84 j85 j86 j87 j88 j89 j90 j91 j92 j93 j94 H (awp Tryz.prog graph_Node_check_ann) kp)

def graph_Node_check_P9 (j1 j2 j3 j6 j9 j39 : AV) (H : List Ob) (self : Code → List AV → List Ob → Ko → Prop) (kp : Ko) : Prop :=
  aGuard j39
  (kp .normal (.top :: j1 :: j2 :: j3 :: .top :: .top :: j6 :: .top :: .top :: j9 :: .top :: .top :: .top :: .top :: .top :: .top :: .top :: .top :: .top :: .top :: .top :: .top :: .top :: .top :: .top :: .top :: .top :: .top :: .top :: .top :: .top :: .top :: .top :: .top :: .top :: .top :: .top :: .top :: .top :: (.p (.bool true)) :: .top :: .top :: .top :: .top :: .top :: .top :: .top :: .top :: .top :: .top :: .top :: .top :: .top :: .top :: .top :: .top :: .top :: .top :: .top :: .top :: .top :: .top :: .top :: .top :: .top :: .top :: .top :: .top :: .top :: .top :: .top :: .top :: .top :: .top :: .top :: .top :: .top :: .top :: .top :: .top :: .top :: .top :: .top :: .top :: .top :: .top :: .top :: .top :: .top :: .top :: .top :: .top :: .top :: .top :: .top :: []) H)
  (aFieldAddr 17 j3 fun v39 =>
  aLoad false 1 v39 H fun v40 =>
  aBin false false .gtr v40 (.p (.int .i64 4)) fun v41 =>
  self graph_Node_check_c10 (keepS [1, 2, 3, 6, 9, 39, 9999] 0 (.top :: j1 :: j2 :: j3 :: .top :: .top :: j6 :: .top :: .top :: j9 :: .top :: .top :: .top :: .top :: .top :: .top :: .top :: .top :: .top :: .top :: .top :: .top :: .top :: .top :: .top :: .top :: .top :: .top :: .top :: .top :: .top :: .top :: .top :: .top :: .top :: .top :: .top :: .top :: .top :: v41 :: .top :: .top :: .top :: v39 :: v40 :: v41 :: .top :: .top :: .top :: .top :: .top :: .top :: .top :: .top :: .top :: .top :: .top :: .top :: .top :: .top :: .top :: .top :: .top :: .top :: .top :: .top :: .top :: .top :: .top :: .top :: .top :: .top :: .top :: .top :: .top :: .top :: .top :: .top :: .top :: .top :: .top :: .top :: .top :: .top :: .top :: .top :: .top :: .top :: .top :: .top :: .top :: .top :: .top :: .top :: .top :: [])) H kp)

theorem graph_Node_check_P9_x (j0 j1 j2 j3 j4 j5 j6 j7 j8 j9 j10 j11 j12 j13 j14 j15 j16 j17 j18 j19 j20 j21 j22 j23 j24 j25 j26 j27 j28 j29 j30 j31 j32 j33 j34 j35 j36 j37 j38 j39 j40 j41 j42 j43 j44 j45 j46 j47 j48 j49 j50 j51 j52 j53 j54 j55 j56 j57 j58 j59 j60 j61 j62 j63 j64 j65 j66 j67 j68 j69 j70 j71 j72 j73 j74 j75 j76 j77 j78 j79 j80 j81 j82 j83 j84 j85 j86 j87 j88 j89 j90 j91 j92 j93 j94 : AV) (H : List Ob) (self : Code → List AV → List Ob → Ko → Prop) (kp : Ko) : awpX Tryz.prog graph_Node_check_ann self graph_Node_check_cut graph_Node_check_c9 (keepS [1, 2, 3, 6, 9, 39, 9999] 0 (j0 :: j1 :: j2 :: j3 :: j4 :: j5 :: j6 :: j7 :: j8 :: j9 :: j10 :: j11 :: j12 :: j13 :: j14 :: j15 :: j16 :: j17 :: j18 :: j19 :: j20 :: j21 :: j22 :: j23 :: j24 :: j25 :: j26 :: j27 :: j28 :: j29 :: j30 :: j31 :: j32 :: j33 :: j34 :: j35 :: j36 :: j37 :: j38 :: j39 :: j40 :: j41 :: j42 :: j43 :: j44 :: j45 :: j46 :: j47 :: j48 :: j49 :: j50 :: j51 :: j52 :: j53 :: j54 :: j55 :: j56 :: j57 :: j58 :: j59 :: j60 :: j61 :: j62 :: j63 :: j64 :: j65 :: j66 :: j67 :: j68 :: j69 :: j70 :: j71 :: j72 :: j73 :: j74 :: j75 :: j76 :: j77 :: j78 :: j79 :: j80 :: j81 :: j82 :: j83 :: j84 :: j85 :: j86 :: j87 :: j88 :: j89 :: j90 :: j91 :: j92 :: j93 :: j94 :: [])) H kp = graph_Node_check_P9 j1 j2 j3 j6 j9 j39 H self kp := by kernel_rfl

theorem graph_Node_check_c9_eq (j0 j1 j2 j3 j4 j5 j6 j7 j8 j9 j10 j11 j12 j13 j14 j15 j16 j17 j18 j19 j20 j21 j22 j23 j24 j25 j26 j27 j28 j29 j30 j31 j32 j33 j34 j35 j36 j37 j38 j39 j40 j41 j42 j43 j44 j45 j46 j47 j48 j49 j50 j51 j52 j53 j54 j55 j56 j57 j58 j59 j60 j61 j62 j63 j64 j65 j66 j67 j68 j69 j70 j71 j72 j73 j74 j75 j76 j77 j78 j79 j80 j81 j82 j83 j84 j85 j86 j87 j88 j89 j90 j91 j92 j93 j94 : AV) (H : List Ob) (kp : Ko) : awp Tryz.prog graph_Node_check_ann graph_Node_check_c9 (keepS [1, 2, 3, 6, 9, 39, 9999] 0 (j0 :: j1 :: j2 :: j3 :: j4 :: j5 :: j6 :: j7 :: j8 :: j9 :: j10 :: j11 :: j12 :: j13 :: j14 :: j15 :: j16 :: j17 :: j18 :: j19 :: j20 :: j21 :: j22 :: j23 :: j24 :: j25 :: j26 :: j27 :: j28 :: j29 :: j30 :: j31 :: j32 :: j33 :: j34 :: j35 :: j36 :: j37 :: j38 :: j39 :: j40 :: j41 :: j42 :: j43 :: j44 :: j45 :: j46 :: j47 :: j48 :: j49 :: j50 :: j51 :: j52 :: j53 :: j54 :: j55 :: j56 :: j57 :: j58 :: j59 :: j60 :: j61 :: j62 :: j63 :: j64 :: j65 :: j66 :: j67 :: j68 :: j69 :: j70 :: j71 :: j72 :: j73 :: j74 :: j75 :: j76 :: j77 :: j78 :: j79 :: j80 :: j81 :: j82 :: j83 :: j84 :: j85 :: j86 :: j87 :: j88 :: j89 :: j90 :: j91 :: j92 :: j93 :: j94 :: [])) H kp = graph_Node_check_P9 j1 j2 j3 j6 j9 j39 H (awp Tryz.prog graph_Node_check_ann) kp :=
  (awpX_eq Tryz.prog graph_Node_check_ann graph_Node_check_cut graph_Node_check_c9 (keepS [1, 2, 3, 6, 9, 39, 9999] 0 (j0 :: j1 :: j2 :: j3 :: j4 :: j5 :: j6 :: j7 :: j8 :: j9 :: j10 :: j11 :: j12 :: j13 :: j14 :: j15 :: j16 :: j17 :: j18 :: j19 :: j20 :: j21 :: j22 :: j23 :: j24 :: j25 :: j26 :: j27 :: j28 :: j29 :: j30 :: j31 :: j32 :: j33 :: j34 :: j35 :: j36 :: j37 :: j38 :: j39 :: j40 :: j41 :: j42 :: j43 :: j44 :: j45 :: j46 :: j47 :: j48 :: j49 :: j50 :: j51 :: j52 :: j53 :: j54 :: j55 :: j56 :: j57 :: j58 :: j59 :: j60 :: j61 :: j62 :: j63 :: j64 :: j65 :: j66 :: j67 :: j68 :: j69 :: j70 :: j71 :: j72 :: j73 :: j74 :: j75 :: j76 :: j77 :: j78 :: j79 :: j80 :: j81 :: j82 :: j83 :: j84 :: j85 :: j86 :: j87 :: j88 :: j89 :: j90 :: j91 :: j92 :: j93 :: j94 :: [])) H kp).symm.trans (graph_Node_check_P9_x j0 j1 j2 j3 j4 j5 j6 j7 j8 j9 j10 j11 j12 j13 j14 j15 j16 j17 j18 j19 j20 j21 j22 j23 j24 j25 j26 j27 j28 j29 j30 j31 j32 j33 j34 j35 j36 j37 j38 j39 j40 j41 j42 j43 j44 j45 j46 j47 j48 j49 j50 j51 j52 j53 j54 j55 j56 j57 j58 j59 j60 j61 j62 j63 j64 j65 j66 j67 j68 j69 j70 j71 j72 j73 j74 j75 j76 j77 j78 j79 j80 j81 j82 j83 j84 j85 j86 j87 j88 j89 j90 j91 j92 j93 j94 H (awp Tryz.prog graph_Node_check_ann) kp)

def graph_Node_check_P10 (j1 j2 j3 j6 j9 j39 : AV) (H : List Ob) (self : Code → List AV → List Ob → Ko → Prop) (kp : Ko) : Prop :=
  aGuard j39
  (kp .normal (.top :: j1 :: j2 :: j3 :: .top :: .top :: j6 :: .top :: .top :: j9 :: .top :: .top :: .top :: .top :: .top :: .top :: .top :: .top :: .top :: .top :: .top :: .top :: .top :: .top :: .top :: .top :: .top :: .top :: .top :: .top :: .top :: .top :: .top :: .top :: .top :: .top :: .top :: .top :: .top :: (.p (.bool true)) :: .top :: .top :: .top :: .top :: .top :: .top :: .top :: .top :: .top :: .top :: .top :: .top :: .top :: .top :: .top :: .top :: .top :: .top :: .top :: .top :: .top :: .top :: .top :: .top :: .top :: .top :: .top :: .top :: .top :: .top :: .top :: .top :: .top :: .top :: .top :: .top :: .top :: .top :: .top :: .top :: .top :: .top :: .top :: .top :: .top :: .top :: .top :: .top :: .top :: .top :: .top :: .top :: .top :: .top :: .top :: []) H)
  (aFieldAddr 18 j3 fun v42 =>
  aLoad false 1 v42 H fun v43 =>
  aFieldAddr 17 j3 fun v44 =>
  aLoad false 1 v44 H fun v45 =>
  aBin false false .lss v43 v45 fun v46 =>
  self graph_Node_check_c11 (keepS [1, 2, 3, 6, 9, 39, 9999] 0 (.top :: j1 :: j2 :: j3 :: .top :: .top :: j6 :: .top :: .top :: j9 :: .top :: .top :: .top :: .top :: .top :: .top :: .top :: .top :: .top :: .top :: .top :: .top :: .top :: .top :: .top :: .top :: .top :: .top :: .top :: .top :: .top :: .top :: .top :: .top :: .top :: .top :: .top :: .top :: .top :: v46 :: .top :: .top :: .top :: .top :: .top :: .top :: v42 :: v43 :: v44 :: v45 :: v46 :: .top :: .top :: .top :: .top :: .top :: .top :: .top :: .top :: .top :: .top :: .top :: .top :: .top :: .top :: .top :: .top :: .top :: .top :: .top :: .top :: .top :: .top :: .top :: .top :: .top :: .top :: .top :: .top :: .top :: .top :: .top :: .top :: .top :: .top :: .top :: .top :: .top :: .top :: .top :: .top :: .top :: .top :: .top :: .top :: [])) H kp)

theorem graph_Node_check_P10_x (j0 j1 j2 j3 j4 j5 j6 j7 j8 j9 j10 j11 j12 j13 j14 j15 j16 j17 j18 j19 j20 j21 j22 j23 j24 j25 j26 j27 j28 j29 j30 j31 j32 j33 j34 j35 j36 j37 j38 j39 j40 j41 j42 j43 j44 j45 j46 j47 j48 j49 j50 j51 j52 j53 j54 j55 j56 j57 j58 j59 j60 j61 j62 j63 j64 j65 j66 j67 j68 j69 j70 j71 j72 j73 j74 j75 j76 j77 j78 j79 j80 j81 j82 j83 j84 j85 j86 j87 j88 j89 j90 j91 j92 j93 j94 : AV) (H : List Ob) (self : Code → List AV → List Ob → Ko → Prop) (kp : Ko) : awpX Tryz.prog graph_Node_check_ann self graph_Node_check_cut graph_Node_check_c10 (keepS [1, 2, 3, 6, 9, 39, 9999] 0 (j0 :: j1 :: j2 :: j3 :: j4 :: j5 :: j6 :: j7 :: j8 :: j9 :: j10 :: j11 :: j12 :: j13 :: j14 :: j15 :: j16 :: j17 :: j18 :: j19 :: j20 :: j21 :: j22 :: j23 :: j24 :: j25 :: j26 :: j27 :: j28 :: j29 :: j30 :: j31 :: j32 :: j33 :: j34 :: j35 :: j36 :: j37 :: j38 :: j39 :: j40 :: j41 :: j42 :: j43 :: j44 :: j45 :: j46 :: j47 :: j48 :: j49 :: j50 :: j51 :: j52 :: j53 :: j54 :: j55 :: j56 :: j57 :: j58 :: j59 :: j60 :: j61 :: j62 :: j63 :: j64 :: j65 :: j66 :: j67 :: j68 :: j69 :: j70 :: j71 :: j72 :: j73 :: j74 :: j75 :: j76 :: j77 :: j78 :: j79 :: j80 :: j81 :: j82 :: j83 :: j84 :: j85 :: j86 :: j87 :: j88 :: j89 :: j90 :: j91 :: j92 :: j93 :: j94 :: [])) H kp = graph_Node_check_P10 j1 j2 j3 j6 j9 j39 H self kp := by kernel_rfl

theorem graph_Node_check_c10_eq (j0 j1 j2 j3 j4 j5 j6 j7 j8 j9 j10 j11 j12 j13 j14 j15 j16 j17 j18 j19 j20 j21 j22 j23 j24 j25 j26 j27 j28 j29 j30 j31 j32 j33 j34 j35 j36 j37 j38 j39 j40 j41 j42 j43 j44 j45 j46 j47 j48 j49 j50 j51 j52 j53 j54 j55 j56 j57 j58 j59 j60 j61 j62 j63 j64 j65 j66 j67 j68 j69 j70 j71 j72 j73 j74 j75 j76 j77 j78 j79 j80 j81 j82 j83 j84 j85 j86 j87 j88 j89 j90 j91 j92 j93 j94 : AV) (H : List Ob) (kp : Ko) : awp Tryz.prog graph_Node_check_ann graph_Node_check_c10 (keepS [1, 2, 3, 6, 9, 39, 9999] 0 (j0 :: j1 :: j2 :: j3 :: j4 :: j5 :: j6 :: j7 :: j8 :: j9 :: j10 :: j11 :: j12 :: j13 :: j14 :: j15 :: j16 :: j17 :: j18 :: j19 :: j20 :: j21 :: j22 :: j23 :: j24 :: j25 :: j26 :: j27 :: j28 :: j29 :: j30 :: j31 :: j32 :: j33 :: j34 :: j35 :: j36 :: j37 :: j38 :: j39 :: j40 :: j41 :: j42 :: j43 :: j44 :: j45 :: j46 :: j47 :: j48 :: j49 :: j50 :: j51 :: j52 :: j53 :: j54 :: j55 :: j56 :: j57 :: j58 :: j59 :: j60 :: j61 :: j62 :: j63 :: j64 :: j65 :: j66 :: j67 :: j68 :: j69 :: j70 :: j71 :: j72 :: j73 :: j74 :: j75 :: j76 :: j77 :: j78 :: j79 :: j80 :: j81 :: j82 :: j83 :: j84 :: j85 :: j86 :: j87 :: j88 :: j89 :: j90 :: j91 :: j92 :: j93 :: j94 :: [])) H kp = graph_Node_check_P10 j1 j2 j3 j6 j9 j39 H (awp Tryz.prog graph_Node_check_ann) kp :=
  (awpX_eq Tryz.prog graph_Node_check_ann graph_Node_check_cut graph_Node_check_c10 (keepS [1, 2, 3, 6, 9, 39, 9999] 0 (j0 :: j1 :: j2 :: j3 :: j4 :: j5 :: j6 :: j7 :: j8 :: j9 :: j10 :: j11 :: j12 :: j13 :: j14 :: j15 :: j16 :: j17 :: j18 :: j19 :: j20 :: j21 :: j22 :: j23 :: j24 :: j25 :: j26 :: j27 :: j28 :: j29 :: j30 :: j31 :: j32 :: j33 :: j34 :: j35 :: j36 :: j37 :: j38 :: j39 :: j40 :: j41 :: j42 :: j43 :: j44 :: j45 :: j46 :: j47 :: j48 :: j49 :: j50 :: j51 :: j52 :: j53 :: j54 :: j55 :: j56 :: j57 :: j58 :: j59 :: j60 :: j61 :: j62 :: j63 :: j64 :: j65 :: j66 :: j67 :: j68 :: j69 :: j70 :: j71 :: j72 :: j73 :: j74 :: j75 :: j76 :: j77 :: j78 :: j79 :: j80 :: j81 :: j82 :: j83 :: j84 :: j85 :: j86 :: j87 :: j88 :: j89 :: j90 :: j91 :: j92 :: j93 :: j94 :: [])) H kp).symm.trans (graph_Node_check_P10_x j0 j1 j2 j3 j4 j5 j6 j7 j8 j9 j10 j11 j12 j13 j14 j15 j16 j17 j18 j19 j20 j21 j22 j23 j24 j25 j26 j27 j28 j29 j30 j31 j32 j33 j34 j35 j36 j37 j38 j39 j40 j41 j42 j43 j44 j45 j46 j47 j48 j49 j50 j51 j52 j53 j54 j55 j56 j57 j58 j59 j60 j61 j62 j63 j64 j65 j66 j67 j68 j69 j70 j71 j72 j73 j74 j75 j76 j77 j78 j79 j80 j81 j82 j83 j84 j85 j86 j87 j88 j89 j90 j91 j92 j93 j94 H (awp Tryz.prog graph_Node_check_ann) kp)

def graph_Node_check_P11 (j1 j2 j3 j6 j9 j39 : AV) (H : List Ob) (self : Code → List AV → List Ob → Ko → Prop) (kp : Ko) : Prop :=
  aGuard j39
  (kp .normal (.top :: j1 :: j2 :: j3 :: .top :: .top :: j6 :: .top :: .top :: j9 :: .top :: .top :: .top :: .top :: .top :: .top :: .top :: .top :: .top :: .top :: .top :: .top :: .top :: .top :: .top :: .top :: .top :: .top :: .top :: .top :: .top :: .top :: .top :: .top :: .top :: .top :: .top :: .top :: .top :: (.p (.bool true)) :: .top :: .top :: .top :: .top :: .top :: .top :: .top :: .top :: .top :: .top :: .top :: .top :: .top :: .top :: .top :: .top :: .top :: .top :: .top :: .top :: .top :: .top :: .top :: .top :: .top :: .top :: .top :: .top :: .top :: .top :: .top :: .top :: .top :: .top :: .top :: .top :: .top :: .top :: .top :: .top :: .top :: .top :: .top :: .top :: .top :: .top :: .top :: .top :: .top :: .top :: .top :: .top :: .top :: .top :: .top :: []) H)
  (aFieldAddr 18 j3 fun v47 =>
  aLoad false 1 v47 H fun v48 =>
  aBin false false .gtr v48 (.p (.int .i64 16)) fun v49 =>
  self graph_Node_check_c12 (keepS [1, 2, 3, 6, 9, 39, 9999] 0 (.top :: j1 :: j2 :: j3 :: .top :: .top :: j6 :: .top :: .top :: j9 :: .top :: .top :: .top :: .top :: .top :: .top :: .top :: .top :: .top :: .top :: .top :: .top :: .top :: .top :: .top :: .top :: .top :: .top :: .top :: .top :: .top :: .top :: .top :: .top :: .top :: .top :: .top :: .top :: .top :: v49 :: .top :: .top :: .top :: .top :: .top :: .top :: .top :: .top :: .top :: .top :: .top :: v47 :: v48 :: v49 :: .top :: .top :: .top :: .top :: .top :: .top :: .top :: .top :: .top :: .top :: .top :: .top :: .top :: .top :: .top :: .top :: .top :: .top :: .top :: .top :: .top :: .top :: .top :: .top :: .top :: .top :: .top :: .top :: .top :: .top :: .top :: .top :: .top :: .top :: .top :: .top :: .top :: .top :: .top :: .top :: .top :: [])) H kp)

theorem graph_Node_check_P11_x (j0 j1 j2 j3 j4 j5 j6 j7 j8 j9 j10 j11 j12 j13 j14 j15 j16 j17 j18 j19 j20 j21 j22 j23 j24 j25 j26 j27 j28 j29 j30 j31 j32 j33 j34 j35 j36 j37 j38 j39 j40 j41 j42 j43 j44 j45 j46 j47 j48 j49 j50 j51 j52 j53 j54 j55 j56 j57 j58 j59 j60 j61 j62 j63 j64 j65 j66 j67 j68 j69 j70 j71 j72 j73 j74 j75 j76 j77 j78 j79 j80 j81 j82 j83 j84 j85 j86 j87 j88 j89 j90 j91 j92 j93 j94 : AV) (H : List Ob) (self : Code → List AV → List Ob → Ko → Prop) (kp : Ko) : awpX Tryz.prog graph_Node_check_ann self graph_Node_check_cut graph_Node_check_c11 (keepS [1, 2, 3, 6, 9, 39, 9999] 0 (j0 :: j1 :: j2 :: j3 :: j4 :: j5 :: j6 :: j7 :: j8 :: j9 :: j10 :: j11 :: j12 :: j13 :: j14 :: j15 :: j16 :: j17 :: j18 :: j19 :: j20 :: j21 :: j22 :: j23 :: j24 :: j25 :: j26 :: j27 :: j28 :: j29 :: j30 :: j31 :: j32 :: j33 :: j34 :: j35 :: j36 :: j37 :: j38 :: j39 :: j40 :: j41 :: j42 :: j43 :: j44 :: j45 :: j46 :: j47 :: j48 :: j49 :: j50 :: j51 :: j52 :: j53 :: j54 :: j55 :: j56 :: j57 :: j58 :: j59 :: j60 :: j61 :: j62 :: j63 :: j64 :: j65 :: j66 :: j67 :: j68 :: j69 :: j70 :: j71 :: j72 :: j73 :: j74 :: j75 :: j76 :: j77 :: j78 :: j79 :: j80 :: j81 :: j82 :: j83 :: j84 :: j85 :: j86 :: j87 :: j88 :: j89 :: j90 :: j91 :: j92 :: j93 :: j94 :: [])) H kp = graph_Node_check_P11 j1 j2 j3 j6 j9 j39 H self kp := by kernel_rfl

theorem graph_Node_check_c11_eq (j0 j1 j2 j3 j4 j5 j6 j7 j8 j9 j10 j11 j12 j13 j14 j15 j16 j17 j18 j19 j20 j21 j22 j23 j24 j25 j26 j27 j28 j29 j30 j31 j32 j33 j34 j35 j36 j37 j38 j39 j40 j41 j42 j43 j44 j45 j46 j47 j48 j49 j50 j51 j52 j53 j54 j55 j56 j57 j58 j59 j60 j61 j62 j63 j64 j65 j66 j67 j68 j69 j70 j71 j72 j73 j74 j75 j76 j77 j78 j79 j80 j81 j82 j83 j84 j85 j86 j87 j88 j89 j90 j91 j92 j93 j94 : AV) (H : List Ob) (kp : Ko) : awp Tryz.prog graph_Node_check_ann graph_Node_check_c11 (keepS [1, 2, 3, 6, 9, 39, 9999] 0 (j0 :: j1 :: j2 :: j3 :: j4 :: j5 :: j6 :: j7 :: j8 :: j9 :: j10 :: j11 :: j12 :: j13 :: j14 :: j15 :: j16 :: j17 :: j18 :: j19 :: j20 :: j21 :: j22 :: j23 :: j24 :: j25 :: j26 :: j27 :: j28 :: j29 :: j30 :: j31 :: j32 :: j33 :: j34 :: j35 :: j36 :: j37 :: j38 :: j39 :: j40 :: j41 :: j42 :: j43 :: j44 :: j45 :: j46 :: j47 :: j48 :: j49 :: j50 :: j51 :: j52 :: j53 :: j54 :: j55 :: j56 :: j57 :: j58 :: j59 :: j60 :: j61 :: j62 :: j63 :: j64 :: j65 :: j66 :: j67 :: j68 :: j69 :: j70 :: j71 :: j72 :: j73 :: j74 :: j75 :: j76 :: j77 :: j78 :: j79 :: j80 :: j81 :: j82 :: j83 :: j84 :: j85 :: j86 :: j87 :: j88 :: j89 :: j90 :: j91 :: j92 :: j93 :: j94 :: [])) H kp = graph_Node_check_P11 j1 j2 j3 j6 j9 j39 H (awp Tryz.prog graph_Node_check_ann) kp :=
  (awpX_eq Tryz.prog graph_Node_check_ann graph_Node_check_cut graph_Node_check_c11 (keepS [1, 2, 3, 6, 9, 39, 9999] 0 (j0 :: j1 :: j2 :: j3 :: j4 :: j5 :: j6 :: j7 :: j8 :: j9 :: j10 :: j11 :: j12 :: j13 :: j14 :: j15 :: j16 :: j17 :: j18 :: j19 :: j20 :: j21 :: j22 :: j23 :: j24 :: j25 :: j26 :: j27 :: j28 :: j29 :: j30 :: j31 :: j32 :: j33 :: j34 :: j35 :: j36 :: j37 :: j38 :: j39 :: j40 :: j41 :: j42 :: j43 :: j44 :: j45 :: j46 :: j47 :: j48 :: j49 :: j50 :: j51 :: j52 :: j53 :: j54 :: j55 :: j56 :: j57 :: j58 :: j59 :: j60 :: j61 :: j62 :: j63 :: j64 :: j65 :: j66 :: j67 :: j68 :: j69 :: j70 :: j71 :: j72 :: j73 :: j74 :: j75 :: j76 :: j77 :: j78 :: j79 :: j80 :: j81 :: j82 :: j83 :: j84 :: j85 :: j86 :: j87 :: j88 :: j89 :: j90 :: j91 :: j92 :: j93 :: j94 :: [])) H kp).symm.trans (graph_Node_check_P11_x j0 j1 j2 j3 j4 j5 j6 j7 j8 j9 j10 j11 j12 j13 j14 j15 j16 j17 j18 j19 j20 j21 j22 j23 j24 j25 j26 j27 j28 j29 j30 j31 j32 j33 j34 j35 j36 j37 j38 j39 j40 j41 j42 j43 j44 j45 j46 j47 j48 j49 j50 j51 j52 j53 j54 j55 j56 j57 j58 j59 j60 j61 j62 j63 j64 j65 j66 j67 j68 j69 j70 j71 j72 j73 j74 j75 j76 j77 j78 j79 j80 j81 j82 j83 j84 j85 j86 j87 j88 j89 j90 j91 j92 j93 j94 H (awp Tryz.prog graph_Node_check_ann) kp)

def graph_Node_check_P12 (j1 j2 j3 j6 j9 j39 : AV) (H : List Ob) (_ : Code → List AV → List Ob → Ko → Prop) (kp : Ko) : Prop :=
  aGuard j39
  (kp .normal (.top :: j1 :: j2 :: j3 :: .top :: .top :: j6 :: .top :: .top :: j9 :: .top :: .top :: .top :: .top :: .top :: .top :: .top :: .top :: .top :: .top :: .top :: .top :: .top :: .top :: .top :: .top :: .top :: .top :: .top :: .top :: .top :: .top :: .top :: .top :: .top :: .top :: .top :: .top :: .top :: (.p (.bool true)) :: .top :: .top :: .top :: .top :: .top :: .top :: .top :: .top :: .top :: .top :: .top :: .top :: .top :: .top :: .top :: .top :: .top :: .top :: .top :: .top :: .top :: .top :: .top :: .top :: .top :: .top :: .top :: .top :: .top :: .top :: .top :: .top :: .top :: .top :: .top :: .top :: .top :: .top :: .top :: .top :: .top :: .top :: .top :: .top :: .top :: .top :: .top :: .top :: .top :: .top :: .top :: .top :: .top :: .top :: .top :: []) H)
  (aLoad true 21 j3 H fun v50 =>
  aCall Tryz.prog (.p (.func graph_Node_ins_i [])) [v50, j1] H fun v51 h52 =>
  aUn .not v51 fun v53 =>
  kp .normal (.top :: j1 :: j2 :: j3 :: .top :: .top :: j6 :: .top :: .top :: j9 :: .top :: .top :: .top :: .top :: .top :: .top :: .top :: .top :: .top :: .top :: .top :: .top :: .top :: .top :: .top :: .top :: .top :: .top :: .top :: .top :: .top :: .top :: .top :: .top :: .top :: .top :: .top :: .top :: .top :: v53 :: .top :: .top :: .top :: .top :: .top :: .top :: .top :: .top :: .top :: .top :: .top :: .top :: .top :: .top :: v50 :: j1 :: v51 :: v53 :: .top :: .top :: .top :: .top :: .top :: .top :: .top :: .top :: .top :: .top :: .top :: .top :: .top :: .top :: .top :: .top :: .top :: .top :: .top :: .top :: .top :: .top :: .top :: .top :: .top :: .top :: .top :: .top :: .top :: .top :: .top :: .top :: .top :: .top :: .top :: .top :: .top :: []) h52)

theorem graph_Node_check_P12_x (j0 j1 j2 j3 j4 j5 j6 j7 j8 j9 j10 j11 j12 j13 j14 j15 j16 j17 j18 j19 j20 j21 j22 j23 j24 j25 j26 j27 j28 j29 j30 j31 j32 j33 j34 j35 j36 j37 j38 j39 j40 j41 j42 j43 j44 j45 j46 j47 j48 j49 j50 j51 j52 j53 j54 j55 j56 j57 j58 j59 j60 j61 j62 j63 j64 j65 j66 j67 j68 j69 j70 j71 j72 j73 j74 j75 j76 j77 j78 j79 j80 j81 j82 j83 j84 j85 j86 j87 j88 j89 j90 j91 j92 j93 j94 : AV) (H : List Ob) (self : Code → List AV → List Ob → Ko → Prop) (kp : Ko) : awpX Tryz.prog graph_Node_check_ann self graph_Node_check_cut graph_Node_check_c12 (keepS [1, 2, 3, 6, 9, 39, 9999] 0 (j0 :: j1 :: j2 :: j3 :: j4 :: j5 :: j6 :: j7 :: j8 :: j9 :: j10 :: j11 :: j12 :: j13 :: j14 :: j15 :: j16 :: j17 :: j18 :: j19 :: j20 :: j21 :: j22 :: j23 :: j24 :: j25 :: j26 :: j27 :: j28 :: j29 :: j30 :: j31 :: j32 :: j33 :: j34 :: j35 :: j36 :: j37 :: j38 :: j39 :: j40 :: j41 :: j42 :: j43 :: j44 :: j45 :: j46 :: j47 :: j48 :: j49 :: j50 :: j51 :: j52 :: j53 :: j54 :: j55 :: j56 :: j57 :: j58 :: j59 :: j60 :: j61 :: j62 :: j63 :: j64 :: j65 :: j66 :: j67 :: j68 :: j69 :: j70 :: j71 :: j72 :: j73 :: j74 :: j75 :: j76 :: j77 :: j78 :: j79 :: j80 :: j81 :: j82 :: j83 :: j84 :: j85 :: j86 :: j87 :: j88 :: j89 :: j90 :: j91 :: j92 :: j93 :: j94 :: [])) H kp = graph_Node_check_P12 j1 j2 j3 j6 j9 j39 H self kp := by kernel_rfl

theorem graph_Node_check_c12_eq (j0 j1 j2 j3 j4 j5 j6 j7 j8 j9 j10 j11 j12 j13 j14 j15 j16 j17 j18 j19 j20 j21 j22 j23 j24 j25 j26 j27 j28 j29 j30 j31 j32 j33 j34 j35 j36 j37 j38 j39 j40 j41 j42 j43 j44 j45 j46 j47 j48 j49 j50 j51 j52 j53 j54 j55 j56 j57 j58 j59 j60 j61 j62 j63 j64 j65 j66 j67 j68 j69 j70 j71 j72 j73 j74 j75 j76 j77 j78 j79 j80 j81 j82 j83 j84 j85 j86 j87 j88 j89 j90 j91 j92 j93 j94 : AV) (H : List Ob) (kp : Ko) : awp Tryz.prog graph_Node_check_ann graph_Node_check_c12 (keepS [1, 2, 3, 6, 9, 39, 9999] 0 (j0 :: j1 :: j2 :: j3 :: j4 :: j5 :: j6 :: j7 :: j8 :: j9 :: j10 :: j11 :: j12 :: j13 :: j14 :: j15 :: j16 :: j17 :: j18 :: j19 :: j20 :: j21 :: j22 :: j23 :: j24 :: j25 :: j26 :: j27 :: j28 :: j29 :: j30 :: j31 :: j32 :: j33 :: j34 :: j35 :: j36 :: j37 :: j38 :: j39 :: j40 :: j41 :: j42 :: j43 :: j44 :: j45 :: j46 :: j47 :: j48 :: j49 :: j50 :: j51 :: j52 :: j53 :: j54 :: j55 :: j56 :: j57 :: j58 :: j59 :: j60 :: j61 :: j62 :: j63 :: j64 :: j65 :: j66 :: j67 :: j68 :: j69 :: j70 :: j71 :: j72 :: j73 :: j74 :: j75 :: j76 :: j77 :: j78 :: j79 :: j80 :: j81 :: j82 :: j83 :: j84 :: j85 :: j86 :: j87 :: j88 :: j89 :: j90 :: j91 :: j92 :: j93 :: j94 :: [])) H kp = graph_Node_check_P12 j1 j2 j3 j6 j9 j39 H (awp Tryz.prog graph_Node_check_ann) kp :=
  (awpX_eq Tryz.prog graph_Node_check_ann graph_Node_check_cut graph_Node_check_c12 (keepS [1, 2, 3, 6, 9, 39, 9999] 0 (j0 :: j1 :: j2 :: j3 :: j4 :: j5 :: j6 :: j7 :: j8 :: j9 :: j10 :: j11 :: j12 :: j13 :: j14 :: j15 :: j16 :: j17 :: j18 :: j19 :: j20 :: j21 :: j22 :: j23 :: j24 :: j25 :: j26 :: j27 :: j28 :: j29 :: j30 :: j31 :: j32 :: j33 :: j34 :: j35 :: j36 :: j37 :: j38 :: j39 :: j40 :: j41 :: j42 :: j43 :: j44 :: j45 :: j46 :: j47 :: j48 :: j49 :: j50 :: j51 :: j52 :: j53 :: j54 :: j55 :: j56 :: j57 :: j58 :: j59 :: j60 :: j61 :: j62 :: j63 :: j64 :: j65 :: j66 :: j67 :: j68 :: j69 :: j70 :: j71 :: j72 :: j73 :: j74 :: j75 :: j76 :: j77 :: j78 :: j79 :: j80 :: j81 :: j82 :: j83 :: j84 :: j85 :: j86 :: j87 :: j88 :: j89 :: j90 :: j91 :: j92 :: j93 :: j94 :: [])) H kp).symm.trans (graph_Node_check_P12_x j0 j1 j2 j3 j4 j5 j6 j7 j8 j9 j10 j11 j12 j13 j14 j15 j16 j17 j18 j19 j20 j21 j22 j23 j24 j25 j26 j27 j28 j29 j30 j31 j32 j33 j34 j35 j36 j37 j38 j39 j40 j41 j42 j43 j44 j45 j46 j47 j48 j49 j50 j51 j52 j53 j54 j55 j56 j57 j58 j59 j60 j61 j62 j63 j64 j65 j66 j67 j68 j69 j70 j71 j72 j73 j74 j75 j76 j77 j78 j79 j80 j81 j82 j83 j84 j85 j86 j87 j88 j89 j90 j91 j92 j93 j94 H (awp Tryz.prog graph_Node_check_ann) kp)

def graph_Node_check_P13 (j1 j2 j3 j6 j9 j39 : AV) (H : List Ob) (_ : Code → List AV → List Ob → Ko → Prop) (kp : Ko) : Prop :=
  aGuard j39
  (aBuild [(.p (.int .i64 0)), (.full [])] [] fun v54 =>
  aStore 2 j6 v54 H fun _ h56 =>
  kp .ret (.top :: j1 :: j2 :: j3 :: .top :: .top :: j6 :: (.p (.int .i64 1)) :: .top :: j9 :: .top :: .top :: .top :: .top :: .top :: .top :: .top :: .top :: .top :: .top :: .top :: .top :: .top :: .top :: .top :: .top :: .top :: .top :: .top :: .top :: .top :: .top :: .top :: .top :: .top :: .top :: .top :: .top :: .top :: (.p (.bool true)) :: .top :: .top :: .top :: .top :: .top :: .top :: .top :: .top :: .top :: .top :: .top :: .top :: .top :: .top :: .top :: .top :: .top :: .top :: v54 :: .top :: .top :: .top :: .top :: .top :: .top :: .top :: .top :: .top :: .top :: .top :: .top :: .top :: .top :: .top :: .top :: .top :: .top :: .top :: .top :: .top :: .top :: .top :: .top :: .top :: .top :: .top :: .top :: .top :: .top :: .top :: .top :: .top :: .top :: .top :: .top :: []) h56)
  (kp .normal (.top :: j1 :: j2 :: j3 :: .top :: .top :: j6 :: .top :: .top :: j9 :: .top :: .top :: .top :: .top :: .top :: .top :: .top :: .top :: .top :: .top :: .top :: .top :: .top :: .top :: .top :: .top :: .top :: .top :: .top :: .top :: .top :: .top :: .top :: .top :: .top :: .top :: .top :: .top :: .top :: (.p (.bool false)) :: .top :: .top :: .top :: .top :: .top :: .top :: .top :: .top :: .top :: .top :: .top :: .top :: .top :: .top :: .top :: .top :: .top :: .top :: .top :: .top :: .top :: .top :: .top :: .top :: .top :: .top :: .top :: .top :: .top :: .top :: .top :: .top :: .top :: .top :: .top :: .top :: .top :: .top :: .top :: .top :: .top :: .top :: .top :: .top :: .top :: .top :: .top :: .top :: .top :: .top :: .top :: .top :: .top :: .top :: .top :: []) H)

theorem graph_Node_check_P13_x (j0 j1 j2 j3 j4 j5 j6 j7 j8 j9 j10 j11 j12 j13 j14 j15 j16 j17 j18 j19 j20 j21 j22 j23 j24 j25 j26 j27 j28 j29 j30 j31 j32 j33 j34 j35 j36 j37 j38 j39 j40 j41 j42 j43 j44 j45 j46 j47 j48 j49 j50 j51 j52 j53 j54 j55 j56 j57 j58 j59 j60 j61 j62 j63 j64 j65 j66 j67 j68 j69 j70 j71 j72 j73 j74 j75 j76 j77 j78 j79 j80 j81 j82 j83 j84 j85 j86 j87 j88 j89 j90 j91 j92 j93 j94 : AV) (H : List Ob) (self : Code → List AV → List Ob → Ko → Prop) (kp : Ko) : awpX Tryz.prog graph_Node_check_ann self graph_Node_check_cut graph_Node_check_c13 (keepS [1, 2, 3, 6, 9, 39, 9999] 0 (j0 :: j1 :: j2 :: j3 :: j4 :: j5 :: j6 :: j7 :: j8 :: j9 :: j10 :: j11 :: j12 :: j13 :: j14 :: j15 :: j16 :: j17 :: j18 :: j19 :: j20 :: j21 :: j22 :: j23 :: j24 :: j25 :: j26 :: j27 :: j28 :: j29 :: j30 :: j31 :: j32 :: j33 :: j34 :: j35 :: j36 :: j37 :: j38 :: j39 :: j40 :: j41 :: j42 :: j43 :: j44 :: j45 :: j46 :: j47 :: j48 :: j49 :: j50 :: j51 :: j52 :: j53 :: j54 :: j55 :: j56 :: j57 :: j58 :: j59 :: j60 :: j61 :: j62 :: j63 :: j64 :: j65 :: j66 :: j67 :: j68 :: j69 :: j70 :: j71 :: j72 :: j73 :: j74 :: j75 :: j76 :: j77 :: j78 :: j79 :: j80 :: j81 :: j82 :: j83 :: j84 :: j85 :: j86 :: j87 :: j88 :: j89 :: j90 :: j91 :: j92 :: j93 :: j94 :: [])) H kp = graph_Node_check_P13 j1 j2 j3 j6 j9 j39 H self kp := by kernel_rfl

theorem graph_Node_check_c13_eq (j0 j1 j2 j3 j4 j5 j6 j7 j8 j9 j10 j11 j12 j13 j14 j15 j16 j17 j18 j19 j20 j21 j22 j23 j24 j25 j26 j27 j28 j29 j30 j31 j32 j33 j34 j35 j36 j37 j38 j39 j40 j41 j42 j43 j44 j45 j46 j47 j48 j49 j50 j51 j52 j53 j54 j55 j56 j57 j58 j59 j60 j61 j62 j63 j64 j65 j66 j67 j68 j69 j70 j71 j72 j73 j74 j75 j76 j77 j78 j79 j80 j81 j82 j83 j84 j85 j86 j87 j88 j89 j90 j91 j92 j93 j94 : AV) (H : List Ob) (kp : Ko) : awp Tryz.prog graph_Node_check_ann graph_Node_check_c13 (keepS [1, 2, 3, 6, 9, 39, 9999] 0 (j0 :: j1 :: j2 :: j3 :: j4 :: j5 :: j6 :: j7 :: j8 :: j9 :: j10 :: j11 :: j12 :: j13 :: j14 :: j15 :: j16 :: j17 :: j18 :: j19 :: j20 :: j21 :: j22 :: j23 :: j24 :: j25 :: j26 :: j27 :: j28 :: j29 :: j30 :: j31 :: j32 :: j33 :: j34 :: j35 :: j36 :: j37 :: j38 :: j39 :: j40 :: j41 :: j42 :: j43 :: j44 :: j45 :: j46 :: j47 :: j48 :: j49 :: j50 :: j51 :: j52 :: j53 :: j54 :: j55 :: j56 :: j57 :: j58 :: j59 :: j60 :: j61 :: j62 :: j63 :: j64 :: j65 :: j66 :: j67 :: j68 :: j69 :: j70 :: j71 :: j72 :: j73 :: j74 :: j75 :: j76 :: j77 :: j78 :: j79 :: j80 :: j81 :: j82 :: j83 :: j84 :: j85 :: j86 :: j87 :: j88 :: j89 :: j90 :: j91 :: j92 :: j93 :: j94 :: [])) H kp = graph_Node_check_P13 j1 j2 j3 j6 j9 j39 H (awp Tryz.prog graph_Node_check_ann) kp :=
  (awpX_eq Tryz.prog graph_Node_check_ann graph_Node_check_cut graph_Node_check_c13 (keepS [1, 2, 3, 6, 9, 39, 9999] 0 (j0 :: j1 :: j2 :: j3 :: j4 :: j5 :: j6 :: j7 :: j8 :: j9 :: j10 :: j11 :: j12 :: j13 :: j14 :: j15 :: j16 :: j17 :: j18 :: j19 :: j20 :: j21 :: j22 :: j23 :: j24 :: j25 :: j26 :: j27 :: j28 :: j29 :: j30 :: j31 :: j32 :: j33 :: j34 :: j35 :: j36 :: j37 :: j38 :: j39 :: j40 :: j41 :: j42 :: j43 :: j44 :: j45 :: j46 :: j47 :: j48 :: j49 :: j50 :: j51 :: j52 :: j53 :: j54 :: j55 :: j56 :: j57 :: j58 :: j59 :: j60 :: j61 :: j62 :: j63 :: j64 :: j65 :: j66 :: j67 :: j68 :: j69 :: j70 :: j71 :: j72 :: j73 :: j74 :: j75 :: j76 :: j77 :: j78 :: j79 :: j80 :: j81 :: j82 :: j83 :: j84 :: j85 :: j86 :: j87 :: j88 :: j89 :: j90 :: j91 :: j92 :: j93 :: j94 :: [])) H kp).symm.trans (graph_Node_check_P13_x j0 j1 j2 j3 j4 j5 j6 j7 j8 j9 j10 j11 j12 j13 j14 j15 j16 j17 j18 j19 j20 j21 j22 j23 j24 j25 j26 j27 j28 j29 j30 j31 j32 j33 j34 j35 j36 j37 j38 j39 j40 j41 j42 j43 j44 j45 j46 j47 j48 j49 j50 j51 j52 j53 j54 j55 j56 j57 j58 j59 j60 j61 j62 j63 j64 j65 j66 j67 j68 j69 j70 j71 j72 j73 j74 j75 j76 j77 j78 j79 j80 j81 j82 j83 j84 j85 j86 j87 j88 j89 j90 j91 j92 j93 j94 H (awp Tryz.prog graph_Node_check_ann) kp)

def graph_Node_check_P14 (j1 j2 j3 j6 j9 : AV) (H : List Ob) (self : Code → List AV → List Ob → Ko → Prop) (kp : Ko) : Prop :=
  aAlloc [(.p (.int .i64 0)), (.full [])] H fun v57 h58 =>
  aFieldAddr 1 j3 fun v59 =>
  aLoad true 15 v59 h58 fun v60 =>
  aFieldAddr 16 j3 fun v61 =>
  aLoad false 1 v61 h58 fun v62 =>
  aCallT Tryz.prog (.p (.func graph_of_i [])) [j2, v62] fun v63 =>
  aCallT Tryz.prog (.p (.func op_Out_i [])) [v60, v63] fun v64 =>
  aExtract v64 0 fun v65 =>
  aExtract v64 1 fun v66 =>
  aStore 2 v57 v65 h58 fun _ h68 =>
  self graph_Node_check_c15 (keepS [1, 3, 6, 9, 10, 11, 9999] 0 (.top :: j1 :: j2 :: j3 :: .top :: .top :: j6 :: .top :: .top :: j9 :: v57 :: v66 :: .top :: .top :: .top :: .top :: .top :: .top :: .top :: .top :: .top :: .top :: .top :: .top :: .top :: .top :: .top :: .top :: .top :: .top :: .top :: .top :: .top :: .top :: .top :: .top :: .top :: .top :: .top :: .top :: .top :: .top :: .top :: .top :: .top :: .top :: .top :: .top :: .top :: .top :: .top :: .top :: .top :: .top :: .top :: .top :: .top :: .top :: .top :: v64 :: v59 :: v60 :: j2 :: v61 :: v62 :: v63 :: v64 :: v65 :: v66 :: .top :: .top :: .top :: .top :: .top :: .top :: .top :: .top :: .top :: .top :: .top :: .top :: .top :: .top :: .top :: .top :: .top :: .top :: .top :: .top :: .top :: .top :: .top :: .top :: .top :: .top :: [])) h68 kp

theorem graph_Node_check_P14_x (j0 j1 j2 j3 j4 j5 j6 j7 j8 j9 j10 j11 j12 j13 j14 j15 j16 j17 j18 j19 j20 j21 j22 j23 j24 j25 j26 j27 j28 j29 j30 j31 j32 j33 j34 j35 j36 j37 j38 j39 j40 j41 j42 j43 j44 j45 j46 j47 j48 j49 j50 j51 j52 j53 j54 j55 j56 j57 j58 j59 j60 j61 j62 j63 j64 j65 j66 j67 j68 j69 j70 j71 j72 j73 j74 j75 j76 j77 j78 j79 j80 j81 j82 j83 j84 j85 j86 j87 j88 j89 j90 j91 j92 j93 j94 : AV) (H : List Ob) (self : Code → List AV → List Ob → Ko → Prop) (kp : Ko) : awpX Tryz.prog graph_Node_check_ann self graph_Node_check_cut graph_Node_check_c14 (keepS [1, 2, 3, 6, 9, 9999] 0 (j0 :: j1 :: j2 :: j3 :: j4 :: j5 :: j6 :: j7 :: j8 :: j9 :: j10 :: j11 :: j12 :: j13 :: j14 :: j15 :: j16 :: j17 :: j18 :: j19 :: j20 :: j21 :: j22 :: j23 :: j24 :: j25 :: j26 :: j27 :: j28 :: j29 :: j30 :: j31 :: j32 :: j33 :: j34 :: j35 :: j36 :: j37 :: j38 :: j39 :: j40 :: j41 :: j42 :: j43 :: j44 :: j45 :: j46 :: j47 :: j48 :: j49 :: j50 :: j51 :: j52 :: j53 :: j54 :: j55 :: j56 :: j57 :: j58 :: j59 :: j60 :: j61 :: j62 :: j63 :: j64 :: j65 :: j66 :: j67 :: j68 :: j69 :: j70 :: j71 :: j72 :: j73 :: j74 :: j75 :: j76 :: j77 :: j78 :: j79 :: j80 :: j81 :: j82 :: j83 :: j84 :: j85 :: j86 :: j87 :: j88 :: j89 :: j90 :: j91 :: j92 :: j93 :: j94 :: [])) H kp = graph_Node_check_P14 j1 j2 j3 j6 j9 H self kp := by kernel_rfl

theorem graph_Node_check_c14_eq (j0 j1 j2 j3 j4 j5 j6 j7 j8 j9 j10 j11 j12 j13 j14 j15 j16 j17 j18 j19 j20 j21 j22 j23 j24 j25 j26 j27 j28 j29 j30 j31 j32 j33 j34 j35 j36 j37 j38 j39 j40 j41 j42 j43 j44 j45 j46 j47 j48 j49 j50 j51 j52 j53 j54 j55 j56 j57 j58 j59 j60 j61 j62 j63 j64 j65 j66 j67 j68 j69 j70 j71 j72 j73 j74 j75 j76 j77 j78 j79 j80 j81 j82 j83 j84 j85 j86 j87 j88 j89 j90 j91 j92 j93 j94 : AV) (H : List Ob) (kp : Ko) : awp Tryz.prog graph_Node_check_ann graph_Node_check_c14 (keepS [1, 2, 3, 6, 9, 9999] 0 (j0 :: j1 :: j2 :: j3 :: j4 :: j5 :: j6 :: j7 :: j8 :: j9 :: j10 :: j11 :: j12 :: j13 :: j14 :: j15 :: j16 :: j17 :: j18 :: j19 :: j20 :: j21 :: j22 :: j23 :: j24 :: j25 :: j26 :: j27 :: j28 :: j29 :: j30 :: j31 :: j32 :: j33 :: j34 :: j35 :: j36 :: j37 :: j38 :: j39 :: j40 :: j41 :: j42 :: j43 :: j44 :: j45 :: j46 :: j47 :: j48 :: j49 :: j50 :: j51 :: j52 :: j53 :: j54 :: j55 :: j56 :: j57 :: j58 :: j59 :: j60 :: j61 :: j62 :: j63 :: j64 :: j65 :: j66 :: j67 :: j68 :: j69 :: j70 :: j71 :: j72 :: j73 :: j74 :: j75 :: j76 :: j77 :: j78 :: j79 :: j80 :: j81 :: j82 :: j83 :: j84 :: j85 :: j86 :: j87 :: j88 :: j89 :: j90 :: j91 :: j92 :: j93 :: j94 :: [])) H kp = graph_Node_check_P14 j1 j2 j3 j6 j9 H (awp Tryz.prog graph_Node_check_ann) kp :=
  (awpX_eq Tryz.prog graph_Node_check_ann graph_Node_check_cut graph_Node_check_c14 (keepS [1, 2, 3, 6, 9, 9999] 0 (j0 :: j1 :: j2 :: j3 :: j4 :: j5 :: j6 :: j7 :: j8 :: j9 :: j10 :: j11 :: j12 :: j13 :: j14 :: j15 :: j16 :: j17 :: j18 :: j19 :: j20 :: j21 :: j22 :: j23 :: j24 :: j25 :: j26 :: j27 :: j28 :: j29 :: j30 :: j31 :: j32 :: j33 :: j34 :: j35 :: j36 :: j37 :: j38 :: j39 :: j40 :: j41 :: j42 :: j43 :: j44 :: j45 :: j46 :: j47 :: j48 :: j49 :: j50 :: j51 :: j52 :: j53 :: j54 :: j55 :: j56 :: j57 :: j58 :: j59 :: j60 :: j61 :: j62 :: j63 :: j64 :: j65 :: j66 :: j67 :: j68 :: j69 :: j70 :: j71 :: j72 :: j73 :: j74 :: j75 :: j76 :: j77 :: j78 :: j79 :: j80 :: j81 :: j82 :: j83 :: j84 :: j85 :: j86 :: j87 :: j88 :: j89 :: j90 :: j91 :: j92 :: j93 :: j94 :: [])) H kp).symm.trans (graph_Node_check_P14_x j0 j1 j2 j3 j4 j5 j6 j7 j8 j9 j10 j11 j12 j13 j14 j15 j16 j17 j18 j19 j20 j21 j22 j23 j24 j25 j26 j27 j28 j29 j30 j31 j32 j33 j34 j35 j36 j37 j38 j39 j40 j41 j42 j43 j44 j45 j46 j47 j48 j49 j50 j51 j52 j53 j54 j55 j56 j57 j58 j59 j60 j61 j62 j63 j64 j65 j66 j67 j68 j69 j70 j71 j72 j73 j74 j75 j76 j77 j78 j79 j80 j81 j82 j83 j84 j85 j86 j87 j88 j89 j90 j91 j92 j93 j94 H (awp Tryz.prog graph_Node_check_ann) kp)

def graph_Node_check_P15 (j1 j3 j6 j9 j10 j11 : AV) (H : List Ob) (self : Code → List AV → List Ob → Ko → Prop) (kp : Ko) : Prop :=
  aBin false false .eql j11 (.p (.int .i64 0)) fun v69 =>
  (aGuard v69
  ((aCall Tryz.prog (.p (.func slices_Clone_graph_Graph_graph_Node_i [])) [j1] H fun v70 h71 =>
  aLoad true 21 j3 h71 fun v72 =>
  aBuildSlice 21 [v72] fun v73 =>
  aAppend false 21 288 v70 v73 h71 fun v74 h75 =>
  aCall Tryz.prog (.p (.func graph_weight_i [])) [v74] h75 fun v76 h77 =>
  aBin false false .gtr v76 (.p (.int .i64 64)) fun v78 =>
  aGuard v78
  (self graph_Node_check_c17 (keepS [1, 3, 6, 9, 10, 11, 9999] 0 (.top :: j1 :: .top :: j3 :: .top :: .top :: j6 :: .top :: .top :: j9 :: j10 :: (.p (.int .i64 10)) :: .top :: .top :: .top :: .top :: .top :: .top :: .top :: .top :: .top :: .top :: .top :: .top :: .top :: .top :: .top :: .top :: .top :: .top :: .top :: .top :: .top :: .top :: .top :: .top :: .top :: .top :: .top :: .top :: .top :: .top :: .top :: .top :: .top :: .top :: .top :: .top :: .top :: .top :: .top :: .top :: .top :: .top :: .top :: .top :: .top :: .top :: .top :: .top :: .top :: .top :: .top :: .top :: .top :: .top :: .top :: .top :: .top :: j11 :: v69 :: (.p (.bool true)) :: j1 :: v70 :: v72 :: v73 :: v74 :: v76 :: v78 :: (.p (.bool true)) :: .top :: .top :: .top :: .top :: .top :: .top :: .top :: .top :: .top :: .top :: .top :: .top :: .top :: .top :: .top :: [])) h77 kp)
  (self graph_Node_check_c17 (keepS [1, 3, 6, 9, 10, 11, 9999] 0 (.top :: j1 :: .top :: j3 :: .top :: .top :: j6 :: .top :: .top :: j9 :: j10 :: j11 :: .top :: .top :: .top :: .top :: .top :: .top :: .top :: .top :: .top :: .top :: .top :: .top :: .top :: .top :: .top :: .top :: .top :: .top :: .top :: .top :: .top :: .top :: .top :: .top :: .top :: .top :: .top :: .top :: .top :: .top :: .top :: .top :: .top :: .top :: .top :: .top :: .top :: .top :: .top :: .top :: .top :: .top :: .top :: .top :: .top :: .top :: .top :: .top :: .top :: .top :: .top :: .top :: .top :: .top :: .top :: .top :: .top :: j11 :: v69 :: (.p (.bool true)) :: j1 :: v70 :: v72 :: v73 :: v74 :: v76 :: v78 :: (.p (.bool false)) :: .top :: .top :: .top :: .top :: .top :: .top :: .top :: .top :: .top :: .top :: .top :: .top :: .top :: .top :: .top :: [])) h77 kp)) ∧
  (aLoad true 21 j3 H fun v79 =>
  (aCall Tryz.prog (.p (.func slices_Clone_graph_Graph_graph_Node_i [])) [j1] H fun v80 h81 =>
  aBuildSlice 21 [v79] fun v82 =>
  aAppend false 21 288 v80 v82 h81 fun v83 h84 =>
  aCall Tryz.prog (.p (.func graph_weight_i [])) [v83] h84 fun v85 h86 =>
  aBin false false .gtr v85 (.p (.int .i64 64)) fun v87 =>
  aGuard v87
  (self graph_Node_check_c17 (keepS [1, 3, 6, 9, 10, 11, 9999] 0 (.top :: j1 :: .top :: j3 :: .top :: .top :: j6 :: .top :: .top :: j9 :: j10 :: (.p (.int .i64 10)) :: .top :: .top :: .top :: .top :: .top :: .top :: .top :: .top :: .top :: .top :: .top :: .top :: .top :: .top :: .top :: .top :: .top :: .top :: .top :: .top :: .top :: .top :: .top :: .top :: .top :: .top :: .top :: .top :: .top :: .top :: .top :: .top :: .top :: .top :: .top :: .top :: .top :: .top :: .top :: .top :: .top :: .top :: .top :: .top :: .top :: .top :: .top :: .top :: .top :: .top :: .top :: .top :: .top :: .top :: .top :: .top :: .top :: j11 :: v69 :: (.p (.bool true)) :: j1 :: v80 :: v79 :: v82 :: v83 :: v85 :: v87 :: (.p (.bool true)) :: .top :: .top :: .top :: .top :: .top :: .top :: .top :: .top :: .top :: .top :: .top :: .top :: .top :: .top :: .top :: [])) h86 kp)
  (self graph_Node_check_c17 (keepS [1, 3, 6, 9, 10, 11, 9999] 0 (.top :: j1 :: .top :: j3 :: .top :: .top :: j6 :: .top :: .top :: j9 :: j10 :: j11 :: .top :: .top :: .top :: .top :: .top :: .top :: .top :: .top :: .top :: .top :: .top :: .top :: .top :: .top :: .top :: .top :: .top :: .top :: .top :: .top :: .top :: .top :: .top :: .top :: .top :: .top :: .top :: .top :: .top :: .top :: .top :: .top :: .top :: .top :: .top :: .top :: .top :: .top :: .top :: .top :: .top :: .top :: .top :: .top :: .top :: .top :: .top :: .top :: .top :: .top :: .top :: .top :: .top :: .top :: .top :: .top :: .top :: j11 :: v69 :: (.p (.bool true)) :: j1 :: v80 :: v79 :: v82 :: v83 :: v85 :: v87 :: (.p (.bool false)) :: .top :: .top :: .top :: .top :: .top :: .top :: .top :: .top :: .top :: .top :: .top :: .top :: .top :: .top :: .top :: [])) h86 kp)) ∧
  (aBuildSlice 21 [v79] fun v88 =>
  aCall Tryz.prog (.p (.func slices_Clone_graph_Graph_graph_Node_i [])) [j1] H fun v89 h90 =>
  aAppend false 21 288 v89 v88 h90 fun v91 h92 =>
  aCall Tryz.prog (.p (.func graph_weight_i [])) [v91] h92 fun v93 h94 =>
  aBin false false .gtr v93 (.p (.int .i64 64)) fun v95 =>
  aGuard v95
  (self graph_Node_check_c17 (keepS [1, 3, 6, 9, 10, 11, 9999] 0 (.top :: j1 :: .top :: j3 :: .top :: .top :: j6 :: .top :: .top :: j9 :: j10 :: (.p (.int .i64 10)) :: .top :: .top :: .top :: .top :: .top :: .top :: .top :: .top :: .top :: .top :: .top :: .top :: .top :: .top :: .top :: .top :: .top :: .top :: .top :: .top :: .top :: .top :: .top :: .top :: .top :: .top :: .top :: .top :: .top :: .top :: .top :: .top :: .top :: .top :: .top :: .top :: .top :: .top :: .top :: .top :: .top :: .top :: .top :: .top :: .top :: .top :: .top :: .top :: .top :: .top :: .top :: .top :: .top :: .top :: .top :: .top :: .top :: j11 :: v69 :: (.p (.bool true)) :: j1 :: v89 :: v79 :: v88 :: v91 :: v93 :: v95 :: (.p (.bool true)) :: .top :: .top :: .top :: .top :: .top :: .top :: .top :: .top :: .top :: .top :: .top :: .top :: .top :: .top :: .top :: [])) h94 kp)
  (self graph_Node_check_c17 (keepS [1, 3, 6, 9, 10, 11, 9999] 0 (.top :: j1 :: .top :: j3 :: .top :: .top :: j6 :: .top :: .top :: j9 :: j10 :: j11 :: .top :: .top :: .top :: .top :: .top :: .top :: .top :: .top :: .top :: .top :: .top :: .top :: .top :: .top :: .top :: .top :: .top :: .top :: .top :: .top :: .top :: .top :: .top :: .top :: .top :: .top :: .top :: .top :: .top :: .top :: .top :: .top :: .top :: .top :: .top :: .top :: .top :: .top :: .top :: .top :: .top :: .top :: .top :: .top :: .top :: .top :: .top :: .top :: .top :: .top :: .top :: .top :: .top :: .top :: .top :: .top :: .top :: j11 :: v69 :: (.p (.bool true)) :: j1 :: v89 :: v79 :: v88 :: v91 :: v93 :: v95 :: (.p (.bool false)) :: .top :: .top :: .top :: .top :: .top :: .top :: .top :: .top :: .top :: .top :: .top :: .top :: .top :: .top :: .top :: [])) h94 kp))))
  ((self graph_Node_check_c17 (keepS [1, 3, 6, 9, 10, 11, 9999] 0 (.top :: j1 :: .top :: j3 :: .top :: .top :: j6 :: .top :: .top :: j9 :: j10 :: j11 :: .top :: .top :: .top :: .top :: .top :: .top :: .top :: .top :: .top :: .top :: .top :: .top :: .top :: .top :: .top :: .top :: .top :: .top :: .top :: .top :: .top :: .top :: .top :: .top :: .top :: .top :: .top :: .top :: .top :: .top :: .top :: .top :: .top :: .top :: .top :: .top :: .top :: .top :: .top :: .top :: .top :: .top :: .top :: .top :: .top :: .top :: .top :: .top :: .top :: .top :: .top :: .top :: .top :: .top :: .top :: .top :: .top :: j11 :: v69 :: (.p (.bool false)) :: (.tup []) :: (.tup []) :: (.tup []) :: (.tup []) :: (.tup []) :: (.tup []) :: (.tup []) :: (.p (.bool false)) :: .top :: .top :: .top :: .top :: .top :: .top :: .top :: .top :: .top :: .top :: .top :: .top :: .top :: .top :: .top :: [])) H kp) ∧
  ((self graph_Node_check_c17 (keepS [1, 3, 6, 9, 10, 11, 9999] 0 (.top :: j1 :: .top :: j3 :: .top :: .top :: j6 :: .top :: .top :: j9 :: j10 :: j11 :: .top :: .top :: .top :: .top :: .top :: .top :: .top :: .top :: .top :: .top :: .top :: .top :: .top :: .top :: .top :: .top :: .top :: .top :: .top :: .top :: .top :: .top :: .top :: .top :: .top :: .top :: .top :: .top :: .top :: .top :: .top :: .top :: .top :: .top :: .top :: .top :: .top :: .top :: .top :: .top :: .top :: .top :: .top :: .top :: .top :: .top :: .top :: .top :: .top :: .top :: .top :: .top :: .top :: .top :: .top :: .top :: .top :: j11 :: v69 :: (.p (.bool false)) :: (.tup []) :: (.tup []) :: (.tup []) :: (.tup []) :: (.tup []) :: (.tup []) :: (.tup []) :: (.p (.bool false)) :: .top :: .top :: .top :: .top :: .top :: .top :: .top :: .top :: .top :: .top :: .top :: .top :: .top :: .top :: .top :: [])) H kp) ∧
  (self graph_Node_check_c17 (keepS [1, 3, 6, 9, 10, 11, 9999] 0 (.top :: j1 :: .top :: j3 :: .top :: .top :: j6 :: .top :: .top :: j9 :: j10 :: j11 :: .top :: .top :: .top :: .top :: .top :: .top :: .top :: .top :: .top :: .top :: .top :: .top :: .top :: .top :: .top :: .top :: .top :: .top :: .top :: .top :: .top :: .top :: .top :: .top :: .top :: .top :: .top :: .top :: .top :: .top :: .top :: .top :: .top :: .top :: .top :: .top :: .top :: .top :: .top :: .top :: .top :: .top :: .top :: .top :: .top :: .top :: .top :: .top :: .top :: .top :: .top :: .top :: .top :: .top :: .top :: .top :: .top :: j11 :: v69 :: (.p (.bool false)) :: (.tup []) :: (.tup []) :: (.tup []) :: (.tup []) :: (.tup []) :: (.tup []) :: (.tup []) :: (.p (.bool false)) :: .top :: .top :: .top :: .top :: .top :: .top :: .top :: .top :: .top :: .top :: .top :: .top :: .top :: .top :: .top :: [])) H kp)))) ∧
  (aGuard v69
  (aLoad true 21 j3 H fun v96 =>
  ((aCall Tryz.prog (.p (.func slices_Clone_graph_Graph_graph_Node_i [])) [j1] H fun v97 h98 =>
  aBuildSlice 21 [v96] fun v99 =>
  aAppend false 21 288 v97 v99 h98 fun v100 h101 =>
  aCall Tryz.prog (.p (.func graph_weight_i [])) [v100] h101 fun v102 h103 =>
  aBin false false .gtr v102 (.p (.int .i64 64)) fun v104 =>
  aGuard v104
  (self graph_Node_check_c17 (keepS [1, 3, 6, 9, 10, 11, 9999] 0 (.top :: j1 :: .top :: j3 :: .top :: .top :: j6 :: .top :: .top :: j9 :: j10 :: (.p (.int .i64 10)) :: .top :: .top :: .top :: .top :: .top :: .top :: .top :: .top :: .top :: .top :: .top :: .top :: .top :: .top :: .top :: .top :: .top :: .top :: .top :: .top :: .top :: .top :: .top :: .top :: .top :: .top :: .top :: .top :: .top :: .top :: .top :: .top :: .top :: .top :: .top :: .top :: .top :: .top :: .top :: .top :: .top :: .top :: .top :: .top :: .top :: .top :: .top :: .top :: .top :: .top :: .top :: .top :: .top :: .top :: .top :: .top :: .top :: j11 :: v69 :: (.p (.bool true)) :: j1 :: v97 :: v96 :: v99 :: v100 :: v102 :: v104 :: (.p (.bool true)) :: .top :: .top :: .top :: .top :: .top :: .top :: .top :: .top :: .top :: .top :: .top :: .top :: .top :: .top :: .top :: [])) h103 kp)
  (self graph_Node_check_c17 (keepS [1, 3, 6, 9, 10, 11, 9999] 0 (.top :: j1 :: .top :: j3 :: .top :: .top :: j6 :: .top :: .top :: j9 :: j10 :: j11 :: .top :: .top :: .top :: .top :: .top :: .top :: .top :: .top :: .top :: .top :: .top :: .top :: .top :: .top :: .top :: .top :: .top :: .top :: .top :: .top :: .top :: .top :: .top :: .top :: .top :: .top :: .top :: .top :: .top :: .top :: .top :: .top :: .top :: .top :: .top :: .top :: .top :: .top :: .top :: .top :: .top :: .top :: .top :: .top :: .top :: .top :: .top :: .top :: .top :: .top :: .top :: .top :: .top :: .top :: .top :: .top :: .top :: j11 :: v69 :: (.p (.bool true)) :: j1 :: v97 :: v96 :: v99 :: v100 :: v102 :: v104 :: (.p (.bool false)) :: .top :: .top :: .top :: .top :: .top :: .top :: .top :: .top :: .top :: .top :: .top :: .top :: .top :: .top :: .top :: [])) h103 kp)) ∧
  (aBuildSlice 21 [v96] fun v105 =>
  aCall Tryz.prog (.p (.func slices_Clone_graph_Graph_graph_Node_i [])) [j1] H fun v106 h107 =>
  aAppend false 21 288 v106 v105 h107 fun v108 h109 =>
  aCall Tryz.prog (.p (.func graph_weight_i [])) [v108] h109 fun v110 h111 =>
  aBin false false .gtr v110 (.p (.int .i64 64)) fun v112 =>
  aGuard v112
  (self graph_Node_check_c17 (keepS [1, 3, 6, 9, 10, 11, 9999] 0 (.top :: j1 :: .top :: j3 :: .top :: .top :: j6 :: .top :: .top :: j9 :: j10 :: (.p (.int .i64 10)) :: .top :: .top :: .top :: .top :: .top :: .top :: .top :: .top :: .top :: .top :: .top :: .top :: .top :: .top :: .top :: .top :: .top :: .top :: .top :: .top :: .top :: .top :: .top :: .top :: .top :: .top :: .top :: .top :: .top :: .top :: .top :: .top :: .top :: .top :: .top :: .top :: .top :: .top :: .top :: .top :: .top :: .top :: .top :: .top :: .top :: .top :: .top :: .top :: .top :: .top :: .top :: .top :: .top :: .top :: .top :: .top :: .top :: j11 :: v69 :: (.p (.bool true)) :: j1 :: v106 :: v96 :: v105 :: v108 :: v110 :: v112 :: (.p (.bool true)) :: .top :: .top :: .top :: .top :: .top :: .top :: .top :: .top :: .top :: .top :: .top :: .top :: .top :: .top :: .top :: [])) h111 kp)
  (self graph_Node_check_c17 (keepS [1, 3, 6, 9, 10, 11, 9999] 0 (.top :: j1 :: .top :: j3 :: .top :: .top :: j6 :: .top :: .top :: j9 :: j10 :: j11 :: .top :: .top :: .top :: .top :: .top :: .top :: .top :: .top :: .top :: .top :: .top :: .top :: .top :: .top :: .top :: .top :: .top :: .top :: .top :: .top :: .top :: .top :: .top :: .top :: .top :: .top :: .top :: .top :: .top :: .top :: .top :: .top :: .top :: .top :: .top :: .top :: .top :: .top :: .top :: .top :: .top :: .top :: .top :: .top :: .top :: .top :: .top :: .top :: .top :: .top :: .top :: .top :: .top :: .top :: .top :: .top :: .top :: j11 :: v69 :: (.p (.bool true)) :: j1 :: v106 :: v96 :: v105 :: v108 :: v110 :: v112 :: (.p (.bool false)) :: .top :: .top :: .top :: .top :: .top :: .top :: .top :: .top :: .top :: .top :: .top :: .top :: .top :: .top :: .top :: [])) h111 kp))) ∧
  (aBuildSlice 21 [v96] fun v113 =>
  aCall Tryz.prog (.p (.func slices_Clone_graph_Graph_graph_Node_i [])) [j1] H fun v114 h115 =>
  aAppend false 21 288 v114 v113 h115 fun v116 h117 =>
  aCall Tryz.prog (.p (.func graph_weight_i [])) [v116] h117 fun v118 h119 =>
  aBin false false .gtr v118 (.p (.int .i64 64)) fun v120 =>
  aGuard v120
  (self graph_Node_check_c17 (keepS [1, 3, 6, 9, 10, 11, 9999] 0 (.top :: j1 :: .top :: j3 :: .top :: .top :: j6 :: .top :: .top :: j9 :: j10 :: (.p (.int .i64 10)) :: .top :: .top :: .top :: .top :: .top :: .top :: .top :: .top :: .top :: .top :: .top :: .top :: .top :: .top :: .top :: .top :: .top :: .top :: .top :: .top :: .top :: .top :: .top :: .top :: .top :: .top :: .top :: .top :: .top :: .top :: .top :: .top :: .top :: .top :: .top :: .top :: .top :: .top :: .top :: .top :: .top :: .top :: .top :: .top :: .top :: .top :: .top :: .top :: .top :: .top :: .top :: .top :: .top :: .top :: .top :: .top :: .top :: j11 :: v69 :: (.p (.bool true)) :: j1 :: v114 :: v96 :: v113 :: v116 :: v118 :: v120 :: (.p (.bool true)) :: .top :: .top :: .top :: .top :: .top :: .top :: .top :: .top :: .top :: .top :: .top :: .top :: .top :: .top :: .top :: [])) h119 kp)
  (self graph_Node_check_c17 (keepS [1, 3, 6, 9, 10, 11, 9999] 0 (.top :: j1 :: .top :: j3 :: .top :: .top :: j6 :: .top :: .top :: j9 :: j10 :: j11 :: .top :: .top :: .top :: .top :: .top :: .top :: .top :: .top :: .top :: .top :: .top :: .top :: .top :: .top :: .top :: .top :: .top :: .top :: .top :: .top :: .top :: .top :: .top :: .top :: .top :: .top :: .top :: .top :: .top :: .top :: .top :: .top :: .top :: .top :: .top :: .top :: .top :: .top :: .top :: .top :: .top :: .top :: .top :: .top :: .top :: .top :: .top :: .top :: .top :: .top :: .top :: .top :: .top :: .top :: .top :: .top :: .top :: j11 :: v69 :: (.p (.bool true)) :: j1 :: v114 :: v96 :: v113 :: v116 :: v118 :: v120 :: (.p (.bool false)) :: .top :: .top :: .top :: .top :: .top :: .top :: .top :: .top :: .top :: .top :: .top :: .top :: .top :: .top :: .top :: [])) h119 kp)))
  (((self graph_Node_check_c17 (keepS [1, 3, 6, 9, 10, 11, 9999] 0 (.top :: j1 :: .top :: j3 :: .top :: .top :: j6 :: .top :: .top :: j9 :: j10 :: j11 :: .top :: .top :: .top :: .top :: .top :: .top :: .top :: .top :: .top :: .top :: .top :: .top :: .top :: .top :: .top :: .top :: .top :: .top :: .top :: .top :: .top :: .top :: .top :: .top :: .top :: .top :: .top :: .top :: .top :: .top :: .top :: .top :: .top :: .top :: .top :: .top :: .top :: .top :: .top :: .top :: .top :: .top :: .top :: .top :: .top :: .top :: .top :: .top :: .top :: .top :: .top :: .top :: .top :: .top :: .top :: .top :: .top :: j11 :: v69 :: (.p (.bool false)) :: (.tup []) :: (.tup []) :: (.tup []) :: (.tup []) :: (.tup []) :: (.tup []) :: (.tup []) :: (.p (.bool false)) :: .top :: .top :: .top :: .top :: .top :: .top :: .top :: .top :: .top :: .top :: .top :: .top :: .top :: .top :: .top :: [])) H kp) ∧
  (self graph_Node_check_c17 (keepS [1, 3, 6, 9, 10, 11, 9999] 0 (.top :: j1 :: .top :: j3 :: .top :: .top :: j6 :: .top :: .top :: j9 :: j10 :: j11 :: .top :: .top :: .top :: .top :: .top :: .top :: .top :: .top :: .top :: .top :: .top :: .top :: .top :: .top :: .top :: .top :: .top :: .top :: .top :: .top :: .top :: .top :: .top :: .top :: .top :: .top :: .top :: .top :: .top :: .top :: .top :: .top :: .top :: .top :: .top :: .top :: .top :: .top :: .top :: .top :: .top :: .top :: .top :: .top :: .top :: .top :: .top :: .top :: .top :: .top :: .top :: .top :: .top :: .top :: .top :: .top :: .top :: j11 :: v69 :: (.p (.bool false)) :: (.tup []) :: (.tup []) :: (.tup []) :: (.tup []) :: (.tup []) :: (.tup []) :: (.tup []) :: (.p (.bool false)) :: .top :: .top :: .top :: .top :: .top :: .top :: .top :: .top :: .top :: .top :: .top :: .top :: .top :: .top :: .top :: [])) H kp)) ∧
  (self graph_Node_check_c17 (keepS [1, 3, 6, 9, 10, 11, 9999] 0 (.top :: j1 :: .top :: j3 :: .top :: .top :: j6 :: .top :: .top :: j9 :: j10 :: j11 :: .top :: .top :: .top :: .top :: .top :: .top :: .top :: .top :: .top :: .top :: .top :: .top :: .top :: .top :: .top :: .top :: .top :: .top :: .top :: .top :: .top :: .top :: .top :: .top :: .top :: .top :: .top :: .top :: .top :: .top :: .top :: .top :: .top :: .top :: .top :: .top :: .top :: .top :: .top :: .top :: .top :: .top :: .top :: .top :: .top :: .top :: .top :: .top :: .top :: .top :: .top :: .top :: .top :: .top :: .top :: .top :: .top :: j11 :: v69 :: (.p (.bool false)) :: (.tup []) :: (.tup []) :: (.tup []) :: (.tup []) :: (.tup []) :: (.tup []) :: (.tup []) :: (.p (.bool false)) :: .top :: .top :: .top :: .top :: .top :: .top :: .top :: .top :: .top :: .top :: .top :: .top :: .top :: .top :: .top :: [])) H kp)))

theorem graph_Node_check_P15_x (j0 j1 j2 j3 j4 j5 j6 j7 j8 j9 j10 j11 j12 j13 j14 j15 j16 j17 j18 j19 j20 j21 j22 j23 j24 j25 j26 j27 j28 j29 j30 j31 j32 j33 j34 j35 j36 j37 j38 j39 j40 j41 j42 j43 j44 j45 j46 j47 j48 j49 j50 j51 j52 j53 j54 j55 j56 j57 j58 j59 j60 j61 j62 j63 j64 j65 j66 j67 j68 j69 j70 j71 j72 j73 j74 j75 j76 j77 j78 j79 j80 j81 j82 j83 j84 j85 j86 j87 j88 j89 j90 j91 j92 j93 j94 : AV) (H : List Ob) (self : Code → List AV → List Ob → Ko → Prop) (kp : Ko) : awpX Tryz.prog graph_Node_check_ann self graph_Node_check_cut graph_Node_check_c15 (keepS [1, 3, 6, 9, 10, 11, 9999] 0 (j0 :: j1 :: j2 :: j3 :: j4 :: j5 :: j6 :: j7 :: j8 :: j9 :: j10 :: j11 :: j12 :: j13 :: j14 :: j15 :: j16 :: j17 :: j18 :: j19 :: j20 :: j21 :: j22 :: j23 :: j24 :: j25 :: j26 :: j27 :: j28 :: j29 :: j30 :: j31 :: j32 :: j33 :: j34 :: j35 :: j36 :: j37 :: j38 :: j39 :: j40 :: j41 :: j42 :: j43 :: j44 :: j45 :: j46 :: j47 :: j48 :: j49 :: j50 :: j51 :: j52 :: j53 :: j54 :: j55 :: j56 :: j57 :: j58 :: j59 :: j60 :: j61 :: j62 :: j63 :: j64 :: j65 :: j66 :: j67 :: j68 :: j69 :: j70 :: j71 :: j72 :: j73 :: j74 :: j75 :: j76 :: j77 :: j78 :: j79 :: j80 :: j81 :: j82 :: j83 :: j84 :: j85 :: j86 :: j87 :: j88 :: j89 :: j90 :: j91 :: j92 :: j93 :: j94 :: [])) H kp = graph_Node_check_P15 j1 j3 j6 j9 j10 j11 H self kp := by kernel_rfl

theorem graph_Node_check_c15_eq (j0 j1 j2 j3 j4 j5 j6 j7 j8 j9 j10 j11 j12 j13 j14 j15 j16 j17 j18 j19 j20 j21 j22 j23 j24 j25 j26 j27 j28 j29 j30 j31 j32 j33 j34 j35 j36 j37 j38 j39 j40 j41 j42 j43 j44 j45 j46 j47 j48 j49 j50 j51 j52 j53 j54 j55 j56 j57 j58 j59 j60 j61 j62 j63 j64 j65 j66 j67 j68 j69 j70 j71 j72 j73 j74 j75 j76 j77 j78 j79 j80 j81 j82 j83 j84 j85 j86 j87 j88 j89 j90 j91 j92 j93 j94 : AV) (H : List Ob) (kp : Ko) : awp Tryz.prog graph_Node_check_ann graph_Node_check_c15 (keepS [1, 3, 6, 9, 10, 11, 9999] 0 (j0 :: j1 :: j2 :: j3 :: j4 :: j5 :: j6 :: j7 :: j8 :: j9 :: j10 :: j11 :: j12 :: j13 :: j14 :: j15 :: j16 :: j17 :: j18 :: j19 :: j20 :: j21 :: j22 :: j23 :: j24 :: j25 :: j26 :: j27 :: j28 :: j29 :: j30 :: j31 :: j32 :: j33 :: j34 :: j35 :: j36 :: j37 :: j38 :: j39 :: j40 :: j41 :: j42 :: j43 :: j44 :: j45 :: j46 :: j47 :: j48 :: j49 :: j50 :: j51 :: j52 :: j53 :: j54 :: j55 :: j56 :: j57 :: j58 :: j59 :: j60 :: j61 :: j62 :: j63 :: j64 :: j65 :: j66 :: j67 :: j68 :: j69 :: j70 :: j71 :: j72 :: j73 :: j74 :: j75 :: j76 :: j77 :: j78 :: j79 :: j80 :: j81 :: j82 :: j83 :: j84 :: j85 :: j86 :: j87 :: j88 :: j89 :: j90 :: j91 :: j92 :: j93 :: j94 :: [])) H kp = graph_Node_check_P15 j1 j3 j6 j9 j10 j11 H (awp Tryz.prog graph_Node_check_ann) kp :=
  (awpX_eq Tryz.prog graph_Node_check_ann graph_Node_check_cut graph_Node_check_c15 (keepS [1, 3, 6, 9, 10, 11, 9999] 0 (j0 :: j1 :: j2 :: j3 :: j4 :: j5 :: j6 :: j7 :: j8 :: j9 :: j10 :: j11 :: j12 :: j13 :: j14 :: j15 :: j16 :: j17 :: j18 :: j19 :: j20 :: j21 :: j22 :: j23 :: j24 :: j25 :: j26 :: j27 :: j28 :: j29 :: j30 :: j31 :: j32 :: j33 :: j34 :: j35 :: j36 :: j37 :: j38 :: j39 :: j40 :: j41 :: j42 :: j43 :: j44 :: j45 :: j46 :: j47 :: j48 :: j49 :: j50 :: j51 :: j52 :: j53 :: j54 :: j55 :: j56 :: j57 :: j58 :: j59 :: j60 :: j61 :: j62 :: j63 :: j64 :: j65 :: j66 :: j67 :: j68 :: j69 :: j70 :: j71 :: j72 :: j73 :: j74 :: j75 :: j76 :: j77 :: j78 :: j79 :: j80 :: j81 :: j82 :: j83 :: j84 :: j85 :: j86 :: j87 :: j88 :: j89 :: j90 :: j91 :: j92 :: j93 :: j94 :: [])) H kp).symm.trans (graph_Node_check_P15_x j0 j1 j2 j3 j4 j5 j6 j7 j8 j9 j10 j11 j12 j13 j14 j15 j16 j17 j18 j19 j20 j21 j22 j23 j24 j25 j26 j27 j28 j29 j30 j31 j32 j33 j34 j35 j36 j37 j38 j39 j40 j41 j42 j43 j44 j45 j46 j47 j48 j49 j50 j51 j52 j53 j54 j55 j56 j57 j58 j59 j60 j61 j62 j63 j64 j65 j66 j67 j68 j69 j70 j71 j72 j73 j74 j75 j76 j77 j78 j79 j80 j81 j82 j83 j84 j85 j86 j87 j88 j89 j90 j91 j92 j93 j94 H (awp Tryz.prog graph_Node_check_ann) kp)

def graph_Node_check_P17 (j1 j3 j6 j9 j10 j11 : AV) (H : List Ob) (self : Code → List AV → List Ob → Ko → Prop) (kp : Ko) : Prop :=
  aBin false false .eql j11 (.p (.int .i64 0)) fun v121 =>
  aMerge true v121 (fun Q122 =>
  aFieldAddr 1 j3 fun v123 =>
  aFieldAddr 1 v123 fun v124 =>
  aLoad false 1 v124 H fun v125 =>
  aBin false false .neq v125 (.p (.str [])) fun v126 =>
  (H = H ∧ Q122 v126)) fun v127 =>
  aMerge true v127 (fun Q128 =>
  aCall Tryz.prog (.p (.func slices_ContainsFunc_graph_Graph_graph_Node_i [])) [j1, j9] H fun v129 h130 =>
  (h130 = H ∧ Q128 v129)) fun v131 =>
  aGuard v131
  (self graph_Node_check_c19 (keepS [6, 10, 11, 9999] 0 (.top :: j1 :: .top :: j3 :: .top :: .top :: j6 :: .top :: .top :: j9 :: j10 :: (.p (.int .i64 7)) :: .top :: .top :: .top :: .top :: .top :: .top :: .top :: .top :: .top :: .top :: .top :: .top :: .top :: .top :: .top :: .top :: .top :: .top :: .top :: .top :: .top :: .top :: .top :: .top :: .top :: .top :: .top :: .top :: .top :: .top :: .top :: .top :: .top :: .top :: .top :: .top :: .top :: .top :: .top :: .top :: .top :: .top :: .top :: .top :: .top :: .top :: .top :: .top :: .top :: .top :: .top :: .top :: .top :: .top :: .top :: .top :: .top :: .top :: .top :: .top :: .top :: .top :: .top :: .top :: .top :: .top :: .top :: .top :: j11 :: v121 :: v121 :: .top :: .top :: .top :: .top :: v127 :: v127 :: .top :: .top :: .top :: (.p (.bool true)) :: .top :: .top :: [])) H kp)
  (self graph_Node_check_c19 (keepS [6, 10, 11, 9999] 0 (.top :: j1 :: .top :: j3 :: .top :: .top :: j6 :: .top :: .top :: j9 :: j10 :: j11 :: .top :: .top :: .top :: .top :: .top :: .top :: .top :: .top :: .top :: .top :: .top :: .top :: .top :: .top :: .top :: .top :: .top :: .top :: .top :: .top :: .top :: .top :: .top :: .top :: .top :: .top :: .top :: .top :: .top :: .top :: .top :: .top :: .top :: .top :: .top :: .top :: .top :: .top :: .top :: .top :: .top :: .top :: .top :: .top :: .top :: .top :: .top :: .top :: .top :: .top :: .top :: .top :: .top :: .top :: .top :: .top :: .top :: .top :: .top :: .top :: .top :: .top :: .top :: .top :: .top :: .top :: .top :: .top :: j11 :: v121 :: v121 :: .top :: .top :: .top :: .top :: v127 :: v127 :: .top :: .top :: .top :: (.p (.bool false)) :: .top :: .top :: [])) H kp)

theorem graph_Node_check_P17_x (j0 j1 j2 j3 j4 j5 j6 j7 j8 j9 j10 j11 j12 j13 j14 j15 j16 j17 j18 j19 j20 j21 j22 j23 j24 j25 j26 j27 j28 j29 j30 j31 j32 j33 j34 j35 j36 j37 j38 j39 j40 j41 j42 j43 j44 j45 j46 j47 j48 j49 j50 j51 j52 j53 j54 j55 j56 j57 j58 j59 j60 j61 j62 j63 j64 j65 j66 j67 j68 j69 j70 j71 j72 j73 j74 j75 j76 j77 j78 j79 j80 j81 j82 j83 j84 j85 j86 j87 j88 j89 j90 j91 j92 j93 j94 : AV) (H : List Ob) (self : Code → List AV → List Ob → Ko → Prop) (kp : Ko) : awpX Tryz.prog graph_Node_check_ann self graph_Node_check_cut graph_Node_check_c17 (keepS [1, 3, 6, 9, 10, 11, 9999] 0 (j0 :: j1 :: j2 :: j3 :: j4 :: j5 :: j6 :: j7 :: j8 :: j9 :: j10 :: j11 :: j12 :: j13 :: j14 :: j15 :: j16 :: j17 :: j18 :: j19 :: j20 :: j21 :: j22 :: j23 :: j24 :: j25 :: j26 :: j27 :: j28 :: j29 :: j30 :: j31 :: j32 :: j33 :: j34 :: j35 :: j36 :: j37 :: j38 :: j39 :: j40 :: j41 :: j42 :: j43 :: j44 :: j45 :: j46 :: j47 :: j48 :: j49 :: j50 :: j51 :: j52 :: j53 :: j54 :: j55 :: j56 :: j57 :: j58 :: j59 :: j60 :: j61 :: j62 :: j63 :: j64 :: j65 :: j66 :: j67 :: j68 :: j69 :: j70 :: j71 :: j72 :: j73 :: j74 :: j75 :: j76 :: j77 :: j78 :: j79 :: j80 :: j81 :: j82 :: j83 :: j84 :: j85 :: j86 :: j87 :: j88 :: j89 :: j90 :: j91 :: j92 :: j93 :: j94 :: [])) H kp = graph_Node_check_P17 j1 j3 j6 j9 j10 j11 H self kp := by kernel_rfl

theorem graph_Node_check_c17_eq (j0 j1 j2 j3 j4 j5 j6 j7 j8 j9 j10 j11 j12 j13 j14 j15 j16 j17 j18 j19 j20 j21 j22 j23 j24 j25 j26 j27 j28 j29 j30 j31 j32 j33 j34 j35 j36 j37 j38 j39 j40 j41 j42 j43 j44 j45 j46 j47 j48 j49 j50 j51 j52 j53 j54 j55 j56 j57 j58 j59 j60 j61 j62 j63 j64 j65 j66 j67 j68 j69 j70 j71 j72 j73 j74 j75 j76 j77 j78 j79 j80 j81 j82 j83 j84 j85 j86 j87 j88 j89 j90 j91 j92 j93 j94 : AV) (H : List Ob) (kp : Ko) : awp Tryz.prog graph_Node_check_ann graph_Node_check_c17 (keepS [1, 3, 6, 9, 10, 11, 9999] 0 (j0 :: j1 :: j2 :: j3 :: j4 :: j5 :: j6 :: j7 :: j8 :: j9 :: j10 :: j11 :: j12 :: j13 :: j14 :: j15 :: j16 :: j17 :: j18 :: j19 :: j20 :: j21 :: j22 :: j23 :: j24 :: j25 :: j26 :: j27 :: j28 :: j29 :: j30 :: j31 :: j32 :: j33 :: j34 :: j35 :: j36 :: j37 :: j38 :: j39 :: j40 :: j41 :: j42 :: j43 :: j44 :: j45 :: j46 :: j47 :: j48 :: j49 :: j50 :: j51 :: j52 :: j53 :: j54 :: j55 :: j56 :: j57 :: j58 :: j59 :: j60 :: j61 :: j62 :: j63 :: j64 :: j65 :: j66 :: j67 :: j68 :: j69 :: j70 :: j71 :: j72 :: j73 :: j74 :: j75 :: j76 :: j77 :: j78 :: j79 :: j80 :: j81 :: j82 :: j83 :: j84 :: j85 :: j86 :: j87 :: j88 :: j89 :: j90 :: j91 :: j92 :: j93 :: j94 :: [])) H kp = graph_Node_check_P17 j1 j3 j6 j9 j10 j11 H (awp Tryz.prog graph_Node_check_ann) kp :=
  (awpX_eq Tryz.prog graph_Node_check_ann graph_Node_check_cut graph_Node_check_c17 (keepS [1, 3, 6, 9, 10, 11, 9999] 0 (j0 :: j1 :: j2 :: j3 :: j4 :: j5 :: j6 :: j7 :: j8 :: j9 :: j10 :: j11 :: j12 :: j13 :: j14 :: j15 :: j16 :: j17 :: j18 :: j19 :: j20 :: j21 :: j22 :: j23 :: j24 :: j25 :: j26 :: j27 :: j28 :: j29 :: j30 :: j31 :: j32 :: j33 :: j34 :: j35 :: j36 :: j37 :: j38 :: j39 :: j40 :: j41 :: j42 :: j43 :: j44 :: j45 :: j46 :: j47 :: j48 :: j49 :: j50 :: j51 :: j52 :: j53 :: j54 :: j55 :: j56 :: j57 :: j58 :: j59 :: j60 :: j61 :: j62 :: j63 :: j64 :: j65 :: j66 :: j67 :: j68 :: j69 :: j70 :: j71 :: j72 :: j73 :: j74 :: j75 :: j76 :: j77 :: j78 :: j79 :: j80 :: j81 :: j82 :: j83 :: j84 :: j85 :: j86 :: j87 :: j88 :: j89 :: j90 :: j91 :: j92 :: j93 :: j94 :: [])) H kp).symm.trans (graph_Node_check_P17_x j0 j1 j2 j3 j4 j5 j6 j7 j8 j9 j10 j11 j12 j13 j14 j15 j16 j17 j18 j19 j20 j21 j22 j23 j24 j25 j26 j27 j28 j29 j30 j31 j32 j33 j34 j35 j36 j37 j38 j39 j40 j41 j42 j43 j44 j45 j46 j47 j48 j49 j50 j51 j52 j53 j54 j55 j56 j57 j58 j59 j60 j61 j62 j63 j64 j65 j66 j67 j68 j69 j70 j71 j72 j73 j74 j75 j76 j77 j78 j79 j80 j81 j82 j83 j84 j85 j86 j87 j88 j89 j90 j91 j92 j93 j94 H (awp Tryz.prog graph_Node_check_ann) kp)

def graph_Node_check_P19 (j6 j10 j11 : AV) (H : List Ob) (_ : Code → List AV → List Ob → Ko → Prop) (kp : Ko) : Prop :=
  aLoad true 2 j10 H fun v132 =>
  aStore 2 j6 v132 H fun _ h134 =>
  kp .ret (.top :: .top :: .top :: .top :: .top :: .top :: j6 :: j11 :: .top :: .top :: j10 :: j11 :: .top :: .top :: .top :: .top :: .top :: .top :: .top :: .top :: .top :: .top :: .top :: .top :: .top :: .top :: .top :: .top :: .top :: .top :: .top :: .top :: .top :: .top :: .top :: .top :: .top :: .top :: .top :: .top :: .top :: .top :: .top :: .top :: .top :: .top :: .top :: .top :: .top :: .top :: .top :: .top :: .top :: .top :: .top :: .top :: .top :: .top :: .top :: .top :: .top :: .top :: .top :: .top :: .top :: .top :: .top :: .top :: .top :: .top :: .top :: .top :: .top :: .top :: .top :: .top :: .top :: .top :: .top :: .top :: .top :: .top :: .top :: .top :: .top :: .top :: .top :: .top :: .top :: .top :: .top :: .top :: .top :: v132 :: j11 :: []) h134

theorem graph_Node_check_P19_x (j0 j1 j2 j3 j4 j5 j6 j7 j8 j9 j10 j11 j12 j13 j14 j15 j16 j17 j18 j19 j20 j21 j22 j23 j24 j25 j26 j27 j28 j29 j30 j31 j32 j33 j34 j35 j36 j37 j38 j39 j40 j41 j42 j43 j44 j45 j46 j47 j48 j49 j50 j51 j52 j53 j54 j55 j56 j57 j58 j59 j60 j61 j62 j63 j64 j65 j66 j67 j68 j69 j70 j71 j72 j73 j74 j75 j76 j77 j78 j79 j80 j81 j82 j83 j84 j85 j86 j87 j88 j89 j90 j91 j92 j93 j94 : AV) (H : List Ob) (self : Code → List AV → List Ob → Ko → Prop) (kp : Ko) : awpX Tryz.prog graph_Node_check_ann self graph_Node_check_cut graph_Node_check_c19 (keepS [6, 10, 11, 9999] 0 (j0 :: j1 :: j2 :: j3 :: j4 :: j5 :: j6 :: j7 :: j8 :: j9 :: j10 :: j11 :: j12 :: j13 :: j14 :: j15 :: j16 :: j17 :: j18 :: j19 :: j20 :: j21 :: j22 :: j23 :: j24 :: j25 :: j26 :: j27 :: j28 :: j29 :: j30 :: j31 :: j32 :: j33 :: j34 :: j35 :: j36 :: j37 :: j38 :: j39 :: j40 :: j41 :: j42 :: j43 :: j44 :: j45 :: j46 :: j47 :: j48 :: j49 :: j50 :: j51 :: j52 :: j53 :: j54 :: j55 :: j56 :: j57 :: j58 :: j59 :: j60 :: j61 :: j62 :: j63 :: j64 :: j65 :: j66 :: j67 :: j68 :: j69 :: j70 :: j71 :: j72 :: j73 :: j74 :: j75 :: j76 :: j77 :: j78 :: j79 :: j80 :: j81 :: j82 :: j83 :: j84 :: j85 :: j86 :: j87 :: j88 :: j89 :: j90 :: j91 :: j92 :: j93 :: j94 :: [])) H kp = graph_Node_check_P19 j6 j10 j11 H self kp := by kernel_rfl

theorem graph_Node_check_c19_eq (j0 j1 j2 j3 j4 j5 j6 j7 j8 j9 j10 j11 j12 j13 j14 j15 j16 j17 j18 j19 j20 j21 j22 j23 j24 j25 j26 j27 j28 j29 j30 j31 j32 j33 j34 j35 j36 j37 j38 j39 j40 j41 j42 j43 j44 j45 j46 j47 j48 j49 j50 j51 j52 j53 j54 j55 j56 j57 j58 j59 j60 j61 j62 j63 j64 j65 j66 j67 j68 j69 j70 j71 j72 j73 j74 j75 j76 j77 j78 j79 j80 j81 j82 j83 j84 j85 j86 j87 j88 j89 j90 j91 j92 j93 j94 : AV) (H : List Ob) (kp : Ko) : awp Tryz.prog graph_Node_check_ann graph_Node_check_c19 (keepS [6, 10, 11, 9999] 0 (j0 :: j1 :: j2 :: j3 :: j4 :: j5 :: j6 :: j7 :: j8 :: j9 :: j10 :: j11 :: j12 :: j13 :: j14 :: j15 :: j16 :: j17 :: j18 :: j19 :: j20 :: j21 :: j22 :: j23 :: j24 :: j25 :: j26 :: j27 :: j28 :: j29 :: j30 :: j31 :: j32 :: j33 :: j34 :: j35 :: j36 :: j37 :: j38 :: j39 :: j40 :: j41 :: j42 :: j43 :: j44 :: j45 :: j46 :: j47 :: j48 :: j49 :: j50 :: j51 :: j52 :: j53 :: j54 :: j55 :: j56 :: j57 :: j58 :: j59 :: j60 :: j61 :: j62 :: j63 :: j64 :: j65 :: j66 :: j67 :: j68 :: j69 :: j70 :: j71 :: j72 :: j73 :: j74 :: j75 :: j76 :: j77 :: j78 :: j79 :: j80 :: j81 :: j82 :: j83 :: j84 :: j85 :: j86 :: j87 :: j88 :: j89 :: j90 :: j91 :: j92 :: j93 :: j94 :: [])) H kp = graph_Node_check_P19 j6 j10 j11 H (awp Tryz.prog graph_Node_check_ann) kp :=
  (awpX_eq Tryz.prog graph_Node_check_ann graph_Node_check_cut graph_Node_check_c19 (keepS [6, 10, 11, 9999] 0 (j0 :: j1 :: j2 :: j3 :: j4 :: j5 :: j6 :: j7 :: j8 :: j9 :: j10 :: j11 :: j12 :: j13 :: j14 :: j15 :: j16 :: j17 :: j18 :: j19 :: j20 :: j21 :: j22 :: j23 :: j24 :: j25 :: j26 :: j27 :: j28 :: j29 :: j30 :: j31 :: j32 :: j33 :: j34 :: j35 :: j36 :: j37 :: j38 :: j39 :: j40 :: j41 :: j42 :: j43 :: j44 :: j45 :: j46 :: j47 :: j48 :: j49 :: j50 :: j51 :: j52 :: j53 :: j54 :: j55 :: j56 :: j57 :: j58 :: j59 :: j60 :: j61 :: j62 :: j63 :: j64 :: j65 :: j66 :: j67 :: j68 :: j69 :: j70 :: j71 :: j72 :: j73 :: j74 :: j75 :: j76 :: j77 :: j78 :: j79 :: j80 :: j81 :: j82 :: j83 :: j84 :: j85 :: j86 :: j87 :: j88 :: j89 :: j90 :: j91 :: j92 :: j93 :: j94 :: [])) H kp).symm.trans (graph_Node_check_P19_x j0 j1 j2 j3 j4 j5 j6 j7 j8 j9 j10 j11 j12 j13 j14 j15 j16 j17 j18 j19 j20 j21 j22 j23 j24 j25 j26 j27 j28 j29 j30 j31 j32 j33 j34 j35 j36 j37 j38 j39 j40 j41 j42 j43 j44 j45 j46 j47 j48 j49 j50 j51 j52 j53 j54 j55 j56 j57 j58 j59 j60 j61 j62 j63 j64 j65 j66 j67 j68 j69 j70 j71 j72 j73 j74 j75 j76 j77 j78 j79 j80 j81 j82 j83 j84 j85 j86 j87 j88 j89 j90 j91 j92 j93 j94 H (awp Tryz.prog graph_Node_check_ann) kp)


/- runnel/graph.Named$1 -/
def graph_Named_1 (x0 x1 : AV) (H : List Ob) (K : AV → List Ob → Prop) : Prop :=
  aBox x0 H fun v0 h1 =>
  aFieldAddr 1 v0 fun v2 =>
  aFieldAddr 0 v2 fun v3 =>
  aLoad false 1 v3 h1 fun v4 =>
  aLoad false 1 x1 h1 fun v5 =>
  aBin false false .eql v4 v5 fun v6 =>
  K v6 h1

def graph_Named_1_ann : Nat → List Nat := fun _ => []

theorem graph_Named_1_eq (x0 x1 : AV) (H : List Ob) (r : AV) (Ho : List Ob) : aBody Tryz.prog graph_Named_1_ann Tryz.f23 H [x0, x1] r Ho = graph_Named_1 x0 x1 H (fun v H' => Gives H.length v H' r Ho) := by kernel_rfl

theorem graph_Named_1_fnH {x0 x1 : AV} {Hin : List Ob} {r : AV} {Ho : List Ob} (h : graph_Named_1 x0 x1 Hin (fun v H' => Gives Hin.length v H' r Ho)) : Abs.Fn Tryz.prog graph_Named_1_i Hin [x0, x1] r Ho :=
  fn_intro mixed graph_Named_1_ann (fn := Tryz.f23) (by kernel_rfl) (by kernel_rfl) (by rw [graph_Named_1_eq]; exact h)

theorem graph_Named_1_fn {x0 x1 : AV} {r : AV} {Ho : List Ob} (h : graph_Named_1 x0 x1 [] (fun v H' => Gives 0 v H' r Ho)) : Abs.Fn Tryz.prog graph_Named_1_i [] [x0, x1] r Ho := graph_Named_1_fnH (Hin := []) h

/- (runnel/graph.Node).check$1 -/
def graph_Node_check_1 (x0 x1 : AV) (H : List Ob) (K : AV → List Ob → Prop) : Prop :=
  aBox x0 H fun v0 h1 =>
  aFieldAddr 0 v0 fun v2 =>
  aLoad false 1 v2 h1 fun v3 =>
  aFieldAddr 0 x1 fun v4 =>
  aLoad false 1 v4 h1 fun v5 =>
  aBin false false .eql v3 v5 fun v6 =>
  K v6 h1

def graph_Node_check_1_ann : Nat → List Nat := fun _ => []

theorem graph_Node_check_1_eq (x0 x1 : AV) (H : List Ob) (r : AV) (Ho : List Ob) : aBody Tryz.prog graph_Node_check_1_ann Tryz.f31 H [x0, x1] r Ho = graph_Node_check_1 x0 x1 H (fun v H' => Gives H.length v H' r Ho) := by kernel_rfl

theorem graph_Node_check_1_fnH {x0 x1 : AV} {Hin : List Ob} {r : AV} {Ho : List Ob} (h : graph_Node_check_1 x0 x1 Hin (fun v H' => Gives Hin.length v H' r Ho)) : Abs.Fn Tryz.prog graph_Node_check_1_i Hin [x0, x1] r Ho :=
  fn_intro mixed graph_Node_check_1_ann (fn := Tryz.f31) (by kernel_rfl) (by kernel_rfl) (by rw [graph_Node_check_1_eq]; exact h)

theorem graph_Node_check_1_fn {x0 x1 : AV} {r : AV} {Ho : List Ob} (h : graph_Node_check_1 x0 x1 [] (fun v H' => Gives 0 v H' r Ho)) : Abs.Fn Tryz.prog graph_Node_check_1_i [] [x0, x1] r Ho := graph_Node_check_1_fnH (Hin := []) h

/- (runnel/graph.Node).check$2 -/
def graph_Node_check_2 (x0 x1 : AV) (H : List Ob) (K : AV → List Ob → Prop) : Prop :=
  aBox x0 H fun v0 h1 =>
  aFieldAddr 1 v0 fun v2 =>
  aFieldAddr 0 v2 fun v3 =>
  aLoad false 1 v3 h1 fun v4 =>
  aFieldAddr 1 x1 fun v5 =>
  aFieldAddr 0 v5 fun v6 =>
  aLoad false 1 v6 h1 fun v7 =>
  aBin false false .eql v4 v7 fun v8 =>
  aMerge true v8 (fun Q9 =>
  aFieldAddr 1 v0 fun v10 =>
  aFieldAddr 1 v10 fun v11 =>
  aLoad false 1 v11 h1 fun v12 =>
  aFieldAddr 1 x1 fun v13 =>
  aFieldAddr 1 v13 fun v14 =>
  aLoad false 1 v14 h1 fun v15 =>
  aBin false false .eql v12 v15 fun v16 =>
  (h1 = h1 ∧ Q9 v16)) fun v17 =>
  K v17 h1

def graph_Node_check_2_ann : Nat → List Nat := fun _ => []

theorem graph_Node_check_2_eq (x0 x1 : AV) (H : List Ob) (r : AV) (Ho : List Ob) : aBody Tryz.prog graph_Node_check_2_ann Tryz.f32 H [x0, x1] r Ho = graph_Node_check_2 x0 x1 H (fun v H' => Gives H.length v H' r Ho) := by kernel_rfl

theorem graph_Node_check_2_fnH {x0 x1 : AV} {Hin : List Ob} {r : AV} {Ho : List Ob} (h : graph_Node_check_2 x0 x1 Hin (fun v H' => Gives Hin.length v H' r Ho)) : Abs.Fn Tryz.prog graph_Node_check_2_i Hin [x0, x1] r Ho :=
  fn_intro mixed graph_Node_check_2_ann (fn := Tryz.f32) (by kernel_rfl) (by kernel_rfl) (by rw [graph_Node_check_2_eq]; exact h)

theorem graph_Node_check_2_fn {x0 x1 : AV} {r : AV} {Ho : List Ob} (h : graph_Node_check_2 x0 x1 [] (fun v H' => Gives 0 v H' r Ho)) : Abs.Fn Tryz.prog graph_Node_check_2_i [] [x0, x1] r Ho := graph_Node_check_2_fnH (Hin := []) h

/- slices.ContainsFunc[runnel/graph.Graph,runnel/graph.Node] -/
def slices_ContainsFunc_graph_Graph_graph_Node (x0 x1 : AV) (H : List Ob) (K : AV → List Ob → Prop) : Prop :=
  aCall Tryz.prog (.p (.func slices_IndexFunc_graph_Graph_graph_Node_i [])) [x0, x1] H fun v0 h1 =>
  aBin false false .geq v0 (.p (.int .i64 0)) fun v2 =>
  K v2 h1

def slices_ContainsFunc_graph_Graph_graph_Node_ann : Nat → List Nat := fun _ => []

theorem slices_ContainsFunc_graph_Graph_graph_Node_eq (x0 x1 : AV) (H : List Ob) (r : AV) (Ho : List Ob) : aBody Tryz.prog slices_ContainsFunc_graph_Graph_graph_Node_ann Tryz.f34 H [x0, x1] r Ho = slices_ContainsFunc_graph_Graph_graph_Node x0 x1 H (fun v H' => Gives H.length v H' r Ho) := by kernel_rfl

theorem slices_ContainsFunc_graph_Graph_graph_Node_fnH {x0 x1 : AV} {Hin : List Ob} {r : AV} {Ho : List Ob} (h : slices_ContainsFunc_graph_Graph_graph_Node x0 x1 Hin (fun v H' => Gives Hin.length v H' r Ho)) : Abs.Fn Tryz.prog slices_ContainsFunc_graph_Graph_graph_Node_i Hin [x0, x1] r Ho :=
  fn_intro mixed slices_ContainsFunc_graph_Graph_graph_Node_ann (fn := Tryz.f34) (by kernel_rfl) (by kernel_rfl) (by rw [slices_ContainsFunc_graph_Graph_graph_Node_eq]; exact h)

theorem slices_ContainsFunc_graph_Graph_graph_Node_fn {x0 x1 : AV} {r : AV} {Ho : List Ob} (h : slices_ContainsFunc_graph_Graph_graph_Node x0 x1 [] (fun v H' => Gives 0 v H' r Ho)) : Abs.Fn Tryz.prog slices_ContainsFunc_graph_Graph_graph_Node_i [] [x0, x1] r Ho := slices_ContainsFunc_graph_Graph_graph_Node_fnH (Hin := []) h

/- (runnel/graph.Node).ins -/
def graph_Node_ins_L1 (q1s1 q1s2 q1s8 q1s9 y0 : AV) (H : List Ob) (B1 : List AV → List Ob → Prop) (K : AV → List Ob → Prop) : Prop :=
  aBin false false .lss y0 q1s9 fun v5 =>
  aGuard v5
  (aIndexAddr 1 q1s8 y0 fun v6 =>
  aLoad false 1 v6 H fun v7 =>
  aBin false false .lss v7 (.p (.int .i64 0)) fun v8 =>
  aMerge false v8 (fun Q9 =>
  aLenS false q1s1 fun v10 =>
  aBin false false .geq v7 v10 fun v11 =>
  (H = H ∧ Q9 v11)) fun v12 =>
  aMerge false v12 (fun Q13 =>
  aIndexAddr 21 q1s1 v7 fun v14 =>
  aFieldAddr 1 v14 fun v15 =>
  aFieldAddr 0 v15 fun v16 =>
  aLoad false 1 v16 H fun v17 =>
  aBin false false .eql v17 (.p (.int .i64 9)) fun v18 =>
  (H = H ∧ Q13 v18)) fun v19 =>
  aMerge false v19 (fun Q20 =>
  aFieldAddr 16 q1s2 fun v21 =>
  aLoad false 1 v21 H fun v22 =>
  aSlice false 1 v22 none (some y0) none fun v23 =>
  aCall Tryz.prog (.p (.func slices_Contains_int_int_i [])) [v23, v7] H fun v24 h25 =>
  (h25 = H ∧ Q20 v24)) fun v26 =>
  aGuard v26
  (K (.p (.bool false)) H)
  (aBin false false .add y0 (.p (.int .i64 1)) fun v27 =>
  B1 [v27] H))
  (K (.p (.bool true)) H)

def graph_Node_ins (x0 x1 : AV) (H : List Ob) (K : AV → List Ob → Prop) : Prop :=
  aBox x0 H fun v0 h1 =>
  aFieldAddr 16 v0 fun v2 =>
  aLoad false 1 v2 h1 fun v3 =>
  aLen false false v3 fun v4 =>
  aLoopN 1 [(.p (.int .i64 0))] h1 fun xs H B1 => graph_Node_ins_L1 x1 v0 v3 v4 (xs.getD 0 .top) H B1 K

def graph_Node_ins_ann : Nat → List Nat := fun k => match k with | 2 => [10] | _ => []

theorem graph_Node_ins_eq (x0 x1 : AV) (H : List Ob) (r : AV) (Ho : List Ob) : aBody Tryz.prog graph_Node_ins_ann Tryz.f35 H [x0, x1] r Ho = graph_Node_ins x0 x1 H (fun v H' => Gives H.length v H' r Ho) := by kernel_rfl

theorem graph_Node_ins_fnH {x0 x1 : AV} {Hin : List Ob} {r : AV} {Ho : List Ob} (h : graph_Node_ins x0 x1 Hin (fun v H' => Gives Hin.length v H' r Ho)) : Abs.Fn Tryz.prog graph_Node_ins_i Hin [x0, x1] r Ho :=
  fn_intro mixed graph_Node_ins_ann (fn := Tryz.f35) (by kernel_rfl) (by kernel_rfl) (by rw [graph_Node_ins_eq]; exact h)

theorem graph_Node_ins_fn {x0 x1 : AV} {r : AV} {Ho : List Ob} (h : graph_Node_ins x0 x1 [] (fun v H' => Gives 0 v H' r Ho)) : Abs.Fn Tryz.prog graph_Node_ins_i [] [x0, x1] r Ho := graph_Node_ins_fnH (Hin := []) h

/- runnel/graph.of -/
def graph_of_L1 (q1s0 q1s8 q1s9 y0 y1 : AV) (H : List Ob) (B1 : List AV → List Ob → Prop) (K : AV → List Ob → Prop) : Prop :=
  aBin false false .lss y1 q1s9 fun v1 =>
  aGuard v1
  (aIndexAddr 1 q1s8 y1 fun v2 =>
  aLoad false 1 v2 H fun v3 =>
  aIndexAddr 2 q1s0 v3 fun v4 =>
  aLoad true 2 v4 H fun v5 =>
  aBuildSlice 2 [v5] fun v6 =>
  aAppend false 2 32 y0 v6 H fun v7 h8 =>
  aBin false false .add y1 (.p (.int .i64 1)) fun v9 =>
  B1 [v7, v9] h8)
  (K y0 H)

def graph_of (x0 x1 : AV) (H : List Ob) (K : AV → List Ob → Prop) : Prop :=
  aLen false false x1 fun v0 =>
  aLoopN 2 [(.full []), (.p (.int .i64 0))] H fun xs H B1 => graph_of_L1 x0 x1 v0 (xs.getD 0 .top) (xs.getD 1 .top) H B1 K

def graph_of_ann : Nat → List Nat := fun k => match k with | 3 => [5, 10] | _ => []

theorem graph_of_eq (x0 x1 : AV) (H : List Ob) (r : AV) (Ho : List Ob) : aBody Tryz.prog graph_of_ann Tryz.f37 H [x0, x1] r Ho = graph_of x0 x1 H (fun v H' => Gives H.length v H' r Ho) := by kernel_rfl

theorem graph_of_fnH {x0 x1 : AV} {Hin : List Ob} {r : AV} {Ho : List Ob} (h : graph_of x0 x1 Hin (fun v H' => Gives Hin.length v H' r Ho)) : Abs.Fn Tryz.prog graph_of_i Hin [x0, x1] r Ho :=
  fn_intro mixed graph_of_ann (fn := Tryz.f37) (by kernel_rfl) (by kernel_rfl) (by rw [graph_of_eq]; exact h)

theorem graph_of_fn {x0 x1 : AV} {r : AV} {Ho : List Ob} (h : graph_of x0 x1 [] (fun v H' => Gives 0 v H' r Ho)) : Abs.Fn Tryz.prog graph_of_i [] [x0, x1] r Ho := graph_of_fnH (Hin := []) h

/- runnel/graph.weight -/
def graph_weight_L2 (q2s3 q2s5 q2s11 q2s16 q2s17 y0 y1 : AV) (H : List Ob) (B2 : List AV → List Ob → Prop) (B1 : List AV → List Ob → Prop) (K : AV → List Ob → Prop) : Prop :=
  aBin false false .lss y1 q2s17 fun v11 =>
  aGuard v11
  (aIndexAddr 1 q2s16 y1 fun v12 =>
  aLoad false 1 v12 H fun v13 =>
  aIndexAddr 1 q2s3 v13 fun v14 =>
  aLoad false 1 v14 H fun v15 =>
  aBin false false .add y0 v15 fun v16 =>
  aBin false false .add y1 (.p (.int .i64 1)) fun v17 =>
  B2 [v16, v17] H)
  (aFieldAddr 1 q2s5 fun v18 =>
  aFieldAddr 0 v18 fun v19 =>
  aLoad false 1 v19 H fun v20 =>
  aBin false false .eql v20 (.p (.int .i64 1)) fun v21 =>
  aGuard v21
  (aBuildSlice 1 [(.p (.int .i64 1))] fun v22 =>
  aAppend false 1 8 q2s3 v22 H fun v23 h24 =>
  aBin false false .add q2s11 (.p (.int .i64 1)) fun v25 =>
  B1 [v23, v25] h24)
  (aBin false false .eql v20 (.p (.int .i64 4)) fun v26 =>
  aGuard v26
  (aFieldAddr 1 q2s5 fun v27 =>
  aFieldAddr 4 v27 fun v28 =>
  aLoad false 1 v28 H fun v29 =>
  aLen false false v29 fun v30 =>
  aBin false false .mul y0 v30 fun v31 =>
  aBuildSlice 1 [v31] fun v32 =>
  aAppend false 1 8 q2s3 v32 H fun v33 h34 =>
  aBin false false .add q2s11 (.p (.int .i64 1)) fun v35 =>
  B1 [v33, v35] h34)
  (aBuildSlice 1 [y0] fun v36 =>
  aAppend false 1 8 q2s3 v36 H fun v37 h38 =>
  aBin false false .add q2s11 (.p (.int .i64 1)) fun v39 =>
  B1 [v37, v39] h38)))

def graph_weight_L1 (q1s9 q1s10 y0 y1 : AV) (H : List Ob) (B1 : List AV → List Ob → Prop) (K : AV → List Ob → Prop) : Prop :=
  aBin false false .lss y1 q1s10 fun v1 =>
  aGuard v1
  (aIndexAddr 21 q1s9 y1 fun v2 =>
  aLoad true 21 v2 H fun v3 =>
  aAlloc [(.p (.str [])), (.p (.int .i64 0)), (.p (.str [])), (.p (.int .i64 0)), (.full []), (.full []), (.p (.str [])), (.p (.int .i64 0)), (.p (.int .i64 0)), (.p (.bool false)), (.p (.str [])), (.full []), (.p (.int .i64 0)), (.full []), (.p (.int .i64 0)), (.p (.int .i64 0)), (.full []), (.p (.int .i64 0)), (.p (.int .i64 0)), (.p (.str [])), (.p (.bool false))] H fun v4 h5 =>
  aStore 21 v4 v3 h5 fun _ h7 =>
  aFieldAddr 16 v4 fun v8 =>
  aLoad false 1 v8 h7 fun v9 =>
  aLen false false v9 fun v10 =>
  aLoopN 2 [(.p (.int .i64 0)), (.p (.int .i64 0))] h7 fun xs H B2 => graph_weight_L2 y0 v4 y1 v9 v10 (xs.getD 0 .top) (xs.getD 1 .top) H B2 B1 K)
  (aLen false false y0 fun v40 =>
  aBin false false .sub v40 (.p (.int .i64 1)) fun v41 =>
  aIndexAddr 1 y0 v41 fun v42 =>
  aLoad false 1 v42 H fun v43 =>
  K v43 H)

def graph_weight (x0 : AV) (H : List Ob) (K : AV → List Ob → Prop) : Prop :=
  aLen false false x0 fun v0 =>
  aLoopN 2 [(.full []), (.p (.int .i64 0))] H fun xs H B1 => graph_weight_L1 x0 v0 (xs.getD 0 .top) (xs.getD 1 .top) H B1 K

def graph_weight_ann : Nat → List Nat := fun k => match k with | 3 => [3, 11] | 7 => [6, 18] | _ => []

theorem graph_weight_eq (x0 : AV) (H : List Ob) (r : AV) (Ho : List Ob) : aBody Tryz.prog graph_weight_ann Tryz.f38 H [x0] r Ho = graph_weight x0 H (fun v H' => Gives H.length v H' r Ho) := by kernel_rfl

theorem graph_weight_fnH {x0 : AV} {Hin : List Ob} {r : AV} {Ho : List Ob} (h : graph_weight x0 Hin (fun v H' => Gives Hin.length v H' r Ho)) : Abs.Fn Tryz.prog graph_weight_i Hin [x0] r Ho :=
  fn_intro mixed graph_weight_ann (fn := Tryz.f38) (by kernel_rfl) (by kernel_rfl) (by rw [graph_weight_eq]; exact h)

theorem graph_weight_fn {x0 : AV} {r : AV} {Ho : List Ob} (h : graph_weight x0 [] (fun v H' => Gives 0 v H' r Ho)) : Abs.Fn Tryz.prog graph_weight_i [] [x0] r Ho := graph_weight_fnH (Hin := []) h

/- slices.Clone[runnel/graph.Graph,runnel/graph.Node] -/
def slices_Clone_graph_Graph_graph_Node (x0 : AV) (H : List Ob) (K : AV → List Ob → Prop) : Prop :=
  aNil true .eql x0 fun v0 =>
  aGuard v0
  (K (.full []) H)
  (aBuildSlice 21 [] fun v1 =>
  aAppend false 21 288 v1 x0 H fun v2 h3 =>
  K v2 h3)

def slices_Clone_graph_Graph_graph_Node_ann : Nat → List Nat := fun _ => []

theorem slices_Clone_graph_Graph_graph_Node_eq (x0 : AV) (H : List Ob) (r : AV) (Ho : List Ob) : aBody Tryz.prog slices_Clone_graph_Graph_graph_Node_ann Tryz.f39 H [x0] r Ho = slices_Clone_graph_Graph_graph_Node x0 H (fun v H' => Gives H.length v H' r Ho) := by kernel_rfl

theorem slices_Clone_graph_Graph_graph_Node_fnH {x0 : AV} {Hin : List Ob} {r : AV} {Ho : List Ob} (h : slices_Clone_graph_Graph_graph_Node x0 Hin (fun v H' => Gives Hin.length v H' r Ho)) : Abs.Fn Tryz.prog slices_Clone_graph_Graph_graph_Node_i Hin [x0] r Ho :=
  fn_intro mixed slices_Clone_graph_Graph_graph_Node_ann (fn := Tryz.f39) (by kernel_rfl) (by kernel_rfl) (by rw [slices_Clone_graph_Graph_graph_Node_eq]; exact h)

theorem slices_Clone_graph_Graph_graph_Node_fn {x0 : AV} {r : AV} {Ho : List Ob} (h : slices_Clone_graph_Graph_graph_Node x0 [] (fun v H' => Gives 0 v H' r Ho)) : Abs.Fn Tryz.prog slices_Clone_graph_Graph_graph_Node_i [] [x0] r Ho := slices_Clone_graph_Graph_graph_Node_fnH (Hin := []) h

/- slices.IndexFunc[runnel/graph.Graph,runnel/graph.Node] -/
def slices_IndexFunc_graph_Graph_graph_Node_L1 (q1s0 q1s1 q1s7 y0 : AV) (H : List Ob) (B1 : List AV → List Ob → Prop) (K : AV → List Ob → Prop) : Prop :=
  aBin false false .lss y0 q1s7 fun v1 =>
  aGuard v1
  (aIndexAddr 21 q1s0 y0 fun v2 =>
  aLoad true 21 v2 H fun v3 =>
  aCall Tryz.prog q1s1 [v3] H fun v4 h5 =>
  aGuard v4
  (K y0 h5)
  (aBin false false .add y0 (.p (.int .i64 1)) fun v6 =>
  B1 [v6] h5))
  (K (.p (.int .i64 (-1))) H)

def slices_IndexFunc_graph_Graph_graph_Node (x0 x1 : AV) (H : List Ob) (K : AV → List Ob → Prop) : Prop :=
  aLen false false x0 fun v0 =>
  aLoopN 1 [(.p (.int .i64 0))] H fun xs H B1 => slices_IndexFunc_graph_Graph_graph_Node_L1 x0 x1 v0 (xs.getD 0 .top) H B1 K

def slices_IndexFunc_graph_Graph_graph_Node_ann : Nat → List Nat := fun k => match k with | 2 => [8] | _ => []

theorem slices_IndexFunc_graph_Graph_graph_Node_eq (x0 x1 : AV) (H : List Ob) (r : AV) (Ho : List Ob) : aBody Tryz.prog slices_IndexFunc_graph_Graph_graph_Node_ann Tryz.f47 H [x0, x1] r Ho = slices_IndexFunc_graph_Graph_graph_Node x0 x1 H (fun v H' => Gives H.length v H' r Ho) := by kernel_rfl

theorem slices_IndexFunc_graph_Graph_graph_Node_fnH {x0 x1 : AV} {Hin : List Ob} {r : AV} {Ho : List Ob} (h : slices_IndexFunc_graph_Graph_graph_Node x0 x1 Hin (fun v H' => Gives Hin.length v H' r Ho)) : Abs.Fn Tryz.prog slices_IndexFunc_graph_Graph_graph_Node_i Hin [x0, x1] r Ho :=
  fn_intro mixed slices_IndexFunc_graph_Graph_graph_Node_ann (fn := Tryz.f47) (by kernel_rfl) (by kernel_rfl) (by rw [slices_IndexFunc_graph_Graph_graph_Node_eq]; exact h)

theorem slices_IndexFunc_graph_Graph_graph_Node_fn {x0 x1 : AV} {r : AV} {Ho : List Ob} (h : slices_IndexFunc_graph_Graph_graph_Node x0 x1 [] (fun v H' => Gives 0 v H' r Ho)) : Abs.Fn Tryz.prog slices_IndexFunc_graph_Graph_graph_Node_i [] [x0, x1] r Ho := slices_IndexFunc_graph_Graph_graph_Node_fnH (Hin := []) h

end Go.Proofs.YtmnmiiifilfcmaaGreat
end

section
/- Made by program (Gen.lean): functions of the dump, over trees. -/
set_option maxRecDepth 4000
set_option linter.unusedVariables false
namespace Go.Proofs.YtmnmiiifilfcmaaGreat
open Go Go.Abs

/- runnel/runnelref10.Check -/
def runnelref10_Check_L2 (q2s0 y0 : AV) (H : List Ob) (B2 : List AV → List Ob → Prop) (K : AV → List Ob → Prop) : Prop :=
  aLen false false q2s0 fun v12 =>
  aBin false false .lss y0 v12 fun v13 =>
  aGuard v13
  (aIndexAddr 21 q2s0 y0 fun v14 =>
  aFieldAddr 1 v14 fun v15 =>
  aFieldAddr 0 v15 fun v16 =>
  aLoad false 1 v16 H fun v17 =>
  aBin false false .neq v17 (.p (.int .i64 9)) fun v18 =>
  aMerge true v18 (fun Q19 =>
  aCall Tryz.prog (.p (.func runnelref10_Outs_i [])) [q2s0, y0] H fun v20 h21 =>
  aLenS false v20 fun v22 =>
  aBin false false .eql v22 (.p (.int .i64 0)) fun v23 =>
  (h21 = H ∧ Q19 v23)) fun v24 =>
  aGuard v24
  (K (.tup [y0, (.p (.int .i64 1))]) H)
  (aBin false false .add y0 (.p (.int .i64 1)) fun v25 =>
  B2 [v25] H))
  (K (.tup [(.p (.int .i64 0)), (.p (.int .i64 0))]) H)

def runnelref10_Check_L1 (q1s0 y0 : AV) (H : List Ob) (B1 : List AV → List Ob → Prop) (K : AV → List Ob → Prop) : Prop :=
  aLen false false q1s0 fun v4 =>
  aBin false false .lss y0 v4 fun v5 =>
  aGuard v5
  (aCall Tryz.prog (.p (.func runnelref10_types_i [])) [q1s0, y0] H fun v6 h7 =>
  aCall Tryz.prog (.p (.func runnelref10_node_i [])) [q1s0, y0, v6] h7 fun v8 h9 =>
  aBin false false .neq v8 (.p (.int .i64 0)) fun v10 =>
  aGuard v10
  (K (.tup [y0, v8]) h9)
  (aBin false false .add y0 (.p (.int .i64 1)) fun v11 =>
  B1 [v11] h9))
  (aLoopN 1 [(.p (.int .i64 0))] H fun xs H B2 => runnelref10_Check_L2 q1s0 (xs.getD 0 .top) H B2 K)

def runnelref10_Check (x0 : AV) (H : List Ob) (K : AV → List Ob → Prop) : Prop :=
  aLen false false x0 fun v0 =>
  aBin false false .eql v0 (.p (.int .i64 0)) fun v1 =>
  aGuard v1
  (K (.tup [(.p (.int .i64 0)), (.p (.int .i64 3))]) H)
  (aLen false false x0 fun v2 =>
  aBin false false .gtr v2 (.p (.int .i64 16)) fun v3 =>
  aGuard v3
  (K (.tup [(.p (.int .i64 0)), (.p (.int .i64 10))]) H)
  (aLoopN 1 [(.p (.int .i64 0))] H fun xs H B1 => runnelref10_Check_L1 x0 (xs.getD 0 .top) H B1 K))

def runnelref10_Check_ann : Nat → List Nat := fun k => match k with | 6 => [4] | 12 => [6] | _ => []

theorem runnelref10_Check_eq (x0 : AV) (H : List Ob) (r : AV) (Ho : List Ob) : aBody Tryz.prog runnelref10_Check_ann Tryz.f12 H [x0] r Ho = runnelref10_Check x0 H (fun v H' => Gives H.length v H' r Ho) := by kernel_rfl

theorem runnelref10_Check_fnH {x0 : AV} {Hin : List Ob} {r : AV} {Ho : List Ob} (h : runnelref10_Check x0 Hin (fun v H' => Gives Hin.length v H' r Ho)) : Abs.Fn Tryz.prog runnelref10_Check_i Hin [x0] r Ho :=
  fn_intro mixed runnelref10_Check_ann (fn := Tryz.f12) (by kernel_rfl) (by kernel_rfl) (by rw [runnelref10_Check_eq]; exact h)

theorem runnelref10_Check_fn {x0 : AV} {r : AV} {Ho : List Ob} (h : runnelref10_Check x0 [] (fun v H' => Gives 0 v H' r Ho)) : Abs.Fn Tryz.prog runnelref10_Check_i [] [x0] r Ho := runnelref10_Check_fnH (Hin := []) h

/- runnel/runnelref10.node -/
def runnelref10_node_L3 (q3s2 q3s7 q3s9 q3s10 y0 : AV) (H : List Ob) (B3 : List AV → List Ob → Prop) (B2 : List AV → List Ob → Prop) (K : AV → List Ob → Prop) : Prop :=
  aBin false false .lss y0 q3s10 fun v82 =>
  aGuard v82
  (aFieldAddr 16 q3s7 fun v83 =>
  aLoad false 1 v83 H fun v84 =>
  aIndexAddr 1 v84 y0 fun v85 =>
  aLoad false 1 v85 H fun v86 =>
  aFieldAddr 16 q3s7 fun v87 =>
  aLoad false 1 v87 H fun v88 =>
  aIndexAddr 1 v88 q3s10 fun v89 =>
  aLoad false 1 v89 H fun v90 =>
  aBin false false .eql v86 v90 fun v91 =>
  aGuard v91
  (K (.p (.int .i64 1)) H)
  (aBin false false .add y0 (.p (.int .i64 1)) fun v92 =>
  B3 [v92] H))
  (aFieldAddr 16 q3s7 fun v93 =>
  aLoad false 1 v93 H fun v94 =>
  aIndexAddr 1 v94 q3s10 fun v95 =>
  aLoad false 1 v95 H fun v96 =>
  aIndexAddr 2 q3s2 v96 fun v97 =>
  aLoad true 2 v97 H fun v98 =>
  aBuildSlice 2 [v98] fun v99 =>
  aAppend false 2 32 q3s9 v99 H fun v100 h101 =>
  aBin false false .add q3s10 (.p (.int .i64 1)) fun v102 =>
  B2 [v100, v102] h101)

def runnelref10_node_L4 (q4s0 q4s1 q4s7 y0 : AV) (H : List Ob) (B4 : List AV → List Ob → Prop) (K : AV → List Ob → Prop) : Prop :=
  aBin false false .lss y0 q4s1 fun v117 =>
  aGuard v117
  (aFieldAddr 1 q4s7 fun v118 =>
  aFieldAddr 0 v118 fun v119 =>
  aLoad false 1 v119 H fun v120 =>
  aBin false false .eql v120 (.p (.int .i64 1)) fun v121 =>
  aGuard v121
  (aIndexAddr 21 q4s0 y0 fun v122 =>
  aFieldAddr 1 v122 fun v123 =>
  aFieldAddr 0 v123 fun v124 =>
  aLoad false 1 v124 H fun v125 =>
  aFieldAddr 1 q4s7 fun v126 =>
  aFieldAddr 0 v126 fun v127 =>
  aLoad false 1 v127 H fun v128 =>
  aBin false false .eql v125 v128 fun v129 =>
  aGuard v129
  (aIndexAddr 21 q4s0 y0 fun v130 =>
  aFieldAddr 1 v130 fun v131 =>
  aFieldAddr 1 v131 fun v132 =>
  aLoad false 1 v132 H fun v133 =>
  aFieldAddr 1 q4s7 fun v134 =>
  aFieldAddr 1 v134 fun v135 =>
  aLoad false 1 v135 H fun v136 =>
  aBin false false .eql v133 v136 fun v137 =>
  aGuard v137
  (K (.p (.int .i64 7)) H)
  (aBin false false .add y0 (.p (.int .i64 1)) fun v138 =>
  B4 [v138] H))
  (aBin false false .add y0 (.p (.int .i64 1)) fun v139 =>
  B4 [v139] H))
  (aFieldAddr 1 q4s7 fun v140 =>
  aFieldAddr 0 v140 fun v141 =>
  aLoad false 1 v141 H fun v142 =>
  aBin false false .eql v142 (.p (.int .i64 9)) fun v143 =>
  aGuard v143
  (aIndexAddr 21 q4s0 y0 fun v144 =>
  aFieldAddr 1 v144 fun v145 =>
  aFieldAddr 0 v145 fun v146 =>
  aLoad false 1 v146 H fun v147 =>
  aFieldAddr 1 q4s7 fun v148 =>
  aFieldAddr 0 v148 fun v149 =>
  aLoad false 1 v149 H fun v150 =>
  aBin false false .eql v147 v150 fun v151 =>
  aGuard v151
  (aIndexAddr 21 q4s0 y0 fun v152 =>
  aFieldAddr 1 v152 fun v153 =>
  aFieldAddr 1 v153 fun v154 =>
  aLoad false 1 v154 H fun v155 =>
  aFieldAddr 1 q4s7 fun v156 =>
  aFieldAddr 1 v156 fun v157 =>
  aLoad false 1 v157 H fun v158 =>
  aBin false false .eql v155 v158 fun v159 =>
  aGuard v159
  (K (.p (.int .i64 7)) H)
  (aBin false false .add y0 (.p (.int .i64 1)) fun v160 =>
  B4 [v160] H))
  (aBin false false .add y0 (.p (.int .i64 1)) fun v161 =>
  B4 [v161] H))
  (aBin false false .add y0 (.p (.int .i64 1)) fun v162 =>
  B4 [v162] H)))
  (K (.p (.int .i64 0)) H)

def runnelref10_node_L2 (q2s0 q2s1 q2s2 q2s7 y0 y1 : AV) (H : List Ob) (B2 : List AV → List Ob → Prop) (K : AV → List Ob → Prop) : Prop :=
  aFieldAddr 16 q2s7 fun v55 =>
  aLoad false 1 v55 H fun v56 =>
  aLen false false v56 fun v57 =>
  aBin false false .lss y1 v57 fun v58 =>
  aGuard v58
  (aFieldAddr 16 q2s7 fun v59 =>
  aLoad false 1 v59 H fun v60 =>
  aIndexAddr 1 v60 y1 fun v61 =>
  aLoad false 1 v61 H fun v62 =>
  aBin false false .lss v62 (.p (.int .i64 0)) fun v63 =>
  aMerge false v63 (fun Q64 =>
  aFieldAddr 16 q2s7 fun v65 =>
  aLoad false 1 v65 H fun v66 =>
  aIndexAddr 1 v66 y1 fun v67 =>
  aLoad false 1 v67 H fun v68 =>
  aBin false false .geq v68 q2s1 fun v69 =>
  (H = H ∧ Q64 v69)) fun v70 =>
  aMerge false v70 (fun Q71 =>
  aFieldAddr 16 q2s7 fun v72 =>
  aLoad false 1 v72 H fun v73 =>
  aIndexAddr 1 v73 y1 fun v74 =>
  aLoad false 1 v74 H fun v75 =>
  aIndexAddr 21 q2s0 v75 fun v76 =>
  aFieldAddr 1 v76 fun v77 =>
  aFieldAddr 0 v77 fun v78 =>
  aLoad false 1 v78 H fun v79 =>
  aBin false false .eql v79 (.p (.int .i64 9)) fun v80 =>
  (H = H ∧ Q71 v80)) fun v81 =>
  aGuard v81
  (K (.p (.int .i64 1)) H)
  (aLoopN 1 [(.p (.int .i64 0))] H fun xs H B3 => runnelref10_node_L3 q2s2 q2s7 y0 y1 (xs.getD 0 .top) H B3 B2 K))
  (aFieldAddr 1 q2s7 fun v103 =>
  aLoad true 15 v103 H fun v104 =>
  aCall Tryz.prog (.p (.func runnelref10_Out_i [])) [v104, y0] H fun v105 h106 =>
  aExtract v105 0 fun v107 =>
  aExtract v105 1 fun v108 =>
  aAlloc [(.p (.int .i64 0)), (.full [])] h106 fun v109 h110 =>
  aStore 2 v109 v107 h110 fun _ h112 =>
  aBin false false .neq v108 (.p (.int .i64 0)) fun v113 =>
  aGuard v113
  (K v108 h112)
  (aCall Tryz.prog (.p (.func runnelref10_weight_i [])) [q2s0, q2s1] h112 fun v114 h115 =>
  aBin false false .gtr v114 (.p (.int .i64 64)) fun v116 =>
  aGuard v116
  (K (.p (.int .i64 10)) h115)
  (aLoopN 1 [(.p (.int .i64 0))] h115 fun xs H B4 => runnelref10_node_L4 q2s0 q2s1 q2s7 (xs.getD 0 .top) H B4 K)))

def runnelref10_node_L1 (q1s0 q1s1 q1s2 q1s7 y0 : AV) (H : List Ob) (B1 : List AV → List Ob → Prop) (K : AV → List Ob → Prop) : Prop :=
  aBin false false .lss y0 q1s1 fun v23 =>
  aGuard v23
  (aFieldAddr 0 q1s7 fun v24 =>
  aLoad false 1 v24 H fun v25 =>
  aBin false false .neq v25 (.p (.str [])) fun v26 =>
  aGuard v26
  (aIndexAddr 21 q1s0 y0 fun v27 =>
  aFieldAddr 0 v27 fun v28 =>
  aLoad false 1 v28 H fun v29 =>
  aFieldAddr 0 q1s7 fun v30 =>
  aLoad false 1 v30 H fun v31 =>
  aBin false false .eql v29 v31 fun v32 =>
  aGuard v32
  (K (.p (.int .i64 7)) H)
  (aBin false false .add y0 (.p (.int .i64 1)) fun v33 =>
  B1 [v33] H))
  (aBin false false .add y0 (.p (.int .i64 1)) fun v34 =>
  B1 [v34] H))
  (aFieldAddr 17 q1s7 fun v35 =>
  aLoad false 1 v35 H fun v36 =>
  aBin false false .lss v36 (.p (.int .i64 1)) fun v37 =>
  aMerge false v37 (fun Q38 =>
  aFieldAddr 17 q1s7 fun v39 =>
  aLoad false 1 v39 H fun v40 =>
  aBin false false .gtr v40 (.p (.int .i64 4)) fun v41 =>
  (H = H ∧ Q38 v41)) fun v42 =>
  aMerge false v42 (fun Q43 =>
  aFieldAddr 18 q1s7 fun v44 =>
  aLoad false 1 v44 H fun v45 =>
  aFieldAddr 17 q1s7 fun v46 =>
  aLoad false 1 v46 H fun v47 =>
  aBin false false .lss v45 v47 fun v48 =>
  (H = H ∧ Q43 v48)) fun v49 =>
  aMerge false v49 (fun Q50 =>
  aFieldAddr 18 q1s7 fun v51 =>
  aLoad false 1 v51 H fun v52 =>
  aBin false false .gtr v52 (.p (.int .i64 16)) fun v53 =>
  (H = H ∧ Q50 v53)) fun v54 =>
  aGuard v54
  (K (.p (.int .i64 1)) H)
  (aLoopN 2 [(.full []), (.p (.int .i64 0))] H fun xs H B2 => runnelref10_node_L2 q1s0 q1s1 q1s2 q1s7 (xs.getD 0 .top) (xs.getD 1 .top) H B2 K))

def runnelref10_node (x0 x1 x2 : AV) (H : List Ob) (K : AV → List Ob → Prop) : Prop :=
  aIndexAddr 21 x0 x1 fun v0 =>
  aLoad true 21 v0 H fun v1 =>
  aAlloc [(.p (.str [])), (.p (.int .i64 0)), (.p (.str [])), (.p (.int .i64 0)), (.full []), (.full []), (.p (.str [])), (.p (.int .i64 0)), (.p (.int .i64 0)), (.p (.bool false)), (.p (.str [])), (.full []), (.p (.int .i64 0)), (.full []), (.p (.int .i64 0)), (.p (.int .i64 0)), (.full []), (.p (.int .i64 0)), (.p (.int .i64 0)), (.p (.str [])), (.p (.bool false))] H fun v2 h3 =>
  aStore 21 v2 v1 h3 fun _ h5 =>
  aFieldAddr 0 v2 fun v6 =>
  aLoad false 1 v6 h5 fun v7 =>
  aBin false false .neq v7 (.p (.str [])) fun v8 =>
  aMerge true v8 (fun Q9 =>
  aFieldAddr 0 v2 fun v10 =>
  aLoad false 1 v10 h5 fun v11 =>
  aCall Tryz.prog (.p (.func runnelref10_Good_i [])) [v11] h5 fun v12 h13 =>
  aUn .not v12 fun v14 =>
  (h13 = h5 ∧ Q9 v14)) fun v15 =>
  aMerge false v15 (fun Q16 =>
  aFieldAddr 19 v2 fun v17 =>
  aLoad false 1 v17 h5 fun v18 =>
  aCall Tryz.prog (.p (.func runnelref10_Good_i [])) [v18] h5 fun v19 h20 =>
  aUn .not v19 fun v21 =>
  (h20 = h5 ∧ Q16 v21)) fun v22 =>
  aGuard v22
  (K (.p (.int .i64 6)) h5)
  (aLoopN 1 [(.p (.int .i64 0))] h5 fun xs H B1 => runnelref10_node_L1 x0 x1 x2 v2 (xs.getD 0 .top) H B1 K)

def runnelref10_node_ann : Nat → List Nat := fun k => match k with | 5 => [8] | 13 => [9, 10] | 18 => [11] | 29 => [14] | _ => []

theorem runnelref10_node_eq (x0 x1 x2 : AV) (H : List Ob) (r : AV) (Ho : List Ob) : aBody Tryz.prog runnelref10_node_ann Tryz.f25 H [x0, x1, x2] r Ho = runnelref10_node x0 x1 x2 H (fun v H' => Gives H.length v H' r Ho) := by kernel_rfl

theorem runnelref10_node_fnH {x0 x1 x2 : AV} {Hin : List Ob} {r : AV} {Ho : List Ob} (h : runnelref10_node x0 x1 x2 Hin (fun v H' => Gives Hin.length v H' r Ho)) : Abs.Fn Tryz.prog runnelref10_node_i Hin [x0, x1, x2] r Ho :=
  fn_intro mixed runnelref10_node_ann (fn := Tryz.f25) (by kernel_rfl) (by kernel_rfl) (by rw [runnelref10_node_eq]; exact h)

theorem runnelref10_node_fn {x0 x1 x2 : AV} {r : AV} {Ho : List Ob} (h : runnelref10_node x0 x1 x2 [] (fun v H' => Gives 0 v H' r Ho)) : Abs.Fn Tryz.prog runnelref10_node_i [] [x0, x1, x2] r Ho := runnelref10_node_fnH (Hin := []) h

/- runnel/runnelref10.types -/
def runnelref10_types_L2 (q2s0 q2s5 q2s6 y0 y1 : AV) (H : List Ob) (B2 : List AV → List Ob → Prop) (B1 : List AV → List Ob → Prop) (K : AV → List Ob → Prop) : Prop :=
  aIndexAddr 21 q2s0 q2s6 fun v1 =>
  aFieldAddr 16 v1 fun v2 =>
  aLoad false 1 v2 H fun v3 =>
  aLen false false v3 fun v4 =>
  aBin false false .lss y1 v4 fun v5 =>
  aGuard v5
  (aIndexAddr 21 q2s0 q2s6 fun v6 =>
  aFieldAddr 16 v6 fun v7 =>
  aLoad false 1 v7 H fun v8 =>
  aIndexAddr 1 v8 y1 fun v9 =>
  aLoad false 1 v9 H fun v10 =>
  aIndexAddr 2 q2s5 v10 fun v11 =>
  aLoad true 2 v11 H fun v12 =>
  aBuildSlice 2 [v12] fun v13 =>
  aAppend false 2 32 y0 v13 H fun v14 h15 =>
  aBin false false .add y1 (.p (.int .i64 1)) fun v16 =>
  B2 [v14, v16] h15)
  (aIndexAddr 21 q2s0 q2s6 fun v17 =>
  aFieldAddr 1 v17 fun v18 =>
  aLoad true 15 v18 H fun v19 =>
  aCall Tryz.prog (.p (.func runnelref10_Out_i [])) [v19, y0] H fun v20 h21 =>
  aExtract v20 0 fun v22 =>
  aExtract v20 1 fun _ =>
  aAlloc [(.p (.int .i64 0)), (.full [])] h21 fun v24 h25 =>
  aStore 2 v24 v22 h25 fun _ h27 =>
  aLoad true 2 v24 h27 fun v28 =>
  aBuildSlice 2 [v28] fun v29 =>
  aAppend false 2 32 q2s5 v29 h27 fun v30 h31 =>
  aBin false false .add q2s6 (.p (.int .i64 1)) fun v32 =>
  B1 [v30, v32] h31)

def runnelref10_types_L1 (q1s0 q1s1 y0 y1 : AV) (H : List Ob) (B1 : List AV → List Ob → Prop) (K : AV → List Ob → Prop) : Prop :=
  aBin false false .lss y1 q1s1 fun v0 =>
  aGuard v0
  (aLoopN 2 [(.full []), (.p (.int .i64 0))] H fun xs H B2 => runnelref10_types_L2 q1s0 y0 y1 (xs.getD 0 .top) (xs.getD 1 .top) H B2 B1 K)
  (K y0 H)

def runnelref10_types (x0 x1 : AV) (H : List Ob) (K : AV → List Ob → Prop) : Prop :=
  aLoopN 2 [(.full []), (.p (.int .i64 0))] H fun xs H B1 => runnelref10_types_L1 x0 x1 (xs.getD 0 .top) (xs.getD 1 .top) H B1 K

def runnelref10_types_ann : Nat → List Nat := fun k => match k with | 3 => [5, 6] | 7 => [7, 8] | _ => []

theorem runnelref10_types_eq (x0 x1 : AV) (H : List Ob) (r : AV) (Ho : List Ob) : aBody Tryz.prog runnelref10_types_ann Tryz.f26 H [x0, x1] r Ho = runnelref10_types x0 x1 H (fun v H' => Gives H.length v H' r Ho) := by kernel_rfl

theorem runnelref10_types_fnH {x0 x1 : AV} {Hin : List Ob} {r : AV} {Ho : List Ob} (h : runnelref10_types x0 x1 Hin (fun v H' => Gives Hin.length v H' r Ho)) : Abs.Fn Tryz.prog runnelref10_types_i Hin [x0, x1] r Ho :=
  fn_intro mixed runnelref10_types_ann (fn := Tryz.f26) (by kernel_rfl) (by kernel_rfl) (by rw [runnelref10_types_eq]; exact h)

theorem runnelref10_types_fn {x0 x1 : AV} {r : AV} {Ho : List Ob} (h : runnelref10_types x0 x1 [] (fun v H' => Gives 0 v H' r Ho)) : Abs.Fn Tryz.prog runnelref10_types_i [] [x0, x1] r Ho := runnelref10_types_fnH (Hin := []) h

/- runnel/runnelref10.Outs -/
def runnelref10_Outs_L2 (q2s0 q2s1 q2s6 y0 y1 : AV) (H : List Ob) (B2 : List AV → List Ob → Prop) (B1 : List AV → List Ob → Prop) (K : AV → List Ob → Prop) : Prop :=
  aIndexAddr 21 q2s0 q2s6 fun v2 =>
  aFieldAddr 16 v2 fun v3 =>
  aLoad false 1 v3 H fun v4 =>
  aLen false false v4 fun v5 =>
  aBin false false .lss y1 v5 fun v6 =>
  aGuard v6
  (aIndexAddr 21 q2s0 q2s6 fun v7 =>
  aFieldAddr 16 v7 fun v8 =>
  aLoad false 1 v8 H fun v9 =>
  aIndexAddr 1 v9 y1 fun v10 =>
  aLoad false 1 v10 H fun v11 =>
  aBin false false .eql v11 q2s1 fun v12 =>
  aGuard v12
  (aBuildSlice 1 [q2s6] fun v13 =>
  aAppend false 1 8 y0 v13 H fun v14 h15 =>
  aBin false false .add q2s6 (.p (.int .i64 1)) fun v16 =>
  B1 [v14, v16] h15)
  (aBin false false .add y1 (.p (.int .i64 1)) fun v17 =>
  B2 [y0, v17] H))
  (aBin false false .add q2s6 (.p (.int .i64 1)) fun v18 =>
  B1 [y0, v18] H)

def runnelref10_Outs_L1 (q1s0 q1s1 y0 y1 : AV) (H : List Ob) (B1 : List AV → List Ob → Prop) (K : AV → List Ob → Prop) : Prop :=
  aLen false false q1s0 fun v0 =>
  aBin false false .lss y1 v0 fun v1 =>
  aGuard v1
  (aLoopN 2 [y0, (.p (.int .i64 0))] H fun xs H B2 => runnelref10_Outs_L2 q1s0 q1s1 y1 (xs.getD 0 .top) (xs.getD 1 .top) H B2 B1 K)
  (K y0 H)

def runnelref10_Outs (x0 x1 : AV) (H : List Ob) (K : AV → List Ob → Prop) : Prop :=
  aLoopN 2 [(.full []), (.p (.int .i64 0))] H fun xs H B1 => runnelref10_Outs_L1 x0 x1 (xs.getD 0 .top) (xs.getD 1 .top) H B1 K

def runnelref10_Outs_ann : Nat → List Nat := fun k => match k with | 3 => [5, 6] | 6 => [5, 7] | _ => []

theorem runnelref10_Outs_eq (x0 x1 : AV) (H : List Ob) (r : AV) (Ho : List Ob) : aBody Tryz.prog runnelref10_Outs_ann Tryz.f27 H [x0, x1] r Ho = runnelref10_Outs x0 x1 H (fun v H' => Gives H.length v H' r Ho) := by kernel_rfl

theorem runnelref10_Outs_fnH {x0 x1 : AV} {Hin : List Ob} {r : AV} {Ho : List Ob} (h : runnelref10_Outs x0 x1 Hin (fun v H' => Gives Hin.length v H' r Ho)) : Abs.Fn Tryz.prog runnelref10_Outs_i Hin [x0, x1] r Ho :=
  fn_intro mixed runnelref10_Outs_ann (fn := Tryz.f27) (by kernel_rfl) (by kernel_rfl) (by rw [runnelref10_Outs_eq]; exact h)

theorem runnelref10_Outs_fn {x0 x1 : AV} {r : AV} {Ho : List Ob} (h : runnelref10_Outs x0 x1 [] (fun v H' => Gives 0 v H' r Ho)) : Abs.Fn Tryz.prog runnelref10_Outs_i [] [x0, x1] r Ho := runnelref10_Outs_fnH (Hin := []) h

/- runnel/runnelref10.Good -/
def runnelref10_Good_L1 (q1s0 y0 : AV) (H : List Ob) (B1 : List AV → List Ob → Prop) (K : AV → List Ob → Prop) : Prop :=
  aLen false true q1s0 fun v14 =>
  aBin false false .lss y0 v14 fun v15 =>
  aGuard v15
  (aIndex q1s0 y0 fun v16 =>
  aBin false false .lss v16 (.p (.int .u8 97)) fun v17 =>
  aMerge false v17 (fun Q18 =>
  aIndex q1s0 y0 fun v19 =>
  aBin false false .gtr v19 (.p (.int .u8 122)) fun v20 =>
  (H = H ∧ Q18 v20)) fun v21 =>
  aMerge true v21 (fun Q22 =>
  aIndex q1s0 y0 fun v23 =>
  aBin false false .lss v23 (.p (.int .u8 48)) fun v24 =>
  aMerge false v24 (fun Q25 =>
  aIndex q1s0 y0 fun v26 =>
  aBin false false .gtr v26 (.p (.int .u8 57)) fun v27 =>
  (H = H ∧ Q25 v27)) fun v28 =>
  (H = H ∧ Q22 v28)) fun v29 =>
  aMerge true v29 (fun Q30 =>
  aIndex q1s0 y0 fun v31 =>
  aBin false false .neq v31 (.p (.int .u8 95)) fun v32 =>
  (H = H ∧ Q30 v32)) fun v33 =>
  aGuard v33
  (K (.p (.bool false)) H)
  (aBin false false .add y0 (.p (.int .i64 1)) fun v34 =>
  B1 [v34] H))
  (K (.p (.bool true)) H)

def runnelref10_Good (x0 : AV) (H : List Ob) (K : AV → List Ob → Prop) : Prop :=
  aLen false true x0 fun v0 =>
  aBin false false .lss v0 (.p (.int .i64 1)) fun v1 =>
  aMerge false v1 (fun Q2 =>
  aLenS true x0 fun v3 =>
  aBin false false .gtr v3 (.p (.int .i64 16)) fun v4 =>
  (H = H ∧ Q2 v4)) fun v5 =>
  aMerge false v5 (fun Q6 =>
  aIndex x0 (.p (.int .i64 0)) fun v7 =>
  aBin false false .lss v7 (.p (.int .u8 97)) fun v8 =>
  (H = H ∧ Q6 v8)) fun v9 =>
  aMerge false v9 (fun Q10 =>
  aIndex x0 (.p (.int .i64 0)) fun v11 =>
  aBin false false .gtr v11 (.p (.int .u8 122)) fun v12 =>
  (H = H ∧ Q10 v12)) fun v13 =>
  aGuard v13
  (K (.p (.bool false)) H)
  (aLoopN 1 [(.p (.int .i64 0))] H fun xs H B1 => runnelref10_Good_L1 x0 (xs.getD 0 .top) H B1 K)

def runnelref10_Good_ann : Nat → List Nat := fun k => match k with | 4 => [3] | _ => []

theorem runnelref10_Good_eq (x0 : AV) (H : List Ob) (r : AV) (Ho : List Ob) : aBody Tryz.prog runnelref10_Good_ann Tryz.f42 H [x0] r Ho = runnelref10_Good x0 H (fun v H' => Gives H.length v H' r Ho) := by kernel_rfl

theorem runnelref10_Good_fnH {x0 : AV} {Hin : List Ob} {r : AV} {Ho : List Ob} (h : runnelref10_Good x0 Hin (fun v H' => Gives Hin.length v H' r Ho)) : Abs.Fn Tryz.prog runnelref10_Good_i Hin [x0] r Ho :=
  fn_intro mixed runnelref10_Good_ann (fn := Tryz.f42) (by kernel_rfl) (by kernel_rfl) (by rw [runnelref10_Good_eq]; exact h)

theorem runnelref10_Good_fn {x0 : AV} {r : AV} {Ho : List Ob} (h : runnelref10_Good x0 [] (fun v H' => Gives 0 v H' r Ho)) : Abs.Fn Tryz.prog runnelref10_Good_i [] [x0] r Ho := runnelref10_Good_fnH (Hin := []) h

/- runnel/runnelref10.Out -/
def runnelref10_Out_L2 (q2s1 q2s2 q2s4 q2s7 y0 y1 : AV) (H : List Ob) (B2 : List AV → List Ob → Prop) (K : AV → List Ob → Prop) : Prop :=
  aFieldAddr 4 q2s2 fun v84 =>
  aLoad false 1 v84 H fun v85 =>
  aLen false false v85 fun v86 =>
  aBin false false .lss y1 v86 fun v87 =>
  aGuard v87
  (aAlloc [(.p (.int .i64 0)), (.full [])] H fun v88 h89 =>
  aFieldAddr 4 q2s2 fun v90 =>
  aLoad false 1 v90 h89 fun v91 =>
  aIndexAddr 8 v91 y1 fun v92 =>
  aLoad true 8 v92 h89 fun v93 =>
  aIndexAddr 2 q2s1 (.p (.int .i64 0)) fun v94 =>
  aLoad true 2 v94 h89 fun v95 =>
  aCallT Tryz.prog (.p (.func runnelref6_CheckExpr_i [])) [v93, v95] fun v96 =>
  aExtract v96 0 fun v97 =>
  aExtract v96 1 fun v98 =>
  aStore 2 v88 v97 h89 fun _ h100 =>
  aBin false false .neq v98 (.p (.int .i64 0)) fun v101 =>
  aGuard v101
  (aBuild [(.p (.int .i64 0)), (.full [])] [] fun v102 =>
  aStore 2 q2s4 v102 h100 fun _ h104 =>
  aLoad true 2 q2s4 h104 fun v105 =>
  K (.tup [v105, v98]) h104)
  (aLoad true 2 v88 h100 fun v106 =>
  aBuildSlice 2 [v106] fun v107 =>
  aAppend false 2 32 y0 v107 h100 fun v108 h109 =>
  aBin false false .add y1 (.p (.int .i64 1)) fun v110 =>
  B2 [v108, v110] h109))
  (aLoad true 15 q2s2 H fun v111 =>
  aLoad true 2 q2s7 H fun v112 =>
  aCall Tryz.prog (.p (.func runnelref10_made_i [])) [v111, q2s1, v112, y0] H fun v113 h114 =>
  aExtract v113 0 fun v115 =>
  aExtract v113 1 fun v116 =>
  aStore 2 q2s4 v115 h114 fun _ h118 =>
  aLoad true 2 q2s4 h118 fun v119 =>
  K (.tup [v119, v116]) h118)

def runnelref10_Out_J1 (j1s1 j1s2 j1s4 j1s7 : AV) (H : List Ob) (K : AV → List Ob → Prop) : Prop :=
  aLoopN 2 [(.full []), (.p (.int .i64 0))] H fun xs H B2 => runnelref10_Out_L2 j1s1 j1s2 j1s4 j1s7 (xs.getD 0 .top) (xs.getD 1 .top) H B2 K

def runnelref10_Out_L1 (q1s1 q1s2 q1s4 y0 : AV) (H : List Ob) (B1 : List AV → List Ob → Prop) (K : AV → List Ob → Prop) : Prop :=
  aLen false false q1s1 fun v50 =>
  aBin false false .lss y0 v50 fun v51 =>
  aGuard v51
  (aIndexAddr 2 q1s1 y0 fun v52 =>
  aLoad true 2 v52 H fun v53 =>
  aCall Tryz.prog (.p (.func runnelref6_CheckType_i [])) [v53] H fun v54 h55 =>
  aBin false false .neq v54 (.p (.int .i64 0)) fun v56 =>
  aGuard v56
  (aBuild [(.p (.int .i64 0)), (.full [])] [] fun v57 =>
  aStore 2 q1s4 v57 h55 fun _ h59 =>
  aLoad true 2 q1s4 h59 fun v60 =>
  K (.tup [v60, (.p (.int .i64 5))]) h59)
  (aBin false false .add y0 (.p (.int .i64 1)) fun v61 =>
  B1 [v61] h55))
  (aFieldAddr 0 q1s2 fun v62 =>
  aLoad false 1 v62 H fun v63 =>
  aBin false false .eql v63 (.p (.int .i64 1)) fun v64 =>
  aGuard v64
  (aFieldAddr 2 q1s2 fun v65 =>
  aLoad true 2 v65 H fun v66 =>
  aCall Tryz.prog (.p (.func runnelref6_CheckType_i [])) [v66] H fun v67 h68 =>
  aBin false false .neq v67 (.p (.int .i64 0)) fun v69 =>
  aGuard v69
  (aBuild [(.p (.int .i64 0)), (.full [])] [] fun v70 =>
  aStore 2 q1s4 v70 h68 fun _ h72 =>
  aLoad true 2 q1s4 h72 fun v73 =>
  K (.tup [v73, (.p (.int .i64 5))]) h72)
  (aFieldAddr 2 q1s2 fun v74 =>
  aLoad true 2 v74 h68 fun v75 =>
  aStore 2 q1s4 v75 h68 fun _ h77 =>
  aLoad true 2 q1s4 h77 fun v78 =>
  K (.tup [v78, (.p (.int .i64 0))]) h77))
  (aBuild [(.p (.int .i64 0)), (.full [])] [] fun v79 =>
  aAlloc [(.p (.int .i64 0)), (.full [])] H fun v80 h81 =>
  aStore 2 v80 v79 h81 fun _ h83 =>
  aLoad true 15 q1s2 h83 fun v120 =>
  aCall Tryz.prog (.p (.func runnelref10_Keyed_i [])) [v120] h83 fun v121 h122 =>
  aGuard v121
  (aAlloc [(.p (.int .i64 0)), (.full [])] h122 fun v123 h124 =>
  aFieldAddr 5 q1s2 fun v125 =>
  aLoad true 8 v125 h124 fun v126 =>
  aIndexAddr 2 q1s1 (.p (.int .i64 0)) fun v127 =>
  aLoad true 2 v127 h124 fun v128 =>
  aCallT Tryz.prog (.p (.func runnelref6_CheckExpr_i [])) [v126, v128] fun v129 =>
  aExtract v129 0 fun v130 =>
  aExtract v129 1 fun v131 =>
  aStore 2 v123 v130 h124 fun _ h133 =>
  aBin false false .neq v131 (.p (.int .i64 0)) fun v134 =>
  aGuard v134
  (aBuild [(.p (.int .i64 0)), (.full [])] [] fun v135 =>
  aStore 2 q1s4 v135 h133 fun _ h137 =>
  aLoad true 2 q1s4 h137 fun v138 =>
  K (.tup [v138, v131]) h137)
  (aLoad true 2 v123 h133 fun v139 =>
  aStore 2 v80 v139 h133 fun _ h141 =>
  runnelref10_Out_J1 q1s1 q1s2 q1s4 v80 h141 K))
  (runnelref10_Out_J1 q1s1 q1s2 q1s4 v80 h122 K)))

def runnelref10_Out (x0 x1 : AV) (H : List Ob) (K : AV → List Ob → Prop) : Prop :=
  aBox x0 H fun v0 h1 =>
  aAlloc [(.p (.int .i64 0)), (.full [])] h1 fun v2 h3 =>
  aFieldAddr 0 v0 fun v4 =>
  aLoad false 1 v4 h3 fun v5 =>
  aBin false false .lss v5 (.p (.int .i64 1)) fun v6 =>
  aMerge false v6 (fun Q7 =>
  aFieldAddr 0 v0 fun v8 =>
  aLoad false 1 v8 h3 fun v9 =>
  aBin false false .gtr v9 (.p (.int .i64 9)) fun v10 =>
  (h3 = h3 ∧ Q7 v10)) fun v11 =>
  aGuard v11
  (aBuild [(.p (.int .i64 0)), (.full [])] [] fun v12 =>
  aStore 2 v2 v12 h3 fun _ h14 =>
  aLoad true 2 v2 h14 fun v15 =>
  K (.tup [v15, (.p (.int .i64 6))]) h14)
  (aFieldAddr 0 v0 fun v16 =>
  aLoad false 1 v16 h3 fun v17 =>
  aBin false false .eql v17 (.p (.int .i64 1)) fun v18 =>
  aMerge false v18 (fun Q19 =>
  aFieldAddr 0 v0 fun v20 =>
  aLoad false 1 v20 h3 fun v21 =>
  aBin false false .eql v21 (.p (.int .i64 9)) fun v22 =>
  (h3 = h3 ∧ Q19 v22)) fun v23 =>
  aMerge true v23 (fun Q24 =>
  aFieldAddr 1 v0 fun v25 =>
  aLoad false 1 v25 h3 fun v26 =>
  aCall Tryz.prog (.p (.func runnelref10_Good_i [])) [v26] h3 fun v27 h28 =>
  aUn .not v27 fun v29 =>
  (h28 = h3 ∧ Q24 v29)) fun v30 =>
  aGuard v30
  (aBuild [(.p (.int .i64 0)), (.full [])] [] fun v31 =>
  aStore 2 v2 v31 h3 fun _ h33 =>
  aLoad true 2 v2 h33 fun v34 =>
  K (.tup [v34, (.p (.int .i64 6))]) h33)
  (aLoad true 15 v0 h3 fun v35 =>
  aCall Tryz.prog (.p (.func runnelref10_fields_i [])) [v35] h3 fun v36 h37 =>
  aMerge false v36 (fun Q38 =>
  aFieldAddr 0 v0 fun v39 =>
  aLoad false 1 v39 h37 fun v40 =>
  aLenS false x1 fun v41 =>
  aCall Tryz.prog (.p (.func runnelref10_ins_i [])) [v40, v41] h37 fun v42 h43 =>
  aUn .not v42 fun v44 =>
  (h43 = h37 ∧ Q38 v44)) fun v45 =>
  aGuard v45
  (aBuild [(.p (.int .i64 0)), (.full [])] [] fun v46 =>
  aStore 2 v2 v46 h37 fun _ h48 =>
  aLoad true 2 v2 h48 fun v49 =>
  K (.tup [v49, (.p (.int .i64 1))]) h48)
  (aLoopN 1 [(.p (.int .i64 0))] h37 fun xs H B1 => runnelref10_Out_L1 x1 v0 v2 (xs.getD 0 .top) H B1 K)))

def runnelref10_Out_ann : Nat → List Nat := fun k => match k with | 8 => [6] | 24 => [10, 11] | _ => []

theorem runnelref10_Out_eq (x0 x1 : AV) (H : List Ob) (r : AV) (Ho : List Ob) : aBody Tryz.prog runnelref10_Out_ann Tryz.f43 H [x0, x1] r Ho = runnelref10_Out x0 x1 H (fun v H' => Gives H.length v H' r Ho) := by kernel_rfl

theorem runnelref10_Out_fnH {x0 x1 : AV} {Hin : List Ob} {r : AV} {Ho : List Ob} (h : runnelref10_Out x0 x1 Hin (fun v H' => Gives Hin.length v H' r Ho)) : Abs.Fn Tryz.prog runnelref10_Out_i Hin [x0, x1] r Ho :=
  fn_intro mixed runnelref10_Out_ann (fn := Tryz.f43) (by kernel_rfl) (by kernel_rfl) (by rw [runnelref10_Out_eq]; exact h)

theorem runnelref10_Out_fn {x0 x1 : AV} {r : AV} {Ho : List Ob} (h : runnelref10_Out x0 x1 [] (fun v H' => Gives 0 v H' r Ho)) : Abs.Fn Tryz.prog runnelref10_Out_i [] [x0, x1] r Ho := runnelref10_Out_fnH (Hin := []) h

/- runnel/runnelref10.weight -/
def runnelref10_weight_L2 (q2s0 q2s5 q2s6 y0 y1 : AV) (H : List Ob) (B2 : List AV → List Ob → Prop) (B1 : List AV → List Ob → Prop) (K : AV → List Ob → Prop) : Prop :=
  aIndexAddr 21 q2s0 q2s6 fun v1 =>
  aFieldAddr 16 v1 fun v2 =>
  aLoad false 1 v2 H fun v3 =>
  aLen false false v3 fun v4 =>
  aBin false false .lss y1 v4 fun v5 =>
  aGuard v5
  (aIndexAddr 21 q2s0 q2s6 fun v6 =>
  aFieldAddr 16 v6 fun v7 =>
  aLoad false 1 v7 H fun v8 =>
  aIndexAddr 1 v8 y1 fun v9 =>
  aLoad false 1 v9 H fun v10 =>
  aIndexAddr 1 q2s5 v10 fun v11 =>
  aLoad false 1 v11 H fun v12 =>
  aBin false false .add y0 v12 fun v13 =>
  aBin false false .add y1 (.p (.int .i64 1)) fun v14 =>
  B2 [v13, v14] H)
  (aIndexAddr 21 q2s0 q2s6 fun v15 =>
  aFieldAddr 1 v15 fun v16 =>
  aFieldAddr 0 v16 fun v17 =>
  aLoad false 1 v17 H fun v18 =>
  aBin false false .eql v18 (.p (.int .i64 1)) fun v19 =>
  aGuard v19
  (aBuildSlice 1 [(.p (.int .i64 1))] fun v20 =>
  aAppend false 1 8 q2s5 v20 H fun v21 h22 =>
  aBin false false .add q2s6 (.p (.int .i64 1)) fun v23 =>
  B1 [v21, v23] h22)
  (aBin false false .eql v18 (.p (.int .i64 4)) fun v24 =>
  aGuard v24
  (aIndexAddr 21 q2s0 q2s6 fun v25 =>
  aFieldAddr 1 v25 fun v26 =>
  aFieldAddr 4 v26 fun v27 =>
  aLoad false 1 v27 H fun v28 =>
  aLen false false v28 fun v29 =>
  aBin false false .mul y0 v29 fun v30 =>
  aBuildSlice 1 [v30] fun v31 =>
  aAppend false 1 8 q2s5 v31 H fun v32 h33 =>
  aBin false false .add q2s6 (.p (.int .i64 1)) fun v34 =>
  B1 [v32, v34] h33)
  (aBuildSlice 1 [y0] fun v35 =>
  aAppend false 1 8 q2s5 v35 H fun v36 h37 =>
  aBin false false .add q2s6 (.p (.int .i64 1)) fun v38 =>
  B1 [v36, v38] h37)))

def runnelref10_weight_L1 (q1s0 q1s1 y0 y1 : AV) (H : List Ob) (B1 : List AV → List Ob → Prop) (K : AV → List Ob → Prop) : Prop :=
  aBin false false .leq y1 q1s1 fun v0 =>
  aGuard v0
  (aLoopN 2 [(.p (.int .i64 0)), (.p (.int .i64 0))] H fun xs H B2 => runnelref10_weight_L2 q1s0 y0 y1 (xs.getD 0 .top) (xs.getD 1 .top) H B2 B1 K)
  (aIndexAddr 1 y0 q1s1 fun v39 =>
  aLoad false 1 v39 H fun v40 =>
  K v40 H)

def runnelref10_weight (x0 x1 : AV) (H : List Ob) (K : AV → List Ob → Prop) : Prop :=
  aLoopN 2 [(.full []), (.p (.int .i64 0))] H fun xs H B1 => runnelref10_weight_L1 x0 x1 (xs.getD 0 .top) (xs.getD 1 .top) H B1 K

def runnelref10_weight_ann : Nat → List Nat := fun k => match k with | 3 => [5, 6] | 7 => [7, 8] | _ => []

theorem runnelref10_weight_eq (x0 x1 : AV) (H : List Ob) (r : AV) (Ho : List Ob) : aBody Tryz.prog runnelref10_weight_ann Tryz.f44 H [x0, x1] r Ho = runnelref10_weight x0 x1 H (fun v H' => Gives H.length v H' r Ho) := by kernel_rfl

theorem runnelref10_weight_fnH {x0 x1 : AV} {Hin : List Ob} {r : AV} {Ho : List Ob} (h : runnelref10_weight x0 x1 Hin (fun v H' => Gives Hin.length v H' r Ho)) : Abs.Fn Tryz.prog runnelref10_weight_i Hin [x0, x1] r Ho :=
  fn_intro mixed runnelref10_weight_ann (fn := Tryz.f44) (by kernel_rfl) (by kernel_rfl) (by rw [runnelref10_weight_eq]; exact h)

theorem runnelref10_weight_fn {x0 x1 : AV} {r : AV} {Ho : List Ob} (h : runnelref10_weight x0 x1 [] (fun v H' => Gives 0 v H' r Ho)) : Abs.Fn Tryz.prog runnelref10_weight_i [] [x0, x1] r Ho := runnelref10_weight_fnH (Hin := []) h

/- runnel/runnelref10.fields -/
def runnelref10_fields_J1 (j1s1 j1s3 j1s4 j1s5 : AV) (H : List Ob) (K : AV → List Ob → Prop) : Prop :=
  aUn .not j1s3 fun v10 =>
  aMerge true v10 (fun Q11 =>
  aFieldAddr 1 j1s1 fun v12 =>
  aLoad false 1 v12 H fun v13 =>
  aBin false false .neq v13 (.p (.str [])) fun v14 =>
  (H = H ∧ Q11 v14)) fun v15 =>
  aGuard v15
  (K (.p (.bool true)) H)
  (aFieldAddr 0 j1s1 fun v16 =>
  aLoad false 1 v16 H fun v17 =>
  aBin false false .neq v17 (.p (.int .i64 1)) fun v18 =>
  aMerge true v18 (fun Q19 =>
  aFieldAddr 2 j1s1 fun v20 =>
  aFieldAddr 0 v20 fun v21 =>
  aLoad false 1 v21 H fun v22 =>
  aBin false false .neq v22 (.p (.int .i64 0)) fun v23 =>
  aMerge false v23 (fun Q24 =>
  aFieldAddr 2 j1s1 fun v25 =>
  aFieldAddr 1 v25 fun v26 =>
  aLoad false 1 v26 H fun v27 =>
  aLenS false v27 fun v28 =>
  aBin false false .gtr v28 (.p (.int .i64 0)) fun v29 =>
  (H = H ∧ Q24 v29)) fun v30 =>
  (H = H ∧ Q19 v30)) fun v31 =>
  aGuard v31
  (K (.p (.bool true)) H)
  (aFieldAddr 4 j1s1 fun v32 =>
  aLoad false 1 v32 H fun v33 =>
  aLen false false v33 fun v34 =>
  aBin false false .lss v34 j1s4 fun v35 =>
  aMerge false v35 (fun Q36 =>
  aFieldAddr 4 j1s1 fun v37 =>
  aLoad false 1 v37 H fun v38 =>
  aLenS false v38 fun v39 =>
  aBin false false .gtr v39 j1s5 fun v40 =>
  (H = H ∧ Q36 v40)) fun v41 =>
  aGuard v41
  (K (.p (.bool true)) H)
  (aLoad true 15 j1s1 H fun v42 =>
  aCall Tryz.prog (.p (.func runnelref10_Keyed_i [])) [v42] H fun v43 h44 =>
  aUn .not v43 fun v45 =>
  aMerge true v45 (fun Q46 =>
  aFieldAddr 5 j1s1 fun v47 =>
  aLoad true 8 v47 h44 fun v48 =>
  aCall Tryz.prog (.p (.func runnelref10_bare_i [])) [v48] h44 fun v49 h50 =>
  aUn .not v49 fun v51 =>
  (h50 = h44 ∧ Q46 v51)) fun v52 =>
  aGuard v52
  (K (.p (.bool true)) h44)
  (aFieldAddr 0 j1s1 fun v53 =>
  aLoad false 1 v53 h44 fun v54 =>
  aBin false false .eql v54 (.p (.int .i64 5)) fun v55 =>
  aMerge true v55 (fun Q56 =>
  aFieldAddr 13 j1s1 fun v57 =>
  aLoad false 1 v57 h44 fun v58 =>
  aBin false false .lss v58 (.p (.int .i64 1)) fun v59 =>
  aMerge false v59 (fun Q60 =>
  aFieldAddr 13 j1s1 fun v61 =>
  aLoad false 1 v61 h44 fun v62 =>
  aBin false false .gtr v62 (.p (.int .i64 4)) fun v63 =>
  (h44 = h44 ∧ Q60 v63)) fun v64 =>
  (h44 = h44 ∧ Q56 v64)) fun v65 =>
  aMerge false v65 (fun Q66 =>
  aFieldAddr 0 j1s1 fun v67 =>
  aLoad false 1 v67 h44 fun v68 =>
  aBin false false .neq v68 (.p (.int .i64 5)) fun v69 =>
  aMerge true v69 (fun Q70 =>
  aFieldAddr 13 j1s1 fun v71 =>
  aLoad false 1 v71 h44 fun v72 =>
  aBin false false .neq v72 (.p (.int .i64 0)) fun v73 =>
  (h44 = h44 ∧ Q70 v73)) fun v74 =>
  (h44 = h44 ∧ Q66 v74)) fun v75 =>
  aGuard v75
  (K (.p (.bool true)) h44)
  (aFieldAddr 0 j1s1 fun v76 =>
  aLoad false 1 v76 h44 fun v77 =>
  aBin false false .eql v77 (.p (.int .i64 6)) fun v78 =>
  aMerge true v78 (fun Q79 =>
  aFieldAddr 14 j1s1 fun v80 =>
  aLoad false 1 v80 h44 fun v81 =>
  aBin false false .lss v81 (.p (.int .i64 1)) fun v82 =>
  aMerge false v82 (fun Q83 =>
  aFieldAddr 14 j1s1 fun v84 =>
  aLoad false 1 v84 h44 fun v85 =>
  aBin false false .gtr v85 (.p (.int .i64 1000)) fun v86 =>
  (h44 = h44 ∧ Q83 v86)) fun v87 =>
  (h44 = h44 ∧ Q79 v87)) fun v88 =>
  aMerge false v88 (fun Q89 =>
  aFieldAddr 0 j1s1 fun v90 =>
  aLoad false 1 v90 h44 fun v91 =>
  aBin false false .neq v91 (.p (.int .i64 6)) fun v92 =>
  aMerge true v92 (fun Q93 =>
  aFieldAddr 14 j1s1 fun v94 =>
  aLoad false 1 v94 h44 fun v95 =>
  aBin false false .neq v95 (.p (.int .i64 0)) fun v96 =>
  (h44 = h44 ∧ Q93 v96)) fun v97 =>
  (h44 = h44 ∧ Q89 v97)) fun v98 =>
  K v98 h44)))))

def runnelref10_fields (x0 : AV) (H : List Ob) (K : AV → List Ob → Prop) : Prop :=
  aBox x0 H fun v0 h1 =>
  aFieldAddr 0 v0 fun v2 =>
  aLoad false 1 v2 h1 fun v3 =>
  aBin false false .eql v3 (.p (.int .i64 1)) fun v4 =>
  aMerge false v4 (fun Q5 =>
  aFieldAddr 0 v0 fun v6 =>
  aLoad false 1 v6 h1 fun v7 =>
  aBin false false .eql v7 (.p (.int .i64 9)) fun v8 =>
  (h1 = h1 ∧ Q5 v8)) fun v9 =>
  aFieldAddr 0 v0 fun v99 =>
  aLoad false 1 v99 h1 fun v100 =>
  aBin false false .eql v100 (.p (.int .i64 2)) fun v101 =>
  aMerge false v101 (fun Q102 =>
  aBin false false .eql v100 (.p (.int .i64 3)) fun v103 =>
  aMerge false v103 (fun Q104 =>
  aBin false false .eql v100 (.p (.int .i64 5)) fun v105 =>
  (h1 = h1 ∧ Q104 v105)) fun v106 =>
  (h1 = h1 ∧ Q102 v106)) fun v107 =>
  aGuard v107
  (runnelref10_fields_J1 v0 v9 (.p (.int .i64 1)) (.p (.int .i64 1)) h1 K)
  (aBin false false .eql v100 (.p (.int .i64 4)) fun v108 =>
  aGuard v108
  (runnelref10_fields_J1 v0 v9 (.p (.int .i64 1)) (.p (.int .i64 4)) h1 K)
  (runnelref10_fields_J1 v0 v9 (.p (.int .i64 0)) (.p (.int .i64 0)) h1 K))

def runnelref10_fields_ann : Nat → List Nat := fun k => match k with | 1000007 => [1] | 1000006 => [1] | _ => []

theorem runnelref10_fields_eq (x0 : AV) (H : List Ob) (r : AV) (Ho : List Ob) : aBody Tryz.prog runnelref10_fields_ann Tryz.f59 H [x0] r Ho = runnelref10_fields x0 H (fun v H' => Gives H.length v H' r Ho) := by kernel_rfl

theorem runnelref10_fields_fnH {x0 : AV} {Hin : List Ob} {r : AV} {Ho : List Ob} (h : runnelref10_fields x0 Hin (fun v H' => Gives Hin.length v H' r Ho)) : Abs.Fn Tryz.prog runnelref10_fields_i Hin [x0] r Ho :=
  fn_intro mixed runnelref10_fields_ann (fn := Tryz.f59) (by kernel_rfl) (by kernel_rfl) (by rw [runnelref10_fields_eq]; exact h)

theorem runnelref10_fields_fn {x0 : AV} {r : AV} {Ho : List Ob} (h : runnelref10_fields x0 [] (fun v H' => Gives 0 v H' r Ho)) : Abs.Fn Tryz.prog runnelref10_fields_i [] [x0] r Ho := runnelref10_fields_fnH (Hin := []) h

/- runnel/runnelref10.ins -/
def runnelref10_ins (x0 x1 : AV) (H : List Ob) (K : AV → List Ob → Prop) : Prop :=
  aBin false false .eql x0 (.p (.int .i64 1)) fun v0 =>
  aGuard v0
  (aBin false false .eql x1 (.p (.int .i64 0)) fun v1 =>
  K v1 H)
  (aBin false false .eql x0 (.p (.int .i64 8)) fun v2 =>
  aGuard v2
  (aBin false false .geq x1 (.p (.int .i64 2)) fun v3 =>
  aMerge true v3 (fun Q4 =>
  aBin false false .leq x1 (.p (.int .i64 4)) fun v5 =>
  (H = H ∧ Q4 v5)) fun v6 =>
  K v6 H)
  (aBin false false .eql x1 (.p (.int .i64 1)) fun v7 =>
  K v7 H))

def runnelref10_ins_ann : Nat → List Nat := fun _ => []

theorem runnelref10_ins_eq (x0 x1 : AV) (H : List Ob) (r : AV) (Ho : List Ob) : aBody Tryz.prog runnelref10_ins_ann Tryz.f60 H [x0, x1] r Ho = runnelref10_ins x0 x1 H (fun v H' => Gives H.length v H' r Ho) := by kernel_rfl

theorem runnelref10_ins_fnH {x0 x1 : AV} {Hin : List Ob} {r : AV} {Ho : List Ob} (h : runnelref10_ins x0 x1 Hin (fun v H' => Gives Hin.length v H' r Ho)) : Abs.Fn Tryz.prog runnelref10_ins_i Hin [x0, x1] r Ho :=
  fn_intro mixed runnelref10_ins_ann (fn := Tryz.f60) (by kernel_rfl) (by kernel_rfl) (by rw [runnelref10_ins_eq]; exact h)

theorem runnelref10_ins_fn {x0 x1 : AV} {r : AV} {Ho : List Ob} (h : runnelref10_ins x0 x1 [] (fun v H' => Gives 0 v H' r Ho)) : Abs.Fn Tryz.prog runnelref10_ins_i [] [x0, x1] r Ho := runnelref10_ins_fnH (Hin := []) h

/- runnel/runnelref10.Keyed -/
def runnelref10_Keyed (x0 : AV) (H : List Ob) (K : AV → List Ob → Prop) : Prop :=
  aBox x0 H fun v0 h1 =>
  aFieldAddr 0 v0 fun v2 =>
  aLoad false 1 v2 h1 fun v3 =>
  aBin false false .eql v3 (.p (.int .i64 5)) fun v4 =>
  aMerge false v4 (fun Q5 =>
  aFieldAddr 0 v0 fun v6 =>
  aLoad false 1 v6 h1 fun v7 =>
  aBin false false .eql v7 (.p (.int .i64 6)) fun v8 =>
  (h1 = h1 ∧ Q5 v8)) fun v9 =>
  aMerge false v9 (fun Q10 =>
  aFieldAddr 0 v0 fun v11 =>
  aLoad false 1 v11 h1 fun v12 =>
  aBin false false .eql v12 (.p (.int .i64 7)) fun v13 =>
  (h1 = h1 ∧ Q10 v13)) fun v14 =>
  K v14 h1

def runnelref10_Keyed_ann : Nat → List Nat := fun _ => []

theorem runnelref10_Keyed_eq (x0 : AV) (H : List Ob) (r : AV) (Ho : List Ob) : aBody Tryz.prog runnelref10_Keyed_ann Tryz.f62 H [x0] r Ho = runnelref10_Keyed x0 H (fun v H' => Gives H.length v H' r Ho) := by kernel_rfl

theorem runnelref10_Keyed_fnH {x0 : AV} {Hin : List Ob} {r : AV} {Ho : List Ob} (h : runnelref10_Keyed x0 Hin (fun v H' => Gives Hin.length v H' r Ho)) : Abs.Fn Tryz.prog runnelref10_Keyed_i Hin [x0] r Ho :=
  fn_intro mixed runnelref10_Keyed_ann (fn := Tryz.f62) (by kernel_rfl) (by kernel_rfl) (by rw [runnelref10_Keyed_eq]; exact h)

theorem runnelref10_Keyed_fn {x0 : AV} {r : AV} {Ho : List Ob} (h : runnelref10_Keyed x0 [] (fun v H' => Gives 0 v H' r Ho)) : Abs.Fn Tryz.prog runnelref10_Keyed_i [] [x0] r Ho := runnelref10_Keyed_fnH (Hin := []) h

/- runnel/runnelref10.made -/
def runnelref10_made_L1 (q1s3 q1s8 y0 : AV) (H : List Ob) (B1 : List AV → List Ob → Prop) (K : AV → List Ob → Prop) : Prop :=
  aLen false false q1s3 fun v29 =>
  aBin false false .lss y0 v29 fun v30 =>
  aGuard v30
  (aIndexAddr 2 q1s3 y0 fun v31 =>
  aLoad true 2 v31 H fun v32 =>
  aIndexAddr 2 q1s3 (.p (.int .i64 0)) fun v33 =>
  aLoad true 2 v33 H fun v34 =>
  aCallT Tryz.prog (.p (.func runnelref6_SameType_i [])) [v32, v34] fun v35 =>
  aUn .not v35 fun v36 =>
  aGuard v36
  (aBuild [(.p (.int .i64 0)), (.full [])] [] fun v37 =>
  aStore 2 q1s8 v37 H fun _ h39 =>
  aLoad true 2 q1s8 h39 fun v40 =>
  K (.tup [v40, (.p (.int .i64 5))]) h39)
  (aBin false false .add y0 (.p (.int .i64 1)) fun v41 =>
  B1 [v41] H))
  (aIndexAddr 2 q1s3 (.p (.int .i64 0)) fun v42 =>
  aLoad true 2 v42 H fun v43 =>
  aStore 2 q1s8 v43 H fun _ h45 =>
  aLoad true 2 q1s8 h45 fun v46 =>
  K (.tup [v46, (.p (.int .i64 0))]) h45)

def runnelref10_made_L2 (q2s1 q2s8 y0 : AV) (H : List Ob) (B2 : List AV → List Ob → Prop) (K : AV → List Ob → Prop) : Prop :=
  aLen false false q2s1 fun v90 =>
  aBin false false .lss y0 v90 fun v91 =>
  aGuard v91
  (aIndexAddr 2 q2s1 y0 fun v92 =>
  aLoad true 2 v92 H fun v93 =>
  aIndexAddr 2 q2s1 (.p (.int .i64 0)) fun v94 =>
  aLoad true 2 v94 H fun v95 =>
  aCallT Tryz.prog (.p (.func runnelref6_SameType_i [])) [v93, v95] fun v96 =>
  aUn .not v96 fun v97 =>
  aGuard v97
  (aBuild [(.p (.int .i64 0)), (.full [])] [] fun v98 =>
  aStore 2 q2s8 v98 H fun _ h100 =>
  aLoad true 2 q2s8 h100 fun v101 =>
  K (.tup [v101, (.p (.int .i64 5))]) h100)
  (aBin false false .add y0 (.p (.int .i64 1)) fun v102 =>
  B2 [v102] H))
  (aIndexAddr 2 q2s1 (.p (.int .i64 0)) fun v103 =>
  aLoad true 2 v103 H fun v104 =>
  aStore 2 q2s8 v104 H fun _ h106 =>
  aLoad true 2 q2s8 h106 fun v107 =>
  K (.tup [v107, (.p (.int .i64 0))]) h106)

def runnelref10_made (x0 x1 x2 x3 : AV) (H : List Ob) (K : AV → List Ob → Prop) : Prop :=
  aBox x0 H fun v0 h1 =>
  aBox x2 h1 fun v2 h3 =>
  aAlloc [(.p (.int .i64 0)), (.full [])] h3 fun v4 h5 =>
  aFieldAddr 0 v0 fun v6 =>
  aLoad false 1 v6 h5 fun v7 =>
  aBin false false .eql v7 (.p (.int .i64 2)) fun v8 =>
  aGuard v8
  (aIndexAddr 2 x3 (.p (.int .i64 0)) fun v9 =>
  aLoad true 2 v9 h5 fun v10 =>
  aStore 2 v4 v10 h5 fun _ h12 =>
  aLoad true 2 v4 h12 fun v13 =>
  K (.tup [v13, (.p (.int .i64 0))]) h12)
  (aBin false false .eql v7 (.p (.int .i64 3)) fun v14 =>
  aGuard v14
  (aIndexAddr 2 x3 (.p (.int .i64 0)) fun v15 =>
  aFieldAddr 0 v15 fun v16 =>
  aLoad false 1 v16 h5 fun v17 =>
  aBin false false .neq v17 (.p (.int .i64 2)) fun v18 =>
  aGuard v18
  (aBuild [(.p (.int .i64 0)), (.full [])] [] fun v19 =>
  aStore 2 v4 v19 h5 fun _ h21 =>
  aLoad true 2 v4 h21 fun v22 =>
  K (.tup [v22, (.p (.int .i64 5))]) h21)
  (aIndexAddr 2 x1 (.p (.int .i64 0)) fun v23 =>
  aLoad true 2 v23 h5 fun v24 =>
  aStore 2 v4 v24 h5 fun _ h26 =>
  aLoad true 2 v4 h26 fun v27 =>
  K (.tup [v27, (.p (.int .i64 0))]) h26))
  (aBin false false .eql v7 (.p (.int .i64 4)) fun v28 =>
  aGuard v28
  (aLoopN 1 [(.p (.int .i64 1))] h5 fun xs H B1 => runnelref10_made_L1 x3 v4 (xs.getD 0 .top) H B1 K)
  (aBin false false .eql v7 (.p (.int .i64 5)) fun v47 =>
  aMerge false v47 (fun Q48 =>
  aBin false false .eql v7 (.p (.int .i64 6)) fun v49 =>
  (h5 = h5 ∧ Q48 v49)) fun v50 =>
  aGuard v50
  (aFieldAddr 0 v0 fun v51 =>
  aLoad false 1 v51 h5 fun v52 =>
  aBin false false .eql v52 (.p (.int .i64 5)) fun v53 =>
  aMerge true v53 (fun Q54 =>
  aIndexAddr 2 x3 (.p (.int .i64 0)) fun v55 =>
  aFieldAddr 0 v55 fun v56 =>
  aLoad false 1 v56 h5 fun v57 =>
  aBin false false .neq v57 (.p (.int .i64 1)) fun v58 =>
  (h5 = h5 ∧ Q54 v58)) fun v59 =>
  aGuard v59
  (aBuild [(.p (.int .i64 0)), (.full [])] [] fun v60 =>
  aStore 2 v4 v60 h5 fun _ h62 =>
  aLoad true 2 v4 h62 fun v63 =>
  K (.tup [v63, (.p (.int .i64 5))]) h62)
  (aAlloc [(.p (.int .i64 0)), (.full [])] h5 fun v64 h65 =>
  aLoad true 2 v2 h65 fun v66 =>
  aCallT Tryz.prog (.p (.func runnelref6_Plain_i [])) [(.p (.int .i64 1))] fun v67 =>
  aBuildSlice 2 [v66, v67] fun v68 =>
  aBuild [(.p (.int .i64 0)), (.full [])] [(0, 1, (.p (.int .i64 4))), (1, 1, v68)] fun v69 =>
  aStore 2 v64 v69 h65 fun _ h71 =>
  aLoad true 2 v64 h71 fun v72 =>
  aCall Tryz.prog (.p (.func runnelref6_CheckType_i [])) [v72] h71 fun v73 h74 =>
  aBin false false .neq v73 (.p (.int .i64 0)) fun v75 =>
  aGuard v75
  (aBuild [(.p (.int .i64 0)), (.full [])] [] fun v76 =>
  aStore 2 v4 v76 h74 fun _ h78 =>
  aLoad true 2 v4 h78 fun v79 =>
  K (.tup [v79, v73]) h78)
  (aLoad true 2 v64 h74 fun v80 =>
  aStore 2 v4 v80 h74 fun _ h82 =>
  aLoad true 2 v4 h82 fun v83 =>
  K (.tup [v83, (.p (.int .i64 0))]) h82)))
  (aBin false false .eql v7 (.p (.int .i64 7)) fun v84 =>
  aGuard v84
  (aLoad true 2 v2 h5 fun v85 =>
  aStore 2 v4 v85 h5 fun _ h87 =>
  aLoad true 2 v4 h87 fun v88 =>
  K (.tup [v88, (.p (.int .i64 0))]) h87)
  (aBin false false .eql v7 (.p (.int .i64 8)) fun v89 =>
  aGuard v89
  (aLoopN 1 [(.p (.int .i64 1))] h5 fun xs H B2 => runnelref10_made_L2 x1 v4 (xs.getD 0 .top) H B2 K)
  (aIndexAddr 2 x1 (.p (.int .i64 0)) fun v108 =>
  aLoad true 2 v108 h5 fun v109 =>
  aStore 2 v4 v109 h5 fun _ h111 =>
  aLoad true 2 v4 h111 fun v112 =>
  K (.tup [v112, (.p (.int .i64 0))]) h111))))))

def runnelref10_made_ann : Nat → List Nat := fun k => match k with | 9 => [10] | 27 => [13] | 1000015 => [1] | _ => []

theorem runnelref10_made_eq (x0 x1 x2 x3 : AV) (H : List Ob) (r : AV) (Ho : List Ob) : aBody Tryz.prog runnelref10_made_ann Tryz.f64 H [x0, x1, x2, x3] r Ho = runnelref10_made x0 x1 x2 x3 H (fun v H' => Gives H.length v H' r Ho) := by kernel_rfl

theorem runnelref10_made_fnH {x0 x1 x2 x3 : AV} {Hin : List Ob} {r : AV} {Ho : List Ob} (h : runnelref10_made x0 x1 x2 x3 Hin (fun v H' => Gives Hin.length v H' r Ho)) : Abs.Fn Tryz.prog runnelref10_made_i Hin [x0, x1, x2, x3] r Ho :=
  fn_intro mixed runnelref10_made_ann (fn := Tryz.f64) (by kernel_rfl) (by kernel_rfl) (by rw [runnelref10_made_eq]; exact h)

theorem runnelref10_made_fn {x0 x1 x2 x3 : AV} {r : AV} {Ho : List Ob} (h : runnelref10_made x0 x1 x2 x3 [] (fun v H' => Gives 0 v H' r Ho)) : Abs.Fn Tryz.prog runnelref10_made_i [] [x0, x1, x2, x3] r Ho := runnelref10_made_fnH (Hin := []) h

/- runnel/runnelref10.bare -/
def runnelref10_bare (x0 : AV) (H : List Ob) (K : AV → List Ob → Prop) : Prop :=
  aBox x0 H fun v0 h1 =>
  aFieldAddr 0 v0 fun v2 =>
  aLoad false 1 v2 h1 fun v3 =>
  aBin false false .eql v3 (.p (.str [])) fun v4 =>
  aMerge true v4 (fun Q5 =>
  aFieldAddr 1 v0 fun v6 =>
  aFieldAddr 0 v6 fun v7 =>
  aLoad false 1 v7 h1 fun v8 =>
  aBin false false .eql v8 (.p (.int .i64 0)) fun v9 =>
  (h1 = h1 ∧ Q5 v9)) fun v10 =>
  aMerge true v10 (fun Q11 =>
  aFieldAddr 1 v0 fun v12 =>
  aFieldAddr 1 v12 fun v13 =>
  aLoad false 1 v13 h1 fun v14 =>
  aBin false false .eql v14 (.p (.int .i64 0)) fun v15 =>
  (h1 = h1 ∧ Q11 v15)) fun v16 =>
  aMerge true v16 (fun Q17 =>
  aFieldAddr 1 v0 fun v18 =>
  aFieldAddr 2 v18 fun v19 =>
  aLoad false 1 v19 h1 fun v20 =>
  aUn .not v20 fun v21 =>
  (h1 = h1 ∧ Q17 v21)) fun v22 =>
  aMerge true v22 (fun Q23 =>
  aFieldAddr 1 v0 fun v24 =>
  aFieldAddr 3 v24 fun v25 =>
  aLoad false 1 v25 h1 fun v26 =>
  aBin false false .eql v26 (.p (.str [])) fun v27 =>
  (h1 = h1 ∧ Q23 v27)) fun v28 =>
  aMerge true v28 (fun Q29 =>
  aFieldAddr 1 v0 fun v30 =>
  aFieldAddr 4 v30 fun v31 =>
  aLoad false 1 v31 h1 fun v32 =>
  aLenS false v32 fun v33 =>
  aBin false false .eql v33 (.p (.int .i64 0)) fun v34 =>
  (h1 = h1 ∧ Q29 v34)) fun v35 =>
  aMerge true v35 (fun Q36 =>
  aFieldAddr 6 v0 fun v37 =>
  aLoad false 1 v37 h1 fun v38 =>
  aBin false false .eql v38 (.p (.int .i64 0)) fun v39 =>
  (h1 = h1 ∧ Q36 v39)) fun v40 =>
  aMerge true v40 (fun Q41 =>
  aFieldAddr 7 v0 fun v42 =>
  aLoad false 1 v42 h1 fun v43 =>
  aLenS false v43 fun v44 =>
  aBin false false .eql v44 (.p (.int .i64 0)) fun v45 =>
  (h1 = h1 ∧ Q41 v45)) fun v46 =>
  K v46 h1

def runnelref10_bare_ann : Nat → List Nat := fun _ => []

theorem runnelref10_bare_eq (x0 : AV) (H : List Ob) (r : AV) (Ho : List Ob) : aBody Tryz.prog runnelref10_bare_ann Tryz.f73 H [x0] r Ho = runnelref10_bare x0 H (fun v H' => Gives H.length v H' r Ho) := by kernel_rfl

theorem runnelref10_bare_fnH {x0 : AV} {Hin : List Ob} {r : AV} {Ho : List Ob} (h : runnelref10_bare x0 Hin (fun v H' => Gives Hin.length v H' r Ho)) : Abs.Fn Tryz.prog runnelref10_bare_i Hin [x0] r Ho :=
  fn_intro mixed runnelref10_bare_ann (fn := Tryz.f73) (by kernel_rfl) (by kernel_rfl) (by rw [runnelref10_bare_eq]; exact h)

theorem runnelref10_bare_fn {x0 : AV} {r : AV} {Ho : List Ob} (h : runnelref10_bare x0 [] (fun v H' => Gives 0 v H' r Ho)) : Abs.Fn Tryz.prog runnelref10_bare_i [] [x0] r Ho := runnelref10_bare_fnH (Hin := []) h

end Go.Proofs.YtmnmiiifilfcmaaGreat
end

section
/- Made by program (Gen.lean): functions of the dump, over trees. -/
set_option maxRecDepth 4000
set_option linter.unusedVariables false
namespace Go.Proofs.YtmnmiiifilfcmaaGreat
open Go Go.Abs

/- runnel/runnellaw8.GraphOuts -/
def runnellaw8_GraphOuts_L3 (q3s0 q3s4 q3s5 q3s6 y0 y1 : AV) (H : List Ob) (B3 : List AV → List Ob → Prop) (B2 : List AV → List Ob → Prop) (K : AV → List Ob → Prop) : Prop :=
  aIndexAddr 1 q3s5 q3s6 fun v20 =>
  aLoad false 1 v20 H fun v21 =>
  aIndexAddr 21 q3s0 v21 fun v22 =>
  aFieldAddr 16 v22 fun v23 =>
  aLoad false 1 v23 H fun v24 =>
  aLen false false v24 fun v25 =>
  aBin false false .lss y1 v25 fun v26 =>
  aGuard v26
  (aMerge false y0 (fun Q27 =>
  aIndexAddr 1 q3s5 q3s6 fun v28 =>
  aLoad false 1 v28 H fun v29 =>
  aIndexAddr 21 q3s0 v29 fun v30 =>
  aFieldAddr 16 v30 fun v31 =>
  aLoad false 1 v31 H fun v32 =>
  aIndexAddr 1 v32 y1 fun v33 =>
  aLoad false 1 v33 H fun v34 =>
  aBin false false .eql v34 q3s4 fun v35 =>
  (H = H ∧ Q27 v35)) fun v36 =>
  aBin false false .add y1 (.p (.int .i64 1)) fun v37 =>
  B3 [v36, v37] H)
  (aUn .not y0 fun v38 =>
  aGuard v38
  (K (.p (.bool false)) H)
  (aBin false false .add q3s6 (.p (.int .i64 1)) fun v39 =>
  B2 [v39] H))

def runnellaw8_GraphOuts_J1 (j1s0 j1s4 j1s5 j1s6 : AV) (H : List Ob) (B2 : List AV → List Ob → Prop) (K : AV → List Ob → Prop) : Prop :=
  aLoopN 2 [(.p (.bool false)), (.p (.int .i64 0))] H fun xs H B3 => runnellaw8_GraphOuts_L3 j1s0 j1s4 j1s5 j1s6 (xs.getD 0 .top) (xs.getD 1 .top) H B3 B2 K

def runnellaw8_GraphOuts_L2 (q2s0 q2s3 q2s4 q2s5 y0 : AV) (H : List Ob) (B2 : List AV → List Ob → Prop) (B1 : List AV → List Ob → Prop) (K : AV → List Ob → Prop) : Prop :=
  aLen false false q2s5 fun v18 =>
  aBin false false .lss y0 v18 fun v19 =>
  aGuard v19
  (aIndexAddr 1 q2s5 y0 fun v40 =>
  aLoad false 1 v40 H fun v41 =>
  aBin false false .leq v41 q2s4 fun v42 =>
  aGuard v42
  (K (.p (.bool false)) H)
  (aIndexAddr 1 q2s5 y0 fun v43 =>
  aLoad false 1 v43 H fun v44 =>
  aLen true false q2s0 fun v45 =>
  aBin false false .geq v44 v45 fun v46 =>
  aGuard v46
  (K (.p (.bool false)) H)
  (aBin false false .gtr y0 (.p (.int .i64 0)) fun v47 =>
  aGuard v47
  (aIndexAddr 1 q2s5 y0 fun v48 =>
  aLoad false 1 v48 H fun v49 =>
  aBin false false .sub y0 (.p (.int .i64 1)) fun v50 =>
  aIndexAddr 1 q2s5 v50 fun v51 =>
  aLoad false 1 v51 H fun v52 =>
  aBin false false .leq v49 v52 fun v53 =>
  aGuard v53
  (K (.p (.bool false)) H)
  (runnellaw8_GraphOuts_J1 q2s0 q2s4 q2s5 y0 H B2 K))
  (runnellaw8_GraphOuts_J1 q2s0 q2s4 q2s5 y0 H B2 K))))
  (aLen false false q2s5 fun v54 =>
  aBin false false .add q2s3 v54 fun v55 =>
  aIndexAddr 21 q2s0 q2s4 fun v56 =>
  aFieldAddr 16 v56 fun v57 =>
  aLoad false 1 v57 H fun v58 =>
  aLen false false v58 fun v59 =>
  aBin false false .sub v55 v59 fun v60 =>
  aBin false false .add q2s4 (.p (.int .i64 1)) fun v61 =>
  B1 [v60, v61] H)

def runnellaw8_GraphOuts_L1 (q1s0 y0 y1 : AV) (H : List Ob) (B1 : List AV → List Ob → Prop) (K : AV → List Ob → Prop) : Prop :=
  aLen false false q1s0 fun v6 =>
  aBin false false .lss y1 v6 fun v7 =>
  aGuard v7
  (aCall Tryz.prog (.p (.func graph_Outs_i [])) [q1s0, y1] H fun v8 h9 =>
  aLen false false v8 fun v10 =>
  aBin false false .eql v10 (.p (.int .i64 0)) fun v11 =>
  aIndexAddr 21 q1s0 y1 fun v12 =>
  aFieldAddr 1 v12 fun v13 =>
  aFieldAddr 0 v13 fun v14 =>
  aLoad false 1 v14 h9 fun v15 =>
  aBin false false .eql v15 (.p (.int .i64 9)) fun v16 =>
  aBin true false .neq v11 v16 fun v17 =>
  aGuard v17
  (K (.p (.bool false)) h9)
  (aLoopN 1 [(.p (.int .i64 0))] h9 fun xs H B2 => runnellaw8_GraphOuts_L2 q1s0 y0 y1 v8 (xs.getD 0 .top) H B2 B1 K))
  (aBin false false .eql y0 (.p (.int .i64 0)) fun v62 =>
  K v62 H)

def runnellaw8_GraphOuts (x0 : AV) (H : List Ob) (K : AV → List Ob → Prop) : Prop :=
  aCall Tryz.prog (.p (.func runnellaw8_known_i [])) [] H fun v0 h1 =>
  aUn .not v0 fun v2 =>
  aGuard v2
  (K (.p (.bool false)) h1)
  (aCall Tryz.prog (.p (.func runnellaw8_Good_i [])) [x0] h1 fun v3 h4 =>
  aUn .not v3 fun v5 =>
  aGuard v5
  (K (.p (.bool true)) h4)
  (aLoopN 2 [(.p (.int .i64 0)), (.p (.int .i64 0))] h4 fun xs H B1 => runnellaw8_GraphOuts_L1 x0 (xs.getD 0 .top) (xs.getD 1 .top) H B1 K))

def runnellaw8_GraphOuts_ann : Nat → List Nat := fun k => match k with | 7 => [3, 4] | 13 => [6] | 19 => [7, 8] | _ => []

theorem runnellaw8_GraphOuts_eq (x0 : AV) (H : List Ob) (r : AV) (Ho : List Ob) : aBody Tryz.prog runnellaw8_GraphOuts_ann Tryz.f3 H [x0] r Ho = runnellaw8_GraphOuts x0 H (fun v H' => Gives H.length v H' r Ho) := by kernel_rfl

theorem runnellaw8_GraphOuts_fnH {x0 : AV} {Hin : List Ob} {r : AV} {Ho : List Ob} (h : runnellaw8_GraphOuts x0 Hin (fun v H' => Gives Hin.length v H' r Ho)) : Abs.Fn Tryz.prog runnellaw8_GraphOuts_i Hin [x0] r Ho :=
  fn_intro mixed runnellaw8_GraphOuts_ann (fn := Tryz.f3) (by kernel_rfl) (by kernel_rfl) (by rw [runnellaw8_GraphOuts_eq]; exact h)

theorem runnellaw8_GraphOuts_fn {x0 : AV} {r : AV} {Ho : List Ob} (h : runnellaw8_GraphOuts x0 [] (fun v H' => Gives 0 v H' r Ho)) : Abs.Fn Tryz.prog runnellaw8_GraphOuts_i [] [x0] r Ho := runnellaw8_GraphOuts_fnH (Hin := []) h

/- runnel/runnellaw8.known -/
def runnellaw8_known (H : List Ob) (K : AV → List Ob → Prop) : Prop :=
  aCall Tryz.prog (.p (.func runnellaw8_Small_i [])) [] H fun v0 h1 =>
  aCall Tryz.prog (.p (.func graph_Check_i [])) [v0] h1 fun v2 h3 =>
  aExtract v2 0 fun v4 =>
  aExtract v2 1 fun v5 =>
  aSlice false 21 v0 none (some (.p (.int .i64 2))) none fun v6 =>
  aCall Tryz.prog (.p (.func graph_Check_i [])) [v6] h3 fun v7 h8 =>
  aExtract v7 0 fun v9 =>
  aExtract v7 1 fun v10 =>
  aCall Tryz.prog (.p (.func graph_Types_i [])) [v0] h8 fun v11 h12 =>
  aCall Tryz.prog (.p (.func graph_Outs_i [])) [v0, (.p (.int .i64 0))] h12 fun v13 h14 =>
  aCall Tryz.prog (.p (.func graph_Named_i [])) [v0, (.p (.int .i64 9))] h14 fun v15 h16 =>
  aBin false false .eql v5 (.p (.int .i64 0)) fun v17 =>
  aMerge true v17 (fun Q18 =>
  aBin false false .eql v4 (.p (.int .i64 0)) fun v19 =>
  (h16 = h16 ∧ Q18 v19)) fun v20 =>
  aMerge true v20 (fun Q21 =>
  aBin false false .eql v10 (.p (.int .i64 1)) fun v22 =>
  (h16 = h16 ∧ Q21 v22)) fun v23 =>
  aMerge true v23 (fun Q24 =>
  aBin false false .eql v9 (.p (.int .i64 1)) fun v25 =>
  (h16 = h16 ∧ Q24 v25)) fun v26 =>
  aMerge true v26 (fun Q27 =>
  aLenS false v11 fun v28 =>
  aBin false false .eql v28 (.p (.int .i64 3)) fun v29 =>
  (h16 = h16 ∧ Q27 v29)) fun v30 =>
  aMerge true v30 (fun Q31 =>
  aIndexAddr 2 v11 (.p (.int .i64 2)) fun v32 =>
  aFieldAddr 0 v32 fun v33 =>
  aLoad false 1 v33 h16 fun v34 =>
  aBin false false .eql v34 (.p (.int .i64 1)) fun v35 =>
  (h16 = h16 ∧ Q31 v35)) fun v36 =>
  aMerge true v36 (fun Q37 =>
  aLenS false v13 fun v38 =>
  aBin false false .eql v38 (.p (.int .i64 1)) fun v39 =>
  (h16 = h16 ∧ Q37 v39)) fun v40 =>
  aMerge true v40 (fun Q41 =>
  aIndexAddr 1 v13 (.p (.int .i64 0)) fun v42 =>
  aLoad false 1 v42 h16 fun v43 =>
  aBin false false .eql v43 (.p (.int .i64 1)) fun v44 =>
  (h16 = h16 ∧ Q41 v44)) fun v45 =>
  aMerge true v45 (fun Q46 =>
  aLenS false v15 fun v47 =>
  aBin false false .eql v47 (.p (.int .i64 1)) fun v48 =>
  (h16 = h16 ∧ Q46 v48)) fun v49 =>
  aMerge true v49 (fun Q50 =>
  aIndexAddr 1 v15 (.p (.int .i64 0)) fun v51 =>
  aLoad false 1 v51 h16 fun v52 =>
  aBin false false .eql v52 (.p (.int .i64 2)) fun v53 =>
  (h16 = h16 ∧ Q50 v53)) fun v54 =>
  K v54 h16

def runnellaw8_known_ann : Nat → List Nat := fun _ => []

theorem runnellaw8_known_eq (H : List Ob) (r : AV) (Ho : List Ob) : aBody Tryz.prog runnellaw8_known_ann Tryz.f4 H [] r Ho = runnellaw8_known H (fun v H' => Gives H.length v H' r Ho) := by kernel_rfl

theorem runnellaw8_known_fnH {Hin : List Ob} {r : AV} {Ho : List Ob} (h : runnellaw8_known Hin (fun v H' => Gives Hin.length v H' r Ho)) : Abs.Fn Tryz.prog runnellaw8_known_i Hin [] r Ho :=
  fn_intro mixed runnellaw8_known_ann (fn := Tryz.f4) (by kernel_rfl) (by kernel_rfl) (by rw [runnellaw8_known_eq]; exact h)

theorem runnellaw8_known_fn {r : AV} {Ho : List Ob} (h : runnellaw8_known [] (fun v H' => Gives 0 v H' r Ho)) : Abs.Fn Tryz.prog runnellaw8_known_i [] [] r Ho := runnellaw8_known_fnH (Hin := []) h

end Go.Proofs.YtmnmiiifilfcmaaGreat
end
