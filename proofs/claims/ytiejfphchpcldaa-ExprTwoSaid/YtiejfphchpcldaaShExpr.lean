/- Made by program (Gen.lean): functions of the dump, over trees. -/
import Derived.Test.YtiejfphchpcldaaShIds
set_option maxRecDepth 4000
set_option linter.unusedVariables false
namespace Go.Proofs.Ytiejfphchpcldaa
open Go Go.Abs

/- runnel/runnellaw4.Few -/
def runnellaw4_Few (x0 : AV) (H : List Ob) (K : AV → List Ob → Prop) : Prop :=
  aBox x0 H fun v0 h1 =>
  aLoad true 8 v0 h1 fun v2 =>
  aCall Try.prog (.p (.func runnellaw4_budget_i [])) [v2, (.p (.int .i64 20)), (.p (.int .i64 400))] h1 fun v3 h4 =>
  aBin false false .gtr v3 (.p (.int .i64 0)) fun v5 =>
  K v5 h4

def runnellaw4_Few_ann : Nat → List Nat := fun _ => []

theorem runnellaw4_Few_eq (x0 : AV) (H : List Ob) (r : AV) (Ho : List Ob) : aBody Try.prog runnellaw4_Few_ann Try.f17 H [x0] r Ho = runnellaw4_Few x0 H (fun v H' => Gives H.length v H' r Ho) := by kernel_rfl

theorem runnellaw4_Few_fn {x0 : AV} {r : AV} {Ho : List Ob} (h : runnellaw4_Few x0 [] (fun v H' => Gives 0 v H' r Ho)) : Abs.Fn Try.prog runnellaw4_Few_i [] [x0] r Ho :=
  fn_intro mixed runnellaw4_Few_ann (fn := Try.f17) (by kernel_rfl) (by kernel_rfl) (by rw [runnellaw4_Few_eq]; exact h)

/- runnel/runnellaw4.Of -/
def runnellaw4_Of_L1 (q1s1 q1s2 q1s3 y0 : AV) (H : List Ob) (B1 : List AV → List Ob → Prop) (K : AV → List Ob → Prop) : Prop :=
  aFieldAddr 7 q1s1 fun v16 =>
  aLoad false 1 v16 H fun v17 =>
  aLen false false v17 fun v18 =>
  aBin false false .lss y0 v18 fun v19 =>
  aGuard v19
  (aFieldAddr 7 q1s3 fun v20 =>
  aLoad false 1 v20 H fun v21 =>
  aFieldAddr 7 q1s1 fun v22 =>
  aLoad false 1 v22 H fun v23 =>
  aIndexAddr 8 v23 y0 fun v24 =>
  aLoad true 8 v24 H fun v25 =>
  aCallT Try.prog (.p (.func runnellaw4_Of_i [])) [v25] fun v26 =>
  aBuildSlice 8 [v26] fun v27 =>
  aCalm [v21, v27] <|
  aAppend false 8 112 v21 v27 H fun v28 h29 =>
  aFieldAddr 7 q1s3 fun v30 =>
  aStore 1 v30 v28 h29 fun _ h32 =>
  aBin false false .add y0 (.p (.int .i64 1)) fun v33 =>
  B1 [v33] h32)
  (aLoad true 8 q1s3 H fun v34 =>
  aStore 8 q1s2 v34 H fun _ h36 =>
  aLoad true 8 q1s2 h36 fun v37 =>
  K v37 h36)

def runnellaw4_Of (x0 : AV) (H : List Ob) (K : AV → List Ob → Prop) : Prop :=
  aBox x0 H fun v0 h1 =>
  aAlloc [(.p (.str [])), (.p (.int .i64 0)), (.p (.int .i64 0)), (.p (.bool false)), (.p (.str [])), (.full []), (.p (.int .i64 0)), (.full [])] h1 fun v2 h3 =>
  aAlloc [(.p (.str [])), (.p (.int .i64 0)), (.p (.int .i64 0)), (.p (.bool false)), (.p (.str [])), (.full []), (.p (.int .i64 0)), (.full [])] h3 fun v4 h5 =>
  aFieldAddr 0 v0 fun v6 =>
  aLoad false 1 v6 h5 fun v7 =>
  aFieldAddr 1 v0 fun v8 =>
  aLoad true 5 v8 h5 fun v9 =>
  aCallT Try.prog (.p (.func runnellaw2_Of_i [])) [v9] fun v10 =>
  aFieldAddr 6 v0 fun v11 =>
  aLoad false 1 v11 h5 fun v12 =>
  aBuild [(.p (.str [])), (.p (.int .i64 0)), (.p (.int .i64 0)), (.p (.bool false)), (.p (.str [])), (.full []), (.p (.int .i64 0)), (.full [])] [(0, 1, v7), (1, 5, v10), (6, 1, v12)] fun v13 =>
  aStore 8 v4 v13 h5 fun _ h15 =>
  aLoopN 1 [(.p (.int .i64 0))] h15 fun xs H B1 => runnellaw4_Of_L1 v0 v2 v4 (xs.getD 0 .top) H B1 K

def runnellaw4_Of_ann : Nat → List Nat := fun k => match k with | 3 => [4] | _ => []

theorem runnellaw4_Of_eq (x0 : AV) (H : List Ob) (r : AV) (Ho : List Ob) : aBody Try.prog runnellaw4_Of_ann Try.f19 H [x0] r Ho = runnellaw4_Of x0 H (fun v H' => Gives H.length v H' r Ho) := by kernel_rfl

theorem runnellaw4_Of_fn {x0 : AV} {r : AV} {Ho : List Ob} (h : runnellaw4_Of x0 [] (fun v H' => Gives 0 v H' r Ho)) : Abs.Fn Try.prog runnellaw4_Of_i [] [x0] r Ho :=
  fn_intro mixed runnellaw4_Of_ann (fn := Try.f19) (by kernel_rfl) (by kernel_rfl) (by rw [runnellaw4_Of_eq]; exact h)

/- runnel/runnelref6.CheckExpr -/
def runnelref6_CheckExpr (x0 x1 : AV) (H : List Ob) (K : AV → List Ob → Prop) : Prop :=
  aBox x0 H fun v0 h1 =>
  aBox x1 h1 fun v2 h3 =>
  aAlloc [(.p (.int .i64 0)), (.full [])] h3 fun v4 h5 =>
  aLoad true 2 v2 h5 fun v6 =>
  aCall Try.prog (.p (.func runnelref6_CheckType_i [])) [v6] h5 fun v7 h8 =>
  aBin false false .neq v7 (.p (.int .i64 0)) fun v9 =>
  aGuard v9
  (aBuild [(.p (.int .i64 0)), (.full [])] [] fun v10 =>
  aStore 2 v4 v10 h8 fun _ h12 =>
  aLoad true 2 v4 h12 fun v13 =>
  K (.tup [v13, (.p (.int .i64 5))]) h12)
  (aLoad true 8 v0 h8 fun v14 =>
  aCall Try.prog (.p (.func runnelref6_Size_i [])) [v14] h8 fun v15 h16 =>
  aBin false false .gtr v15 (.p (.int .i64 256)) fun v17 =>
  aGuard v17
  (aBuild [(.p (.int .i64 0)), (.full [])] [] fun v18 =>
  aStore 2 v4 v18 h16 fun _ h20 =>
  aLoad true 2 v4 h20 fun v21 =>
  K (.tup [v21, (.p (.int .i64 10))]) h20)
  (aLoad true 8 v0 h16 fun v22 =>
  aLoad true 2 v2 h16 fun v23 =>
  aCall Try.prog (.p (.func runnelref6_check_i [])) [v22, v23, (.p (.int .i64 0))] h16 fun v24 h25 =>
  aExtract v24 0 fun v26 =>
  aExtract v24 1 fun v27 =>
  aStore 2 v4 v26 h25 fun _ h29 =>
  aLoad true 2 v4 h29 fun v30 =>
  K (.tup [v30, v27]) h29))

def runnelref6_CheckExpr_ann : Nat → List Nat := fun _ => []

theorem runnelref6_CheckExpr_eq (x0 x1 : AV) (H : List Ob) (r : AV) (Ho : List Ob) : aBody Try.prog runnelref6_CheckExpr_ann Try.f20 H [x0, x1] r Ho = runnelref6_CheckExpr x0 x1 H (fun v H' => Gives H.length v H' r Ho) := by kernel_rfl

theorem runnelref6_CheckExpr_fn {x0 x1 : AV} {r : AV} {Ho : List Ob} (h : runnelref6_CheckExpr x0 x1 [] (fun v H' => Gives 0 v H' r Ho)) : Abs.Fn Try.prog runnelref6_CheckExpr_i [] [x0, x1] r Ho :=
  fn_intro mixed runnelref6_CheckExpr_ann (fn := Try.f20) (by kernel_rfl) (by kernel_rfl) (by rw [runnelref6_CheckExpr_eq]; exact h)

/- runnel/runnellaw4.X -/
def runnellaw4_X (H : List Ob) (K : AV → List Ob → Prop) : Prop :=
  aAlloc [(.p (.str [])), (.p (.int .i64 0)), (.p (.int .i64 0)), (.p (.bool false)), (.p (.str [])), (.full []), (.p (.int .i64 0)), (.full [])] H fun v0 h1 =>
  aBuild [(.p (.str [])), (.p (.int .i64 0)), (.p (.int .i64 0)), (.p (.bool false)), (.p (.str [])), (.full []), (.p (.int .i64 0)), (.full [])] [(0, 1, (.p (.str [120])))] fun v2 =>
  aStore 8 v0 v2 h1 fun _ h4 =>
  aLoad true 8 v0 h4 fun v5 =>
  K v5 h4

def runnellaw4_X_ann : Nat → List Nat := fun _ => []

theorem runnellaw4_X_eq (H : List Ob) (r : AV) (Ho : List Ob) : aBody Try.prog runnellaw4_X_ann Try.f29 H [] r Ho = runnellaw4_X H (fun v H' => Gives H.length v H' r Ho) := by kernel_rfl

theorem runnellaw4_X_fn {r : AV} {Ho : List Ob} (h : runnellaw4_X [] (fun v H' => Gives 0 v H' r Ho)) : Abs.Fn Try.prog runnellaw4_X_i [] [] r Ho :=
  fn_intro mixed runnellaw4_X_ann (fn := Try.f29) (by kernel_rfl) (by kernel_rfl) (by rw [runnellaw4_X_eq]; exact h)

/- runnel/runnellaw4.Op -/
def runnellaw4_Op (x0 x1 : AV) (H : List Ob) (K : AV → List Ob → Prop) : Prop :=
  aAlloc [(.p (.str [])), (.p (.int .i64 0)), (.p (.int .i64 0)), (.p (.bool false)), (.p (.str [])), (.full []), (.p (.int .i64 0)), (.full [])] H fun v0 h1 =>
  aBuild [(.p (.str [])), (.p (.int .i64 0)), (.p (.int .i64 0)), (.p (.bool false)), (.p (.str [])), (.full []), (.p (.int .i64 0)), (.full [])] [(0, 1, x0), (7, 1, x1)] fun v2 =>
  aStore 8 v0 v2 h1 fun _ h4 =>
  aLoad true 8 v0 h4 fun v5 =>
  K v5 h4

def runnellaw4_Op_ann : Nat → List Nat := fun _ => []

theorem runnellaw4_Op_eq (x0 x1 : AV) (H : List Ob) (r : AV) (Ho : List Ob) : aBody Try.prog runnellaw4_Op_ann Try.f30 H [x0, x1] r Ho = runnellaw4_Op x0 x1 H (fun v H' => Gives H.length v H' r Ho) := by kernel_rfl

theorem runnellaw4_Op_fn {x0 x1 : AV} {r : AV} {Ho : List Ob} (h : runnellaw4_Op x0 x1 [] (fun v H' => Gives 0 v H' r Ho)) : Abs.Fn Try.prog runnellaw4_Op_i [] [x0, x1] r Ho :=
  fn_intro mixed runnellaw4_Op_ann (fn := Try.f30) (by kernel_rfl) (by kernel_rfl) (by rw [runnellaw4_Op_eq]; exact h)

/- runnel/runnellaw4.Lit -/
def runnellaw4_Lit (x0 : AV) (H : List Ob) (K : AV → List Ob → Prop) : Prop :=
  aBox x0 H fun v0 h1 =>
  aAlloc [(.p (.str [])), (.p (.int .i64 0)), (.p (.int .i64 0)), (.p (.bool false)), (.p (.str [])), (.full []), (.p (.int .i64 0)), (.full [])] h1 fun v2 h3 =>
  aLoad true 5 v0 h3 fun v4 =>
  aBuild [(.p (.str [])), (.p (.int .i64 0)), (.p (.int .i64 0)), (.p (.bool false)), (.p (.str [])), (.full []), (.p (.int .i64 0)), (.full [])] [(0, 1, (.p (.str [108, 105, 116]))), (1, 5, v4)] fun v5 =>
  aStore 8 v2 v5 h3 fun _ h7 =>
  aLoad true 8 v2 h7 fun v8 =>
  K v8 h7

def runnellaw4_Lit_ann : Nat → List Nat := fun _ => []

theorem runnellaw4_Lit_eq (x0 : AV) (H : List Ob) (r : AV) (Ho : List Ob) : aBody Try.prog runnellaw4_Lit_ann Try.f31 H [x0] r Ho = runnellaw4_Lit x0 H (fun v H' => Gives H.length v H' r Ho) := by kernel_rfl

theorem runnellaw4_Lit_fn {x0 : AV} {r : AV} {Ho : List Ob} (h : runnellaw4_Lit x0 [] (fun v H' => Gives 0 v H' r Ho)) : Abs.Fn Try.prog runnellaw4_Lit_i [] [x0] r Ho :=
  fn_intro mixed runnellaw4_Lit_ann (fn := Try.f31) (by kernel_rfl) (by kernel_rfl) (by rw [runnellaw4_Lit_eq]; exact h)

/- runnel/expr.Check -/
def expr_Check (x0 x1 : AV) (H : List Ob) (K : AV → List Ob → Prop) : Prop :=
  aBox x0 H fun v0 h1 =>
  aBox x1 h1 fun v2 h3 =>
  aAlloc [(.p (.int .i64 0)), (.full [])] h3 fun v4 h5 =>
  aLoad true 2 v2 h5 fun v6 =>
  aCall Try.prog (.p (.func typ_Check_i [])) [v6] h5 fun v7 h8 =>
  aBin false false .neq v7 (.p (.int .i64 0)) fun v9 =>
  aGuard v9
  (aBuild [(.p (.int .i64 0)), (.full [])] [] fun v10 =>
  aStore 2 v4 v10 h8 fun _ h12 =>
  aLoad true 2 v4 h12 fun v13 =>
  K (.tup [v13, (.p (.int .i64 5))]) h12)
  (aLoad true 8 v0 h8 fun v14 =>
  aCall Try.prog (.p (.func expr_Size_i [])) [v14] h8 fun v15 h16 =>
  aBin false false .gtr v15 (.p (.int .i64 256)) fun v17 =>
  aGuard v17
  (aBuild [(.p (.int .i64 0)), (.full [])] [] fun v18 =>
  aStore 2 v4 v18 h16 fun _ h20 =>
  aLoad true 2 v4 h20 fun v21 =>
  K (.tup [v21, (.p (.int .i64 10))]) h20)
  (aLoad true 8 v0 h16 fun v22 =>
  aLoad true 2 v2 h16 fun v23 =>
  aCall Try.prog (.p (.func expr_check_i [])) [v22, v23, (.p (.int .i64 0))] h16 fun v24 h25 =>
  aExtract v24 0 fun v26 =>
  aExtract v24 1 fun v27 =>
  aStore 2 v4 v26 h25 fun _ h29 =>
  aLoad true 2 v4 h29 fun v30 =>
  K (.tup [v30, v27]) h29))

def expr_Check_ann : Nat → List Nat := fun _ => []

theorem expr_Check_eq (x0 x1 : AV) (H : List Ob) (r : AV) (Ho : List Ob) : aBody Try.prog expr_Check_ann Try.f45 H [x0, x1] r Ho = expr_Check x0 x1 H (fun v H' => Gives H.length v H' r Ho) := by kernel_rfl

theorem expr_Check_fn {x0 x1 : AV} {r : AV} {Ho : List Ob} (h : expr_Check x0 x1 [] (fun v H' => Gives 0 v H' r Ho)) : Abs.Fn Try.prog expr_Check_i [] [x0, x1] r Ho :=
  fn_intro mixed expr_Check_ann (fn := Try.f45) (by kernel_rfl) (by kernel_rfl) (by rw [expr_Check_eq]; exact h)

/- runnel/runnellaw4.SameT -/
def runnellaw4_SameT (x0 x1 : AV) (H : List Ob) (K : AV → List Ob → Prop) : Prop :=
  aBox x0 H fun v0 h1 =>
  aBox x1 h1 fun v2 h3 =>
  aLoad true 2 v0 h3 fun v4 =>
  aCallT Try.prog (.p (.func runnellaw1_Of_i [])) [v4] fun v5 =>
  aLoad true 2 v2 h3 fun v6 =>
  aCallT Try.prog (.p (.func runnellaw1_Of_i [])) [v6] fun v7 =>
  aCallT Try.prog (.p (.func runnelref6_SameType_i [])) [v5, v7] fun v8 =>
  K v8 h3

def runnellaw4_SameT_ann : Nat → List Nat := fun _ => []

theorem runnellaw4_SameT_eq (x0 x1 : AV) (H : List Ob) (r : AV) (Ho : List Ob) : aBody Try.prog runnellaw4_SameT_ann Try.f46 H [x0, x1] r Ho = runnellaw4_SameT x0 x1 H (fun v H' => Gives H.length v H' r Ho) := by kernel_rfl

theorem runnellaw4_SameT_fn {x0 x1 : AV} {r : AV} {Ho : List Ob} (h : runnellaw4_SameT x0 x1 [] (fun v H' => Gives 0 v H' r Ho)) : Abs.Fn Try.prog runnellaw4_SameT_i [] [x0, x1] r Ho :=
  fn_intro mixed runnellaw4_SameT_ann (fn := Try.f46) (by kernel_rfl) (by kernel_rfl) (by rw [runnellaw4_SameT_eq]; exact h)

/- runnel/expr.Size -/
def expr_Size_L1 (q1s7 q1s8 y0 y1 : AV) (H : List Ob) (B1 : List AV → List Ob → Prop) (K : AV → List Ob → Prop) : Prop :=
  aBin false false .lss y1 q1s8 fun v5 =>
  aGuard v5
  (aIndexAddr 8 q1s7 y1 fun v6 =>
  aLoad true 8 v6 H fun v7 =>
  aAlloc [(.p (.str [])), (.p (.int .i64 0)), (.p (.int .i64 0)), (.p (.bool false)), (.p (.str [])), (.full []), (.p (.int .i64 0)), (.full [])] H fun v8 h9 =>
  aStore 8 v8 v7 h9 fun _ h11 =>
  aLoad true 8 v8 h11 fun v12 =>
  aCall Try.prog (.p (.func expr_Size_i [])) [v12] h11 fun v13 h14 =>
  aBin false false .add y0 v13 fun v15 =>
  aBin false false .add y1 (.p (.int .i64 1)) fun v16 =>
  B1 [v15, v16] h14)
  (K y0 H)

def expr_Size (x0 : AV) (H : List Ob) (K : AV → List Ob → Prop) : Prop :=
  aBox x0 H fun v0 h1 =>
  aFieldAddr 7 v0 fun v2 =>
  aLoad false 1 v2 h1 fun v3 =>
  aLen false false v3 fun v4 =>
  aLoopN 2 [(.p (.int .i64 1)), (.p (.int .i64 0))] h1 fun xs H B1 => expr_Size_L1 v3 v4 (xs.getD 0 .top) (xs.getD 1 .top) H B1 K

def expr_Size_ann : Nat → List Nat := fun k => match k with | 3 => [3, 9] | _ => []

theorem expr_Size_eq (x0 : AV) (H : List Ob) (r : AV) (Ho : List Ob) : aBody Try.prog expr_Size_ann Try.f47 H [x0] r Ho = expr_Size x0 H (fun v H' => Gives H.length v H' r Ho) := by kernel_rfl

theorem expr_Size_fn {x0 : AV} {r : AV} {Ho : List Ob} (h : expr_Size x0 [] (fun v H' => Gives 0 v H' r Ho)) : Abs.Fn Try.prog expr_Size_i [] [x0] r Ho :=
  fn_intro mixed expr_Size_ann (fn := Try.f47) (by kernel_rfl) (by kernel_rfl) (by rw [expr_Size_eq]; exact h)

/- runnel/runnellaw4.budget -/
def runnellaw4_budget_L1 (q1s1 q1s3 y0 y1 : AV) (H : List Ob) (B1 : List AV → List Ob → Prop) (K : AV → List Ob → Prop) : Prop :=
  aFieldAddr 7 q1s3 fun v26 =>
  aLoad false 1 v26 H fun v27 =>
  aLen false false v27 fun v28 =>
  aBin false false .lss y1 v28 fun v29 =>
  aMerge true v29 (fun Q30 =>
  aBin false false .gtr y0 (.p (.int .i64 0)) fun v31 =>
  (H = H ∧ Q30 v31)) fun v32 =>
  aGuard v32
  (aFieldAddr 7 q1s3 fun v33 =>
  aLoad false 1 v33 H fun v34 =>
  aIndexAddr 8 v34 y1 fun v35 =>
  aLoad true 8 v35 H fun v36 =>
  aBin false false .sub q1s1 (.p (.int .i64 1)) fun v37 =>
  aCall Try.prog (.p (.func runnellaw4_budget_i [])) [v36, v37, y0] H fun v38 h39 =>
  aBin false false .add y1 (.p (.int .i64 1)) fun v40 =>
  B1 [v38, v40] h39)
  (K y0 H)

def runnellaw4_budget (x0 x1 x2 : AV) (H : List Ob) (K : AV → List Ob → Prop) : Prop :=
  aBox x0 H fun v0 h1 =>
  aBin false false .leq x2 (.p (.int .i64 0)) fun v2 =>
  aMerge false v2 (fun Q3 =>
  aBin false false .leq x1 (.p (.int .i64 0)) fun v4 =>
  (h1 = h1 ∧ Q3 v4)) fun v5 =>
  aMerge false v5 (fun Q6 =>
  aFieldAddr 7 v0 fun v7 =>
  aLoad false 1 v7 h1 fun v8 =>
  aLenS false v8 fun v9 =>
  aBin false false .gtr v9 (.p (.int .i64 12)) fun v10 =>
  (h1 = h1 ∧ Q6 v10)) fun v11 =>
  aMerge false v11 (fun Q12 =>
  aFieldAddr 0 v0 fun v13 =>
  aLoad false 1 v13 h1 fun v14 =>
  aLenS true v14 fun v15 =>
  aBin false false .gtr v15 (.p (.int .i64 20)) fun v16 =>
  (h1 = h1 ∧ Q12 v16)) fun v17 =>
  aMerge false v17 (fun Q18 =>
  aFieldAddr 1 v0 fun v19 =>
  aLoad true 5 v19 h1 fun v20 =>
  aCall Try.prog (.p (.func runnellaw2_Few_i [])) [v20] h1 fun v21 h22 =>
  aUn .not v21 fun v23 =>
  (h22 = h1 ∧ Q18 v23)) fun v24 =>
  aGuard v24
  (K (.p (.int .i64 0)) h1)
  (aBin false false .sub x2 (.p (.int .i64 1)) fun v25 =>
  aLoopN 2 [v25, (.p (.int .i64 0))] h1 fun xs H B1 => runnellaw4_budget_L1 x1 v0 (xs.getD 0 .top) (xs.getD 1 .top) H B1 K)

def runnellaw4_budget_ann : Nat → List Nat := fun k => match k with | 5 => [2, 7] | _ => []

theorem runnellaw4_budget_eq (x0 x1 x2 : AV) (H : List Ob) (r : AV) (Ho : List Ob) : aBody Try.prog runnellaw4_budget_ann Try.f51 H [x0, x1, x2] r Ho = runnellaw4_budget x0 x1 x2 H (fun v H' => Gives H.length v H' r Ho) := by kernel_rfl

theorem runnellaw4_budget_fn {x0 x1 x2 : AV} {r : AV} {Ho : List Ob} (h : runnellaw4_budget x0 x1 x2 [] (fun v H' => Gives 0 v H' r Ho)) : Abs.Fn Try.prog runnellaw4_budget_i [] [x0, x1, x2] r Ho :=
  fn_intro mixed runnellaw4_budget_ann (fn := Try.f51) (by kernel_rfl) (by kernel_rfl) (by rw [runnellaw4_budget_eq]; exact h)

/- runnel/runnelref6.Size -/
def runnelref6_Size_L1 (q1s1 y0 y1 : AV) (H : List Ob) (B1 : List AV → List Ob → Prop) (K : AV → List Ob → Prop) : Prop :=
  aFieldAddr 7 q1s1 fun v2 =>
  aLoad false 1 v2 H fun v3 =>
  aLen false false v3 fun v4 =>
  aBin false false .lss y1 v4 fun v5 =>
  aGuard v5
  (aFieldAddr 7 q1s1 fun v6 =>
  aLoad false 1 v6 H fun v7 =>
  aIndexAddr 8 v7 y1 fun v8 =>
  aLoad true 8 v8 H fun v9 =>
  aCall Try.prog (.p (.func runnelref6_Size_i [])) [v9] H fun v10 h11 =>
  aBin false false .add y0 v10 fun v12 =>
  aBin false false .add y1 (.p (.int .i64 1)) fun v13 =>
  B1 [v12, v13] h11)
  (K y0 H)

def runnelref6_Size (x0 : AV) (H : List Ob) (K : AV → List Ob → Prop) : Prop :=
  aBox x0 H fun v0 h1 =>
  aLoopN 2 [(.p (.int .i64 1)), (.p (.int .i64 0))] h1 fun xs H B1 => runnelref6_Size_L1 v0 (xs.getD 0 .top) (xs.getD 1 .top) H B1 K

def runnelref6_Size_ann : Nat → List Nat := fun k => match k with | 3 => [3, 4] | _ => []

theorem runnelref6_Size_eq (x0 : AV) (H : List Ob) (r : AV) (Ho : List Ob) : aBody Try.prog runnelref6_Size_ann Try.f53 H [x0] r Ho = runnelref6_Size x0 H (fun v H' => Gives H.length v H' r Ho) := by kernel_rfl

theorem runnelref6_Size_fn {x0 : AV} {r : AV} {Ho : List Ob} (h : runnelref6_Size x0 [] (fun v H' => Gives 0 v H' r Ho)) : Abs.Fn Try.prog runnelref6_Size_i [] [x0] r Ho :=
  fn_intro mixed runnelref6_Size_ann (fn := Try.f53) (by kernel_rfl) (by kernel_rfl) (by rw [runnelref6_Size_eq]; exact h)

/- runnel/runnelref6.check -/
def runnelref6_check_L1 (q1s2 q1s3 q1s4 q1s6 y0 y1 : AV) (H : List Ob) (B1 : List AV → List Ob → Prop) (K : AV → List Ob → Prop) : Prop :=
  aFieldAddr 7 q1s3 fun v96 =>
  aLoad false 1 v96 H fun v97 =>
  aLen false false v97 fun v98 =>
  aBin false false .lss y1 v98 fun v99 =>
  aGuard v99
  (aAlloc [(.p (.int .i64 0)), (.full [])] H fun v100 h101 =>
  aFieldAddr 7 q1s3 fun v102 =>
  aLoad false 1 v102 h101 fun v103 =>
  aIndexAddr 8 v103 y1 fun v104 =>
  aLoad true 8 v104 h101 fun v105 =>
  aLoad true 2 q1s4 h101 fun v106 =>
  aBin false false .add q1s2 (.p (.int .i64 1)) fun v107 =>
  aCallT Try.prog (.p (.func runnelref6_check_i [])) [v105, v106, v107] fun v108 =>
  aExtract v108 0 fun v109 =>
  aExtract v108 1 fun v110 =>
  aStore 2 v100 v109 h101 fun _ h112 =>
  aBin false false .neq v110 (.p (.int .i64 0)) fun v113 =>
  aGuard v113
  (aBuild [(.p (.int .i64 0)), (.full [])] [] fun v114 =>
  aStore 2 q1s6 v114 h112 fun _ h116 =>
  aLoad true 2 q1s6 h116 fun v117 =>
  K (.tup [v117, v110]) h116)
  (aLoad true 2 v100 h112 fun v118 =>
  aBuildSlice 2 [v118] fun v119 =>
  aAppend false 2 32 y0 v119 h112 fun v120 h121 =>
  aBin false false .add y1 (.p (.int .i64 1)) fun v122 =>
  B1 [v120, v122] h121))
  (aFieldAddr 0 q1s3 fun v123 =>
  aLoad false 1 v123 H fun v124 =>
  aFieldAddr 6 q1s3 fun v125 =>
  aLoad false 1 v125 H fun v126 =>
  aCall Try.prog (.p (.func runnelref6_OpType_i [])) [v124, v126, y0] H fun v127 h128 =>
  aExtract v127 0 fun v129 =>
  aExtract v127 1 fun v130 =>
  aStore 2 q1s6 v129 h128 fun _ h132 =>
  aLoad true 2 q1s6 h132 fun v133 =>
  K (.tup [v133, v130]) h132)

def runnelref6_check (x0 x1 x2 : AV) (H : List Ob) (K : AV → List Ob → Prop) : Prop :=
  aBox x0 H fun v0 h1 =>
  aBox x1 h1 fun v2 h3 =>
  aAlloc [(.p (.int .i64 0)), (.full [])] h3 fun v4 h5 =>
  aFieldAddr 0 v0 fun v6 =>
  aLoad false 1 v6 h5 fun v7 =>
  aCall Try.prog (.p (.func runnelref6_Arity_i [])) [v7] h5 fun v8 h9 =>
  aBin false false .eql v8 (.p (.int .i64 (-2))) fun v10 =>
  aGuard v10
  (aBuild [(.p (.int .i64 0)), (.full [])] [] fun v11 =>
  aStore 2 v4 v11 h9 fun _ h13 =>
  aLoad true 2 v4 h13 fun v14 =>
  K (.tup [v14, (.p (.int .i64 6))]) h13)
  (aBin false false .gtr x2 (.p (.int .i64 12)) fun v15 =>
  aGuard v15
  (aBuild [(.p (.int .i64 0)), (.full [])] [] fun v16 =>
  aStore 2 v4 v16 h9 fun _ h18 =>
  aLoad true 2 v4 h18 fun v19 =>
  K (.tup [v19, (.p (.int .i64 9))]) h18)
  (aBin false false .geq v8 (.p (.int .i64 0)) fun v20 =>
  aMerge true v20 (fun Q21 =>
  aFieldAddr 7 v0 fun v22 =>
  aLoad false 1 v22 h9 fun v23 =>
  aLenS false v23 fun v24 =>
  aBin false false .neq v24 v8 fun v25 =>
  (h9 = h9 ∧ Q21 v25)) fun v26 =>
  aMerge false v26 (fun Q27 =>
  aBin false false .lss v8 (.p (.int .i64 0)) fun v28 =>
  aMerge true v28 (fun Q29 =>
  aFieldAddr 7 v0 fun v30 =>
  aLoad false 1 v30 h9 fun v31 =>
  aLenS false v31 fun v32 =>
  aBin false false .lss v32 (.p (.int .i64 1)) fun v33 =>
  aMerge false v33 (fun Q34 =>
  aFieldAddr 7 v0 fun v35 =>
  aLoad false 1 v35 h9 fun v36 =>
  aLenS false v36 fun v37 =>
  aBin false false .gtr v37 (.p (.int .i64 8)) fun v38 =>
  (h9 = h9 ∧ Q34 v38)) fun v39 =>
  (h9 = h9 ∧ Q29 v39)) fun v40 =>
  (h9 = h9 ∧ Q27 v40)) fun v41 =>
  aGuard v41
  (aBuild [(.p (.int .i64 0)), (.full [])] [] fun v42 =>
  aStore 2 v4 v42 h9 fun _ h44 =>
  aLoad true 2 v4 h44 fun v45 =>
  K (.tup [v45, (.p (.int .i64 1))]) h44)
  (aFieldAddr 0 v0 fun v46 =>
  aLoad false 1 v46 h9 fun v47 =>
  aBin false false .neq v47 (.p (.str [97, 116])) fun v48 =>
  aMerge true v48 (fun Q49 =>
  aFieldAddr 6 v0 fun v50 =>
  aLoad false 1 v50 h9 fun v51 =>
  aBin false false .neq v51 (.p (.int .i64 0)) fun v52 =>
  (h9 = h9 ∧ Q49 v52)) fun v53 =>
  aMerge false v53 (fun Q54 =>
  aFieldAddr 0 v0 fun v55 =>
  aLoad false 1 v55 h9 fun v56 =>
  aBin false false .neq v56 (.p (.str [108, 105, 116])) fun v57 =>
  aMerge true v57 (fun Q58 =>
  aFieldAddr 1 v0 fun v59 =>
  aLoad true 5 v59 h9 fun v60 =>
  aCall Try.prog (.p (.func runnelref6_nought_i [])) [v60] h9 fun v61 h62 =>
  aUn .not v61 fun v63 =>
  (h62 = h9 ∧ Q58 v63)) fun v64 =>
  (h9 = h9 ∧ Q54 v64)) fun v65 =>
  aGuard v65
  (aBuild [(.p (.int .i64 0)), (.full [])] [] fun v66 =>
  aStore 2 v4 v66 h9 fun _ h68 =>
  aLoad true 2 v4 h68 fun v69 =>
  K (.tup [v69, (.p (.int .i64 1))]) h68)
  (aFieldAddr 0 v0 fun v70 =>
  aLoad false 1 v70 h9 fun v71 =>
  aBin false false .eql v71 (.p (.str [108, 105, 116])) fun v72 =>
  aGuard v72
  (aFieldAddr 1 v0 fun v73 =>
  aLoad true 5 v73 h9 fun v74 =>
  aCall Try.prog (.p (.func runnelref6_CheckValue_i [])) [v74] h9 fun v75 h76 =>
  aBin false false .neq v75 (.p (.int .i64 0)) fun v77 =>
  aGuard v77
  (aBuild [(.p (.int .i64 0)), (.full [])] [] fun v78 =>
  aStore 2 v4 v78 h76 fun _ h80 =>
  aLoad true 2 v4 h80 fun v81 =>
  K (.tup [v81, v75]) h80)
  (aFieldAddr 1 v0 fun v82 =>
  aLoad true 5 v82 h76 fun v83 =>
  aCall Try.prog (.p (.func runnelref6_TypeOf_i [])) [v83] h76 fun v84 h85 =>
  aStore 2 v4 v84 h85 fun _ h87 =>
  aLoad true 2 v4 h87 fun v88 =>
  K (.tup [v88, (.p (.int .i64 0))]) h87))
  (aFieldAddr 0 v0 fun v89 =>
  aLoad false 1 v89 h9 fun v90 =>
  aBin false false .eql v90 (.p (.str [120])) fun v91 =>
  aGuard v91
  (aLoad true 2 v2 h9 fun v92 =>
  aStore 2 v4 v92 h9 fun _ h94 =>
  aLoad true 2 v4 h94 fun v95 =>
  K (.tup [v95, (.p (.int .i64 0))]) h94)
  (aLoopN 2 [(.full []), (.p (.int .i64 0))] h9 fun xs H B1 => runnelref6_check_L1 x2 v0 v2 v4 (xs.getD 0 .top) (xs.getD 1 .top) H B1 K))))))

def runnelref6_check_ann : Nat → List Nat := fun k => match k with | 19 => [10, 11] | _ => []

theorem runnelref6_check_eq (x0 x1 x2 : AV) (H : List Ob) (r : AV) (Ho : List Ob) : aBody Try.prog runnelref6_check_ann Try.f54 H [x0, x1, x2] r Ho = runnelref6_check x0 x1 x2 H (fun v H' => Gives H.length v H' r Ho) := by kernel_rfl

theorem runnelref6_check_fn {x0 x1 x2 : AV} {r : AV} {Ho : List Ob} (h : runnelref6_check x0 x1 x2 [] (fun v H' => Gives 0 v H' r Ho)) : Abs.Fn Try.prog runnelref6_check_i [] [x0, x1, x2] r Ho :=
  fn_intro mixed runnelref6_check_ann (fn := Try.f54) (by kernel_rfl) (by kernel_rfl) (by rw [runnelref6_check_eq]; exact h)

/- runnel/expr.check -/
def expr_check_L1 (q1s2 q1s3 q1s4 q1s6 q1s8 q1s49 q1s50 y0 y1 : AV) (H : List Ob) (B1 : List AV → List Ob → Prop) (K : AV → List Ob → Prop) : Prop :=
  aBin false false .lss y1 q1s50 fun v19 =>
  aGuard v19
  (aIndexAddr 8 q1s49 y1 fun v20 =>
  aLoad true 8 v20 H fun v21 =>
  aAlloc [(.p (.str [])), (.p (.int .i64 0)), (.p (.int .i64 0)), (.p (.bool false)), (.p (.str [])), (.full []), (.p (.int .i64 0)), (.full [])] H fun v22 h23 =>
  aStore 8 v22 v21 h23 fun _ h25 =>
  aLoad true 8 v22 h25 fun v26 =>
  aLoad true 2 q1s4 h25 fun v27 =>
  aBin false false .add q1s2 (.p (.int .i64 1)) fun v28 =>
  aCall Try.prog (.p (.func expr_check_i [])) [v26, v27, v28] h25 fun v29 h30 =>
  aExtract v29 0 fun v31 =>
  aExtract v29 1 fun v32 =>
  aAlloc [(.p (.int .i64 0)), (.full [])] h30 fun v33 h34 =>
  aStore 2 v33 v31 h34 fun _ h36 =>
  aBin false false .neq v32 (.p (.int .i64 0)) fun v37 =>
  aGuard v37
  (aBuild [(.p (.int .i64 0)), (.full [])] [] fun v38 =>
  aStore 2 q1s6 v38 h36 fun _ h40 =>
  aLoad true 2 q1s6 h40 fun v41 =>
  K (.tup [v41, v32]) h40)
  (aLoad true 2 v33 h36 fun v42 =>
  aBuildSlice 2 [v42] fun v43 =>
  aAppend false 2 32 y0 v43 h36 fun v44 h45 =>
  aBin false false .add y1 (.p (.int .i64 1)) fun v46 =>
  B1 [v44, v46] h45))
  (aLoad true 5 q1s8 H fun v47 =>
  aCall Try.prog (.p (.func expr_fits_i [])) [v47, y0] H fun v48 h49 =>
  aUn .not v48 fun v50 =>
  aGuard v50
  (aBuild [(.p (.int .i64 0)), (.full [])] [] fun v51 =>
  aStore 2 q1s6 v51 h49 fun _ h53 =>
  aLoad true 2 q1s6 h53 fun v54 =>
  K (.tup [v54, (.p (.int .i64 5))]) h53)
  (aLoad true 8 q1s3 h49 fun v55 =>
  aLoad true 5 q1s8 h49 fun v56 =>
  aCallT Try.prog (.p (.func slices_Clip_typ_Type_typ_Type_i [])) [y0] fun v57 =>
  aLoad true 2 q1s4 h49 fun v58 =>
  aCallT Try.prog (.p (.func expr_Expr_comes_i [])) [v55, v56, v57, v58] fun v59 =>
  aExtract v59 0 fun v60 =>
  aExtract v59 1 fun v61 =>
  aStore 2 q1s6 v60 h49 fun _ h63 =>
  aLoad true 2 q1s6 h63 fun v64 =>
  K (.tup [v64, v61]) h63))

def expr_check_J1 (j1s2 j1s3 j1s4 j1s6 j1s8 : AV) (H : List Ob) (K : AV → List Ob → Prop) : Prop :=
  aFieldAddr 7 j1s3 fun v16 =>
  aLoad false 1 v16 H fun v17 =>
  aLen false false v17 fun v18 =>
  aLoopN 2 [(.full []), (.p (.int .i64 0))] H fun xs H B1 => expr_check_L1 j1s2 j1s3 j1s4 j1s6 j1s8 v17 v18 (xs.getD 0 .top) (xs.getD 1 .top) H B1 K

def expr_check (x0 x1 x2 : AV) (H : List Ob) (K : AV → List Ob → Prop) : Prop :=
  aBox x0 H fun v0 h1 =>
  aBox x1 h1 fun v2 h3 =>
  aAlloc [(.p (.int .i64 0)), (.full [])] h3 fun v4 h5 =>
  aAlloc [(.p (.int .i64 0)), (.p (.int .i64 0)), (.full []), (.p (.bool false)), (.p (.int .i64 0))] h5 fun v6 h7 =>
  aCallT Try.prog (.p (.func expr_shapes_i [])) [] fun v8 =>
  aFieldAddr 0 v0 fun v9 =>
  aLoad false 1 v9 h7 fun v10 =>
  aCallT Try.prog (.p (.func expr_find_string_expr_shape_i [])) [v8, v10] fun v11 =>
  aExtract v11 0 fun v12 =>
  aExtract v11 1 fun v13 =>
  aStore 5 v6 v12 h7 fun _ h15 =>
  aUn .not v13 fun v65 =>
  aGuard v65
  (aBuild [(.p (.int .i64 0)), (.full [])] [] fun v66 =>
  aStore 2 v4 v66 h15 fun _ h68 =>
  aLoad true 2 v4 h68 fun v69 =>
  K (.tup [v69, (.p (.int .i64 6))]) h68)
  (aBin false false .gtr x2 (.p (.int .i64 12)) fun v70 =>
  aGuard v70
  (aBuild [(.p (.int .i64 0)), (.full [])] [] fun v71 =>
  aStore 2 v4 v71 h15 fun _ h73 =>
  aLoad true 2 v4 h73 fun v74 =>
  K (.tup [v74, (.p (.int .i64 9))]) h73)
  (aLoad true 8 v0 h15 fun v75 =>
  aLoad true 5 v6 h15 fun v76 =>
  aCall Try.prog (.p (.func expr_Expr_fields_i [])) [v75, v76] h15 fun v77 h78 =>
  aUn .not v77 fun v79 =>
  aGuard v79
  (aBuild [(.p (.int .i64 0)), (.full [])] [] fun v80 =>
  aStore 2 v4 v80 h78 fun _ h82 =>
  aLoad true 2 v4 h82 fun v83 =>
  K (.tup [v83, (.p (.int .i64 1))]) h82)
  (aFieldAddr 0 v0 fun v84 =>
  aLoad false 1 v84 h78 fun v85 =>
  aBin false false .eql v85 (.p (.str [108, 105, 116])) fun v86 =>
  aGuard v86
  (aFieldAddr 1 v0 fun v87 =>
  aLoad true 5 v87 h78 fun v88 =>
  aCall Try.prog (.p (.func val_Check_i [])) [v88] h78 fun v89 h90 =>
  aBin false false .neq v89 (.p (.int .i64 0)) fun v91 =>
  aGuard v91
  (aBuild [(.p (.int .i64 0)), (.full [])] [] fun v92 =>
  aStore 2 v4 v92 h90 fun _ h94 =>
  aLoad true 2 v4 h94 fun v95 =>
  K (.tup [v95, v89]) h94)
  (expr_check_J1 x2 v0 v2 v4 v6 h90 K))
  (expr_check_J1 x2 v0 v2 v4 v6 h78 K))))

def expr_check_ann : Nat → List Nat := fun k => match k with | 14 => [11, 51] | _ => []

theorem expr_check_eq (x0 x1 x2 : AV) (H : List Ob) (r : AV) (Ho : List Ob) : aBody Try.prog expr_check_ann Try.f75 H [x0, x1, x2] r Ho = expr_check x0 x1 x2 H (fun v H' => Gives H.length v H' r Ho) := by kernel_rfl

theorem expr_check_fn {x0 x1 x2 : AV} {r : AV} {Ho : List Ob} (h : expr_check x0 x1 x2 [] (fun v H' => Gives 0 v H' r Ho)) : Abs.Fn Try.prog expr_check_i [] [x0, x1, x2] r Ho :=
  fn_intro mixed expr_check_ann (fn := Try.f75) (by kernel_rfl) (by kernel_rfl) (by rw [expr_check_eq]; exact h)

/- runnel/runnelref6.Arity -/
def runnelref6_Arity (x0 : AV) (H : List Ob) (K : AV → List Ob → Prop) : Prop :=
  aBin false false .eql x0 (.p (.str [108, 105, 116])) fun v0 =>
  aMerge false v0 (fun Q1 =>
  aBin false false .eql x0 (.p (.str [120])) fun v2 =>
  (H = H ∧ Q1 v2)) fun v3 =>
  aGuard v3
  (K (.p (.int .i64 0)) H)
  (aBin false false .eql x0 (.p (.str [97, 116])) fun v4 =>
  aMerge false v4 (fun Q5 =>
  aBin false false .eql x0 (.p (.str [110, 101, 103])) fun v6 =>
  aMerge false v6 (fun Q7 =>
  aBin false false .eql x0 (.p (.str [110, 111, 116])) fun v8 =>
  aMerge false v8 (fun Q9 =>
  aBin false false .eql x0 (.p (.str [108, 101, 110])) fun v10 =>
  (H = H ∧ Q9 v10)) fun v11 =>
  (H = H ∧ Q7 v11)) fun v12 =>
  (H = H ∧ Q5 v12)) fun v13 =>
  aGuard v13
  (K (.p (.int .i64 1)) H)
  (aBin false false .eql x0 (.p (.str [97, 100, 100])) fun v14 =>
  aMerge false v14 (fun Q15 =>
  aBin false false .eql x0 (.p (.str [115, 117, 98])) fun v16 =>
  aMerge false v16 (fun Q17 =>
  aBin false false .eql x0 (.p (.str [109, 117, 108])) fun v18 =>
  aMerge false v18 (fun Q19 =>
  aBin false false .eql x0 (.p (.str [100, 105, 118])) fun v20 =>
  aMerge false v20 (fun Q21 =>
  aBin false false .eql x0 (.p (.str [114, 101, 109])) fun v22 =>
  aMerge false v22 (fun Q23 =>
  aBin false false .eql x0 (.p (.str [101, 113])) fun v24 =>
  aMerge false v24 (fun Q25 =>
  aBin false false .eql x0 (.p (.str [108, 116])) fun v26 =>
  aMerge false v26 (fun Q27 =>
  aBin false false .eql x0 (.p (.str [97, 110, 100])) fun v28 =>
  aMerge false v28 (fun Q29 =>
  aBin false false .eql x0 (.p (.str [111, 114])) fun v30 =>
  aMerge false v30 (fun Q31 =>
  aBin false false .eql x0 (.p (.str [99, 97, 116])) fun v32 =>
  (H = H ∧ Q31 v32)) fun v33 =>
  (H = H ∧ Q29 v33)) fun v34 =>
  (H = H ∧ Q27 v34)) fun v35 =>
  (H = H ∧ Q25 v35)) fun v36 =>
  (H = H ∧ Q23 v36)) fun v37 =>
  (H = H ∧ Q21 v37)) fun v38 =>
  (H = H ∧ Q19 v38)) fun v39 =>
  (H = H ∧ Q17 v39)) fun v40 =>
  (H = H ∧ Q15 v40)) fun v41 =>
  aGuard v41
  (K (.p (.int .i64 2)) H)
  (aBin false false .eql x0 (.p (.str [105, 102])) fun v42 =>
  aGuard v42
  (K (.p (.int .i64 3)) H)
  (aBin false false .eql x0 (.p (.str [116, 117, 112])) fun v43 =>
  aGuard v43
  (K (.p (.int .i64 (-1))) H)
  (K (.p (.int .i64 (-2))) H)))))

def runnelref6_Arity_ann : Nat → List Nat := fun k => match k with | 1000003 => [1] | 1000008 => [1] | 1000007 => [1] | 1000006 => [1] | 1000019 => [1] | 1000018 => [1] | 1000017 => [1] | 1000016 => [1] | 1000015 => [1] | 1000014 => [1] | 1000013 => [1] | 1000012 => [1] | 1000011 => [1] | _ => []

theorem runnelref6_Arity_eq (x0 : AV) (H : List Ob) (r : AV) (Ho : List Ob) : aBody Try.prog runnelref6_Arity_ann Try.f88 H [x0] r Ho = runnelref6_Arity x0 H (fun v H' => Gives H.length v H' r Ho) := by kernel_rfl

theorem runnelref6_Arity_fn {x0 : AV} {r : AV} {Ho : List Ob} (h : runnelref6_Arity x0 [] (fun v H' => Gives 0 v H' r Ho)) : Abs.Fn Try.prog runnelref6_Arity_i [] [x0] r Ho :=
  fn_intro mixed runnelref6_Arity_ann (fn := Try.f88) (by kernel_rfl) (by kernel_rfl) (by rw [runnelref6_Arity_eq]; exact h)

/- runnel/runnelref6.nought -/
def runnelref6_nought (x0 : AV) (H : List Ob) (K : AV → List Ob → Prop) : Prop :=
  aBox x0 H fun v0 h1 =>
  aFieldAddr 0 v0 fun v2 =>
  aLoad false 1 v2 h1 fun v3 =>
  aBin false false .eql v3 (.p (.int .i64 0)) fun v4 =>
  aMerge true v4 (fun Q5 =>
  aFieldAddr 1 v0 fun v6 =>
  aLoad false 1 v6 h1 fun v7 =>
  aBin false false .eql v7 (.p (.int .i64 0)) fun v8 =>
  (h1 = h1 ∧ Q5 v8)) fun v9 =>
  aMerge true v9 (fun Q10 =>
  aFieldAddr 2 v0 fun v11 =>
  aLoad false 1 v11 h1 fun v12 =>
  aUn .not v12 fun v13 =>
  (h1 = h1 ∧ Q10 v13)) fun v14 =>
  aMerge true v14 (fun Q15 =>
  aFieldAddr 3 v0 fun v16 =>
  aLoad false 1 v16 h1 fun v17 =>
  aBin false false .eql v17 (.p (.str [])) fun v18 =>
  (h1 = h1 ∧ Q15 v18)) fun v19 =>
  aMerge true v19 (fun Q20 =>
  aFieldAddr 4 v0 fun v21 =>
  aLoad false 1 v21 h1 fun v22 =>
  aLenS false v22 fun v23 =>
  aBin false false .eql v23 (.p (.int .i64 0)) fun v24 =>
  (h1 = h1 ∧ Q20 v24)) fun v25 =>
  K v25 h1

def runnelref6_nought_ann : Nat → List Nat := fun _ => []

theorem runnelref6_nought_eq (x0 : AV) (H : List Ob) (r : AV) (Ho : List Ob) : aBody Try.prog runnelref6_nought_ann Try.f89 H [x0] r Ho = runnelref6_nought x0 H (fun v H' => Gives H.length v H' r Ho) := by kernel_rfl

theorem runnelref6_nought_fn {x0 : AV} {r : AV} {Ho : List Ob} (h : runnelref6_nought x0 [] (fun v H' => Gives 0 v H' r Ho)) : Abs.Fn Try.prog runnelref6_nought_i [] [x0] r Ho :=
  fn_intro mixed runnelref6_nought_ann (fn := Try.f89) (by kernel_rfl) (by kernel_rfl) (by rw [runnelref6_nought_eq]; exact h)

/- runnel/runnelref6.OpType -/
def runnelref6_OpType_L1 (q1s2 q1s6 q1s8 q1s9 y0 : AV) (H : List Ob) (B1 : List AV → List Ob → Prop) (K : AV → List Ob → Prop) : Prop :=
  aLen false false q1s2 fun v2 =>
  aBin false false .lss y0 v2 fun v3 =>
  aGuard v3
  (aIndexAddr 2 q1s2 y0 fun v4 =>
  aFieldAddr 0 v4 fun v5 =>
  aLoad false 1 v5 H fun v6 =>
  aBin false false .neq v6 q1s8 fun v7 =>
  aGuard v7
  (aBuild [(.p (.int .i64 0)), (.full [])] [] fun v8 =>
  aStore 2 q1s6 v8 H fun _ h10 =>
  aLoad true 2 q1s6 h10 fun v11 =>
  K (.tup [v11, (.p (.int .i64 5))]) h10)
  (aBin false false .add y0 (.p (.int .i64 1)) fun v12 =>
  B1 [v12] H))
  (aCall Try.prog (.p (.func runnelref6_Plain_i [])) [q1s9] H fun v13 h14 =>
  aStore 2 q1s6 v13 h14 fun _ h16 =>
  aLoad true 2 q1s6 h16 fun v17 =>
  K (.tup [v17, (.p (.int .i64 0))]) h16)

def runnelref6_OpType_J1 (j1s2 j1s6 j1s8 j1s9 : AV) (H : List Ob) (K : AV → List Ob → Prop) : Prop :=
  aLoopN 1 [(.p (.int .i64 0))] H fun xs H B1 => runnelref6_OpType_L1 j1s2 j1s6 j1s8 j1s9 (xs.getD 0 .top) H B1 K

def runnelref6_OpType (x0 x1 x2 : AV) (H : List Ob) (K : AV → List Ob → Prop) : Prop :=
  aAlloc [(.p (.int .i64 0)), (.full [])] H fun v0 h1 =>
  aBin false false .eql x0 (.p (.str [97, 116])) fun v18 =>
  aGuard v18
  (aIndexAddr 2 x2 (.p (.int .i64 0)) fun v19 =>
  aFieldAddr 0 v19 fun v20 =>
  aLoad false 1 v20 h1 fun v21 =>
  aBin false false .neq v21 (.p (.int .i64 4)) fun v22 =>
  aGuard v22
  (aBuild [(.p (.int .i64 0)), (.full [])] [] fun v23 =>
  aStore 2 v0 v23 h1 fun _ h25 =>
  aLoad true 2 v0 h25 fun v26 =>
  K (.tup [v26, (.p (.int .i64 5))]) h25)
  (aBin false false .lss x1 (.p (.int .i64 0)) fun v27 =>
  aMerge false v27 (fun Q28 =>
  aIndexAddr 2 x2 (.p (.int .i64 0)) fun v29 =>
  aFieldAddr 1 v29 fun v30 =>
  aLoad false 1 v30 h1 fun v31 =>
  aLenS false v31 fun v32 =>
  aBin false false .geq x1 v32 fun v33 =>
  (h1 = h1 ∧ Q28 v33)) fun v34 =>
  aGuard v34
  (aBuild [(.p (.int .i64 0)), (.full [])] [] fun v35 =>
  aStore 2 v0 v35 h1 fun _ h37 =>
  aLoad true 2 v0 h37 fun v38 =>
  K (.tup [v38, (.p (.int .i64 1))]) h37)
  (aIndexAddr 2 x2 (.p (.int .i64 0)) fun v39 =>
  aFieldAddr 1 v39 fun v40 =>
  aLoad false 1 v40 h1 fun v41 =>
  aIndexAddr 2 v41 x1 fun v42 =>
  aLoad true 2 v42 h1 fun v43 =>
  aStore 2 v0 v43 h1 fun _ h45 =>
  aLoad true 2 v0 h45 fun v46 =>
  K (.tup [v46, (.p (.int .i64 0))]) h45)))
  (aBin false false .eql x0 (.p (.str [116, 117, 112])) fun v47 =>
  aGuard v47
  (aBuild [(.p (.int .i64 0)), (.full [])] [(0, 1, (.p (.int .i64 4))), (1, 1, x2)] fun v48 =>
  aAlloc [(.p (.int .i64 0)), (.full [])] h1 fun v49 h50 =>
  aStore 2 v49 v48 h50 fun _ h52 =>
  aLoad true 2 v49 h52 fun v53 =>
  aCall Try.prog (.p (.func runnelref6_CheckType_i [])) [v53] h52 fun v54 h55 =>
  aBin false false .neq v54 (.p (.int .i64 0)) fun v56 =>
  aGuard v56
  (aBuild [(.p (.int .i64 0)), (.full [])] [] fun v57 =>
  aStore 2 v0 v57 h55 fun _ h59 =>
  aLoad true 2 v0 h59 fun v60 =>
  K (.tup [v60, (.p (.int .i64 9))]) h59)
  (aLoad true 2 v49 h55 fun v61 =>
  aStore 2 v0 v61 h55 fun _ h63 =>
  aLoad true 2 v0 h63 fun v64 =>
  K (.tup [v64, (.p (.int .i64 0))]) h63))
  (aBin false false .eql x0 (.p (.str [101, 113])) fun v65 =>
  aMerge false v65 (fun Q66 =>
  aBin false false .eql x0 (.p (.str [108, 116])) fun v67 =>
  (h1 = h1 ∧ Q66 v67)) fun v68 =>
  aGuard v68
  (aIndexAddr 2 x2 (.p (.int .i64 0)) fun v69 =>
  aLoad true 2 v69 h1 fun v70 =>
  aIndexAddr 2 x2 (.p (.int .i64 1)) fun v71 =>
  aLoad true 2 v71 h1 fun v72 =>
  aCallT Try.prog (.p (.func runnelref6_SameType_i [])) [v70, v72] fun v73 =>
  aUn .not v73 fun v74 =>
  aGuard v74
  (aBuild [(.p (.int .i64 0)), (.full [])] [] fun v75 =>
  aStore 2 v0 v75 h1 fun _ h77 =>
  aLoad true 2 v0 h77 fun v78 =>
  K (.tup [v78, (.p (.int .i64 5))]) h77)
  (aCall Try.prog (.p (.func runnelref6_Plain_i [])) [(.p (.int .i64 2))] h1 fun v79 h80 =>
  aStore 2 v0 v79 h80 fun _ h82 =>
  aLoad true 2 v0 h82 fun v83 =>
  K (.tup [v83, (.p (.int .i64 0))]) h82))
  (aBin false false .eql x0 (.p (.str [105, 102])) fun v84 =>
  aGuard v84
  (aIndexAddr 2 x2 (.p (.int .i64 0)) fun v85 =>
  aFieldAddr 0 v85 fun v86 =>
  aLoad false 1 v86 h1 fun v87 =>
  aBin false false .neq v87 (.p (.int .i64 2)) fun v88 =>
  aGuard v88
  (aBuild [(.p (.int .i64 0)), (.full [])] [] fun v89 =>
  aStore 2 v0 v89 h1 fun _ h91 =>
  aLoad true 2 v0 h91 fun v92 =>
  K (.tup [v92, (.p (.int .i64 5))]) h91)
  (aIndexAddr 2 x2 (.p (.int .i64 1)) fun v93 =>
  aLoad true 2 v93 h1 fun v94 =>
  aIndexAddr 2 x2 (.p (.int .i64 2)) fun v95 =>
  aLoad true 2 v95 h1 fun v96 =>
  aCallT Try.prog (.p (.func runnelref6_SameType_i [])) [v94, v96] fun v97 =>
  aUn .not v97 fun v98 =>
  aGuard v98
  (aBuild [(.p (.int .i64 0)), (.full [])] [] fun v99 =>
  aStore 2 v0 v99 h1 fun _ h101 =>
  aLoad true 2 v0 h101 fun v102 =>
  K (.tup [v102, (.p (.int .i64 5))]) h101)
  (aIndexAddr 2 x2 (.p (.int .i64 1)) fun v103 =>
  aLoad true 2 v103 h1 fun v104 =>
  aStore 2 v0 v104 h1 fun _ h106 =>
  aLoad true 2 v0 h106 fun v107 =>
  K (.tup [v107, (.p (.int .i64 0))]) h106)))
  (aBin false false .eql x0 (.p (.str [110, 101, 103])) fun v108 =>
  aMerge false v108 (fun Q109 =>
  aBin false false .eql x0 (.p (.str [97, 100, 100])) fun v110 =>
  aMerge false v110 (fun Q111 =>
  aBin false false .eql x0 (.p (.str [115, 117, 98])) fun v112 =>
  aMerge false v112 (fun Q113 =>
  aBin false false .eql x0 (.p (.str [109, 117, 108])) fun v114 =>
  aMerge false v114 (fun Q115 =>
  aBin false false .eql x0 (.p (.str [100, 105, 118])) fun v116 =>
  aMerge false v116 (fun Q117 =>
  aBin false false .eql x0 (.p (.str [114, 101, 109])) fun v118 =>
  (h1 = h1 ∧ Q117 v118)) fun v119 =>
  (h1 = h1 ∧ Q115 v119)) fun v120 =>
  (h1 = h1 ∧ Q113 v120)) fun v121 =>
  (h1 = h1 ∧ Q111 v121)) fun v122 =>
  (h1 = h1 ∧ Q109 v122)) fun v123 =>
  aGuard v123
  (runnelref6_OpType_J1 x2 v0 (.p (.int .i64 1)) (.p (.int .i64 1)) h1 K)
  (aBin false false .eql x0 (.p (.str [110, 111, 116])) fun v124 =>
  aMerge false v124 (fun Q125 =>
  aBin false false .eql x0 (.p (.str [97, 110, 100])) fun v126 =>
  aMerge false v126 (fun Q127 =>
  aBin false false .eql x0 (.p (.str [111, 114])) fun v128 =>
  (h1 = h1 ∧ Q127 v128)) fun v129 =>
  (h1 = h1 ∧ Q125 v129)) fun v130 =>
  aGuard v130
  (runnelref6_OpType_J1 x2 v0 (.p (.int .i64 2)) (.p (.int .i64 2)) h1 K)
  (aBin false false .eql x0 (.p (.str [99, 97, 116])) fun v131 =>
  aGuard v131
  (runnelref6_OpType_J1 x2 v0 (.p (.int .i64 3)) (.p (.int .i64 3)) h1 K)
  (aBin false false .eql x0 (.p (.str [108, 101, 110])) fun v132 =>
  aGuard v132
  (runnelref6_OpType_J1 x2 v0 (.p (.int .i64 3)) (.p (.int .i64 1)) h1 K)
  (runnelref6_OpType_J1 x2 v0 (.p (.int .i64 0)) (.p (.int .i64 0)) h1 K))))))))

def runnelref6_OpType_ann : Nat → List Nat := fun k => match k with | 44 => [11] | 1000016 => [1] | 1000029 => [1] | 1000028 => [1] | 1000027 => [1] | 1000026 => [1] | 1000025 => [1] | 1000034 => [1] | 1000033 => [1] | _ => []

theorem runnelref6_OpType_eq (x0 x1 x2 : AV) (H : List Ob) (r : AV) (Ho : List Ob) : aBody Try.prog runnelref6_OpType_ann Try.f90 H [x0, x1, x2] r Ho = runnelref6_OpType x0 x1 x2 H (fun v H' => Gives H.length v H' r Ho) := by kernel_rfl

theorem runnelref6_OpType_fn {x0 x1 x2 : AV} {r : AV} {Ho : List Ob} (h : runnelref6_OpType x0 x1 x2 [] (fun v H' => Gives 0 v H' r Ho)) : Abs.Fn Try.prog runnelref6_OpType_i [] [x0, x1, x2] r Ho :=
  fn_intro mixed runnelref6_OpType_ann (fn := Try.f90) (by kernel_rfl) (by kernel_rfl) (by rw [runnelref6_OpType_eq]; exact h)

/- runnel/expr.find[string,runnel/expr.shape] -/
def expr_find_string_expr_shape_L1 (q1s1 q1s4 q1s9 q1s10 y0 : AV) (H : List Ob) (B1 : List AV → List Ob → Prop) (K : AV → List Ob → Prop) : Prop :=
  aBin false false .lss y0 q1s10 fun v3 =>
  aGuard v3
  (aIndexAddr 6 q1s9 y0 fun v4 =>
  aLoad true 6 v4 H fun v5 =>
  aAlloc [(.p (.str [])), (.p (.int .i64 0)), (.p (.int .i64 0)), (.full []), (.p (.bool false)), (.p (.int .i64 0))] H fun v6 h7 =>
  aStore 6 v6 v5 h7 fun _ h9 =>
  aFieldAddr 0 v6 fun v10 =>
  aLoad false 1 v10 h9 fun v11 =>
  aBin false false .eql v11 q1s1 fun v12 =>
  aGuard v12
  (aFieldAddr 1 v6 fun v13 =>
  aLoad true 5 v13 h9 fun v14 =>
  aStore 5 q1s4 v14 h9 fun _ h16 =>
  aLoad true 5 q1s4 h16 fun v17 =>
  K (.tup [v17, (.p (.bool true))]) h16)
  (aBin false false .add y0 (.p (.int .i64 1)) fun v18 =>
  B1 [v18] h9))
  (aAlloc [(.p (.int .i64 0)), (.p (.int .i64 0)), (.full []), (.p (.bool false)), (.p (.int .i64 0))] H fun v19 h20 =>
  aLoad true 5 v19 h20 fun v21 =>
  aStore 5 q1s4 v21 h20 fun _ h23 =>
  aLoad true 5 q1s4 h23 fun v24 =>
  K (.tup [v24, (.p (.bool false))]) h23)

def expr_find_string_expr_shape (x0 x1 : AV) (H : List Ob) (K : AV → List Ob → Prop) : Prop :=
  aAlloc [(.p (.int .i64 0)), (.p (.int .i64 0)), (.full []), (.p (.bool false)), (.p (.int .i64 0))] H fun v0 h1 =>
  aLen false false x0 fun v2 =>
  aLoopN 1 [(.p (.int .i64 0))] h1 fun xs H B1 => expr_find_string_expr_shape_L1 x1 v0 x0 v2 (xs.getD 0 .top) H B1 K

def expr_find_string_expr_shape_ann : Nat → List Nat := fun k => match k with | 2 => [11] | _ => []

theorem expr_find_string_expr_shape_eq (x0 x1 : AV) (H : List Ob) (r : AV) (Ho : List Ob) : aBody Try.prog expr_find_string_expr_shape_ann Try.f111 H [x0, x1] r Ho = expr_find_string_expr_shape x0 x1 H (fun v H' => Gives H.length v H' r Ho) := by kernel_rfl

theorem expr_find_string_expr_shape_fn {x0 x1 : AV} {r : AV} {Ho : List Ob} (h : expr_find_string_expr_shape x0 x1 [] (fun v H' => Gives 0 v H' r Ho)) : Abs.Fn Try.prog expr_find_string_expr_shape_i [] [x0, x1] r Ho :=
  fn_intro mixed expr_find_string_expr_shape_ann (fn := Try.f111) (by kernel_rfl) (by kernel_rfl) (by rw [expr_find_string_expr_shape_eq]; exact h)

/- runnel/expr.shapes -/
def expr_shapes (H : List Ob) (K : AV → List Ob → Prop) : Prop :=
  aBuildSlice 1 [(.p (.int .i64 1)), (.p (.int .i64 1))] fun v0 =>
  aBuild [(.p (.int .i64 0)), (.p (.int .i64 0)), (.full []), (.p (.bool false)), (.p (.int .i64 0))] [(0, 1, (.p (.int .i64 2))), (1, 1, (.p (.int .i64 2))), (2, 1, v0), (3, 1, (.p (.bool false))), (4, 1, (.p (.int .i64 1)))] fun v1 =>
  aAlloc [(.p (.int .i64 0)), (.p (.int .i64 0)), (.full []), (.p (.bool false)), (.p (.int .i64 0))] H fun v2 h3 =>
  aStore 5 v2 v1 h3 fun _ h5 =>
  aBuildSlice 1 [(.p (.int .i64 0)), (.p (.int .i64 0))] fun v6 =>
  aBuild [(.p (.int .i64 0)), (.p (.int .i64 0)), (.full []), (.p (.bool false)), (.p (.int .i64 0))] [(0, 1, (.p (.int .i64 2))), (1, 1, (.p (.int .i64 2))), (2, 1, v6), (3, 1, (.p (.bool true))), (4, 1, (.p (.int .i64 2)))] fun v7 =>
  aAlloc [(.p (.int .i64 0)), (.p (.int .i64 0)), (.full []), (.p (.bool false)), (.p (.int .i64 0))] h5 fun v8 h9 =>
  aStore 5 v8 v7 h9 fun _ h11 =>
  aBuildSlice 1 [(.p (.int .i64 2)), (.p (.int .i64 2))] fun v12 =>
  aBuild [(.p (.int .i64 0)), (.p (.int .i64 0)), (.full []), (.p (.bool false)), (.p (.int .i64 0))] [(0, 1, (.p (.int .i64 2))), (1, 1, (.p (.int .i64 2))), (2, 1, v12), (3, 1, (.p (.bool false))), (4, 1, (.p (.int .i64 2)))] fun v13 =>
  aAlloc [(.p (.int .i64 0)), (.p (.int .i64 0)), (.full []), (.p (.bool false)), (.p (.int .i64 0))] h11 fun v14 h15 =>
  aStore 5 v14 v13 h15 fun _ h17 =>
  aBuild [(.p (.int .i64 0)), (.p (.int .i64 0)), (.full []), (.p (.bool false)), (.p (.int .i64 0))] [] fun v18 =>
  aBuild [(.p (.str [])), (.p (.int .i64 0)), (.p (.int .i64 0)), (.full []), (.p (.bool false)), (.p (.int .i64 0))] [(0, 1, (.p (.str [108, 105, 116]))), (1, 5, v18)] fun v19 =>
  aBuild [(.p (.int .i64 0)), (.p (.int .i64 0)), (.full []), (.p (.bool false)), (.p (.int .i64 0))] [] fun v20 =>
  aBuild [(.p (.str [])), (.p (.int .i64 0)), (.p (.int .i64 0)), (.full []), (.p (.bool false)), (.p (.int .i64 0))] [(0, 1, (.p (.str [120]))), (1, 5, v20)] fun v21 =>
  aBuildSlice 1 [(.p (.int .i64 4))] fun v22 =>
  aBuild [(.p (.int .i64 0)), (.p (.int .i64 0)), (.full []), (.p (.bool false)), (.p (.int .i64 0))] [(0, 1, (.p (.int .i64 1))), (1, 1, (.p (.int .i64 1))), (2, 1, v22), (3, 1, (.p (.bool false))), (4, 1, (.p (.int .i64 0)))] fun v23 =>
  aBuild [(.p (.str [])), (.p (.int .i64 0)), (.p (.int .i64 0)), (.full []), (.p (.bool false)), (.p (.int .i64 0))] [(0, 1, (.p (.str [97, 116]))), (1, 5, v23)] fun v24 =>
  aBuild [(.p (.int .i64 0)), (.p (.int .i64 0)), (.full []), (.p (.bool false)), (.p (.int .i64 0))] [(0, 1, (.p (.int .i64 1))), (1, 1, (.p (.int .i64 8))), (2, 1, (.full [])), (3, 1, (.p (.bool false))), (4, 1, (.p (.int .i64 4)))] fun v25 =>
  aBuild [(.p (.str [])), (.p (.int .i64 0)), (.p (.int .i64 0)), (.full []), (.p (.bool false)), (.p (.int .i64 0))] [(0, 1, (.p (.str [116, 117, 112]))), (1, 5, v25)] fun v26 =>
  aBuildSlice 1 [(.p (.int .i64 1))] fun v27 =>
  aBuild [(.p (.int .i64 0)), (.p (.int .i64 0)), (.full []), (.p (.bool false)), (.p (.int .i64 0))] [(0, 1, (.p (.int .i64 1))), (1, 1, (.p (.int .i64 1))), (2, 1, v27), (3, 1, (.p (.bool false))), (4, 1, (.p (.int .i64 1)))] fun v28 =>
  aBuild [(.p (.str [])), (.p (.int .i64 0)), (.p (.int .i64 0)), (.full []), (.p (.bool false)), (.p (.int .i64 0))] [(0, 1, (.p (.str [110, 101, 103]))), (1, 5, v28)] fun v29 =>
  aBuildSlice 1 [(.p (.int .i64 2))] fun v30 =>
  aBuild [(.p (.int .i64 0)), (.p (.int .i64 0)), (.full []), (.p (.bool false)), (.p (.int .i64 0))] [(0, 1, (.p (.int .i64 1))), (1, 1, (.p (.int .i64 1))), (2, 1, v30), (3, 1, (.p (.bool false))), (4, 1, (.p (.int .i64 2)))] fun v31 =>
  aBuild [(.p (.str [])), (.p (.int .i64 0)), (.p (.int .i64 0)), (.full []), (.p (.bool false)), (.p (.int .i64 0))] [(0, 1, (.p (.str [110, 111, 116]))), (1, 5, v31)] fun v32 =>
  aBuildSlice 1 [(.p (.int .i64 3))] fun v33 =>
  aBuild [(.p (.int .i64 0)), (.p (.int .i64 0)), (.full []), (.p (.bool false)), (.p (.int .i64 0))] [(0, 1, (.p (.int .i64 1))), (1, 1, (.p (.int .i64 1))), (2, 1, v33), (3, 1, (.p (.bool false))), (4, 1, (.p (.int .i64 1)))] fun v34 =>
  aBuild [(.p (.str [])), (.p (.int .i64 0)), (.p (.int .i64 0)), (.full []), (.p (.bool false)), (.p (.int .i64 0))] [(0, 1, (.p (.str [108, 101, 110]))), (1, 5, v34)] fun v35 =>
  aLoad true 5 v2 h17 fun v36 =>
  aBuild [(.p (.str [])), (.p (.int .i64 0)), (.p (.int .i64 0)), (.full []), (.p (.bool false)), (.p (.int .i64 0))] [(0, 1, (.p (.str [97, 100, 100]))), (1, 5, v36)] fun v37 =>
  aLoad true 5 v2 h17 fun v38 =>
  aBuild [(.p (.str [])), (.p (.int .i64 0)), (.p (.int .i64 0)), (.full []), (.p (.bool false)), (.p (.int .i64 0))] [(0, 1, (.p (.str [115, 117, 98]))), (1, 5, v38)] fun v39 =>
  aLoad true 5 v2 h17 fun v40 =>
  aBuild [(.p (.str [])), (.p (.int .i64 0)), (.p (.int .i64 0)), (.full []), (.p (.bool false)), (.p (.int .i64 0))] [(0, 1, (.p (.str [109, 117, 108]))), (1, 5, v40)] fun v41 =>
  aLoad true 5 v2 h17 fun v42 =>
  aBuild [(.p (.str [])), (.p (.int .i64 0)), (.p (.int .i64 0)), (.full []), (.p (.bool false)), (.p (.int .i64 0))] [(0, 1, (.p (.str [100, 105, 118]))), (1, 5, v42)] fun v43 =>
  aLoad true 5 v2 h17 fun v44 =>
  aBuild [(.p (.str [])), (.p (.int .i64 0)), (.p (.int .i64 0)), (.full []), (.p (.bool false)), (.p (.int .i64 0))] [(0, 1, (.p (.str [114, 101, 109]))), (1, 5, v44)] fun v45 =>
  aLoad true 5 v8 h17 fun v46 =>
  aBuild [(.p (.str [])), (.p (.int .i64 0)), (.p (.int .i64 0)), (.full []), (.p (.bool false)), (.p (.int .i64 0))] [(0, 1, (.p (.str [101, 113]))), (1, 5, v46)] fun v47 =>
  aLoad true 5 v8 h17 fun v48 =>
  aBuild [(.p (.str [])), (.p (.int .i64 0)), (.p (.int .i64 0)), (.full []), (.p (.bool false)), (.p (.int .i64 0))] [(0, 1, (.p (.str [108, 116]))), (1, 5, v48)] fun v49 =>
  aLoad true 5 v14 h17 fun v50 =>
  aBuild [(.p (.str [])), (.p (.int .i64 0)), (.p (.int .i64 0)), (.full []), (.p (.bool false)), (.p (.int .i64 0))] [(0, 1, (.p (.str [97, 110, 100]))), (1, 5, v50)] fun v51 =>
  aLoad true 5 v14 h17 fun v52 =>
  aBuild [(.p (.str [])), (.p (.int .i64 0)), (.p (.int .i64 0)), (.full []), (.p (.bool false)), (.p (.int .i64 0))] [(0, 1, (.p (.str [111, 114]))), (1, 5, v52)] fun v53 =>
  aBuildSlice 1 [(.p (.int .i64 3)), (.p (.int .i64 3))] fun v54 =>
  aBuild [(.p (.int .i64 0)), (.p (.int .i64 0)), (.full []), (.p (.bool false)), (.p (.int .i64 0))] [(0, 1, (.p (.int .i64 2))), (1, 1, (.p (.int .i64 2))), (2, 1, v54), (3, 1, (.p (.bool false))), (4, 1, (.p (.int .i64 3)))] fun v55 =>
  aBuild [(.p (.str [])), (.p (.int .i64 0)), (.p (.int .i64 0)), (.full []), (.p (.bool false)), (.p (.int .i64 0))] [(0, 1, (.p (.str [99, 97, 116]))), (1, 5, v55)] fun v56 =>
  aBuildSlice 1 [(.p (.int .i64 2)), (.p (.int .i64 0)), (.p (.int .i64 0))] fun v57 =>
  aBuild [(.p (.int .i64 0)), (.p (.int .i64 0)), (.full []), (.p (.bool false)), (.p (.int .i64 0))] [(0, 1, (.p (.int .i64 3))), (1, 1, (.p (.int .i64 3))), (2, 1, v57), (3, 1, (.p (.bool true))), (4, 1, (.p (.int .i64 0)))] fun v58 =>
  aBuild [(.p (.str [])), (.p (.int .i64 0)), (.p (.int .i64 0)), (.full []), (.p (.bool false)), (.p (.int .i64 0))] [(0, 1, (.p (.str [105, 102]))), (1, 5, v58)] fun v59 =>
  aBuildSlice 6 [v19, v21, v24, v26, v29, v32, v35, v37, v39, v41, v43, v45, v47, v49, v51, v53, v56, v59] fun v60 =>
  K v60 h17

def expr_shapes_ann : Nat → List Nat := fun _ => []

theorem expr_shapes_eq (H : List Ob) (r : AV) (Ho : List Ob) : aBody Try.prog expr_shapes_ann Try.f112 H [] r Ho = expr_shapes H (fun v H' => Gives H.length v H' r Ho) := by kernel_rfl

theorem expr_shapes_fn {r : AV} {Ho : List Ob} (h : expr_shapes [] (fun v H' => Gives 0 v H' r Ho)) : Abs.Fn Try.prog expr_shapes_i [] [] r Ho :=
  fn_intro mixed expr_shapes_ann (fn := Try.f112) (by kernel_rfl) (by kernel_rfl) (by rw [expr_shapes_eq]; exact h)

/- (runnel/expr.Expr).fields -/
def expr_Expr_fields (x0 x1 : AV) (H : List Ob) (K : AV → List Ob → Prop) : Prop :=
  aBox x0 H fun v0 h1 =>
  aBox x1 h1 fun v2 h3 =>
  aFieldAddr 7 v0 fun v4 =>
  aLoad false 1 v4 h3 fun v5 =>
  aLen false false v5 fun v6 =>
  aFieldAddr 0 v2 fun v7 =>
  aLoad false 1 v7 h3 fun v8 =>
  aBin false false .geq v6 v8 fun v9 =>
  aMerge true v9 (fun Q10 =>
  aFieldAddr 7 v0 fun v11 =>
  aLoad false 1 v11 h3 fun v12 =>
  aLenS false v12 fun v13 =>
  aFieldAddr 1 v2 fun v14 =>
  aLoad false 1 v14 h3 fun v15 =>
  aBin false false .leq v13 v15 fun v16 =>
  (h3 = h3 ∧ Q10 v16)) fun v17 =>
  aMerge true v17 (fun Q18 =>
  aFieldAddr 0 v0 fun v19 =>
  aLoad false 1 v19 h3 fun v20 =>
  aBin false false .eql v20 (.p (.str [108, 105, 116])) fun v21 =>
  aMerge false v21 (fun Q22 =>
  aFieldAddr 1 v0 fun v23 =>
  aLoad true 5 v23 h3 fun v24 =>
  aCall Try.prog (.p (.func expr_none_i [])) [v24] h3 fun v25 h26 =>
  (h26 = h3 ∧ Q22 v25)) fun v27 =>
  (h3 = h3 ∧ Q18 v27)) fun v28 =>
  aMerge true v28 (fun Q29 =>
  aFieldAddr 0 v0 fun v30 =>
  aLoad false 1 v30 h3 fun v31 =>
  aBin false false .eql v31 (.p (.str [97, 116])) fun v32 =>
  aMerge false v32 (fun Q33 =>
  aFieldAddr 6 v0 fun v34 =>
  aLoad false 1 v34 h3 fun v35 =>
  aBin false false .eql v35 (.p (.int .i64 0)) fun v36 =>
  (h3 = h3 ∧ Q33 v36)) fun v37 =>
  (h3 = h3 ∧ Q29 v37)) fun v38 =>
  K v38 h3

def expr_Expr_fields_ann : Nat → List Nat := fun _ => []

theorem expr_Expr_fields_eq (x0 x1 : AV) (H : List Ob) (r : AV) (Ho : List Ob) : aBody Try.prog expr_Expr_fields_ann Try.f113 H [x0, x1] r Ho = expr_Expr_fields x0 x1 H (fun v H' => Gives H.length v H' r Ho) := by kernel_rfl

theorem expr_Expr_fields_fn {x0 x1 : AV} {r : AV} {Ho : List Ob} (h : expr_Expr_fields x0 x1 [] (fun v H' => Gives 0 v H' r Ho)) : Abs.Fn Try.prog expr_Expr_fields_i [] [x0, x1] r Ho :=
  fn_intro mixed expr_Expr_fields_ann (fn := Try.f113) (by kernel_rfl) (by kernel_rfl) (by rw [expr_Expr_fields_eq]; exact h)

/- runnel/expr.fits -/
def expr_fits_L1 (q1s1 q1s2 q1s8 q1s9 y0 : AV) (H : List Ob) (B1 : List AV → List Ob → Prop) (K : AV → List Ob → Prop) : Prop :=
  aBin false false .lss y0 q1s9 fun v5 =>
  aGuard v5
  (aIndexAddr 1 q1s8 y0 fun v6 =>
  aLoad false 1 v6 H fun v7 =>
  aBin false false .neq v7 (.p (.int .i64 0)) fun v8 =>
  aMerge true v8 (fun Q9 =>
  aIndexAddr 2 q1s1 y0 fun v10 =>
  aFieldAddr 0 v10 fun v11 =>
  aLoad false 1 v11 H fun v12 =>
  aBin false false .neq v12 v7 fun v13 =>
  (H = H ∧ Q9 v13)) fun v14 =>
  aGuard v14
  (K (.p (.bool false)) H)
  (aBin false false .add y0 (.p (.int .i64 1)) fun v15 =>
  B1 [v15] H))
  (aFieldAddr 3 q1s2 fun v16 =>
  aLoad false 1 v16 H fun v17 =>
  aUn .not v17 fun v18 =>
  aGuard v18
  (K (.p (.bool true)) H)
  (aLen true false q1s1 fun v19 =>
  aBin false false .sub v19 (.p (.int .i64 1)) fun v20 =>
  aIndexAddr 2 q1s1 v20 fun v21 =>
  aLoad true 2 v21 H fun v22 =>
  aLen true false q1s1 fun v23 =>
  aBin false false .sub v23 (.p (.int .i64 2)) fun v24 =>
  aIndexAddr 2 q1s1 v24 fun v25 =>
  aLoad true 2 v25 H fun v26 =>
  aCallT Try.prog (.p (.func typ_Same_i [])) [v22, v26] fun v27 =>
  K v27 H))

def expr_fits (x0 x1 : AV) (H : List Ob) (K : AV → List Ob → Prop) : Prop :=
  aBox x0 H fun v0 h1 =>
  aFieldAddr 2 v0 fun v2 =>
  aLoad false 1 v2 h1 fun v3 =>
  aLen false false v3 fun v4 =>
  aLoopN 1 [(.p (.int .i64 0))] h1 fun xs H B1 => expr_fits_L1 x1 v0 v3 v4 (xs.getD 0 .top) H B1 K

def expr_fits_ann : Nat → List Nat := fun k => match k with | 2 => [10] | _ => []

theorem expr_fits_eq (x0 x1 : AV) (H : List Ob) (r : AV) (Ho : List Ob) : aBody Try.prog expr_fits_ann Try.f115 H [x0, x1] r Ho = expr_fits x0 x1 H (fun v H' => Gives H.length v H' r Ho) := by kernel_rfl

theorem expr_fits_fn {x0 x1 : AV} {r : AV} {Ho : List Ob} (h : expr_fits x0 x1 [] (fun v H' => Gives 0 v H' r Ho)) : Abs.Fn Try.prog expr_fits_i [] [x0, x1] r Ho :=
  fn_intro mixed expr_fits_ann (fn := Try.f115) (by kernel_rfl) (by kernel_rfl) (by rw [expr_fits_eq]; exact h)

/- (runnel/expr.Expr).comes -/
def expr_Expr_comes (x0 x1 x2 x3 : AV) (H : List Ob) (K : AV → List Ob → Prop) : Prop :=
  aBox x0 H fun v0 h1 =>
  aBox x1 h1 fun v2 h3 =>
  aBox x3 h3 fun v4 h5 =>
  aAlloc [(.p (.int .i64 0)), (.full [])] h5 fun v6 h7 =>
  aFieldAddr 0 v0 fun v8 =>
  aLoad false 1 v8 h7 fun v9 =>
  aBin false false .eql v9 (.p (.str [108, 105, 116])) fun v10 =>
  aGuard v10
  (aFieldAddr 1 v0 fun v11 =>
  aLoad true 5 v11 h7 fun v12 =>
  aCall Try.prog (.p (.func val_TypeOf_i [])) [v12] h7 fun v13 h14 =>
  aStore 2 v6 v13 h14 fun _ h16 =>
  aLoad true 2 v6 h16 fun v17 =>
  K (.tup [v17, (.p (.int .i64 0))]) h16)
  (aBin false false .eql v9 (.p (.str [120])) fun v18 =>
  aGuard v18
  (aLoad true 2 v4 h7 fun v19 =>
  aStore 2 v6 v19 h7 fun _ h21 =>
  aLoad true 2 v6 h21 fun v22 =>
  K (.tup [v22, (.p (.int .i64 0))]) h21)
  (aBin false false .eql v9 (.p (.str [97, 116])) fun v23 =>
  aGuard v23
  (aFieldAddr 6 v0 fun v24 =>
  aLoad false 1 v24 h7 fun v25 =>
  aBin false false .lss v25 (.p (.int .i64 0)) fun v26 =>
  aGuard v26
  (aBuild [(.p (.int .i64 0)), (.full [])] [] fun v27 =>
  aStore 2 v6 v27 h7 fun _ h29 =>
  aLoad true 2 v6 h29 fun v30 =>
  K (.tup [v30, (.p (.int .i64 1))]) h29)
  (aFieldAddr 6 v0 fun v31 =>
  aLoad false 1 v31 h7 fun v32 =>
  aIndexAddr 2 x2 (.p (.int .i64 0)) fun v33 =>
  aFieldAddr 1 v33 fun v34 =>
  aLoad false 1 v34 h7 fun v35 =>
  aLen true false v35 fun v36 =>
  aBin false false .geq v32 v36 fun v37 =>
  aGuard v37
  (aBuild [(.p (.int .i64 0)), (.full [])] [] fun v38 =>
  aStore 2 v6 v38 h7 fun _ h40 =>
  aLoad true 2 v6 h40 fun v41 =>
  K (.tup [v41, (.p (.int .i64 1))]) h40)
  (aIndexAddr 2 x2 (.p (.int .i64 0)) fun v42 =>
  aFieldAddr 1 v42 fun v43 =>
  aLoad false 1 v43 h7 fun v44 =>
  aFieldAddr 6 v0 fun v45 =>
  aLoad false 1 v45 h7 fun v46 =>
  aIndexAddr 2 v44 v46 fun v47 =>
  aLoad true 2 v47 h7 fun v48 =>
  aStore 2 v6 v48 h7 fun _ h50 =>
  aLoad true 2 v6 h50 fun v51 =>
  K (.tup [v51, (.p (.int .i64 0))]) h50)))
  (aBin false false .eql v9 (.p (.str [116, 117, 112])) fun v52 =>
  aGuard v52
  (aBuild [(.p (.int .i64 0)), (.full [])] [(0, 1, (.p (.int .i64 4))), (1, 1, x2)] fun v53 =>
  aAlloc [(.p (.int .i64 0)), (.full [])] h7 fun v54 h55 =>
  aStore 2 v54 v53 h55 fun _ h57 =>
  aLoad true 2 v54 h57 fun v58 =>
  aCall Try.prog (.p (.func typ_Check_i [])) [v58] h57 fun v59 h60 =>
  aBin false false .neq v59 (.p (.int .i64 0)) fun v61 =>
  aGuard v61
  (aBuild [(.p (.int .i64 0)), (.full [])] [] fun v62 =>
  aStore 2 v6 v62 h60 fun _ h64 =>
  aLoad true 2 v6 h64 fun v65 =>
  K (.tup [v65, v59]) h64)
  (aLoad true 2 v54 h60 fun v66 =>
  aStore 2 v6 v66 h60 fun _ h68 =>
  aLoad true 2 v6 h68 fun v69 =>
  K (.tup [v69, (.p (.int .i64 0))]) h68))
  (aBin false false .eql v9 (.p (.str [105, 102])) fun v70 =>
  aGuard v70
  (aIndexAddr 2 x2 (.p (.int .i64 1)) fun v71 =>
  aLoad true 2 v71 h7 fun v72 =>
  aStore 2 v6 v72 h7 fun _ h74 =>
  aLoad true 2 v6 h74 fun v75 =>
  K (.tup [v75, (.p (.int .i64 0))]) h74)
  (aFieldAddr 4 v2 fun v76 =>
  aLoad false 1 v76 h7 fun v77 =>
  aBuild [(.p (.int .i64 0)), (.full [])] [(0, 1, v77)] fun v78 =>
  aStore 2 v6 v78 h7 fun _ h80 =>
  aLoad true 2 v6 h80 fun v81 =>
  K (.tup [v81, (.p (.int .i64 0))]) h80)))))

def expr_Expr_comes_ann : Nat → List Nat := fun _ => []

theorem expr_Expr_comes_eq (x0 x1 x2 x3 : AV) (H : List Ob) (r : AV) (Ho : List Ob) : aBody Try.prog expr_Expr_comes_ann Try.f116 H [x0, x1, x2, x3] r Ho = expr_Expr_comes x0 x1 x2 x3 H (fun v H' => Gives H.length v H' r Ho) := by kernel_rfl

theorem expr_Expr_comes_fn {x0 x1 x2 x3 : AV} {r : AV} {Ho : List Ob} (h : expr_Expr_comes x0 x1 x2 x3 [] (fun v H' => Gives 0 v H' r Ho)) : Abs.Fn Try.prog expr_Expr_comes_i [] [x0, x1, x2, x3] r Ho :=
  fn_intro mixed expr_Expr_comes_ann (fn := Try.f116) (by kernel_rfl) (by kernel_rfl) (by rw [expr_Expr_comes_eq]; exact h)

/- runnel/runnelref6.Plain -/
def runnelref6_Plain (x0 : AV) (H : List Ob) (K : AV → List Ob → Prop) : Prop :=
  aAlloc [(.p (.int .i64 0)), (.full [])] H fun v0 h1 =>
  aBuild [(.p (.int .i64 0)), (.full [])] [(0, 1, x0)] fun v2 =>
  aStore 2 v0 v2 h1 fun _ h4 =>
  aLoad true 2 v0 h4 fun v5 =>
  K v5 h4

def runnelref6_Plain_ann : Nat → List Nat := fun _ => []

theorem runnelref6_Plain_eq (x0 : AV) (H : List Ob) (r : AV) (Ho : List Ob) : aBody Try.prog runnelref6_Plain_ann Try.f123 H [x0] r Ho = runnelref6_Plain x0 H (fun v H' => Gives H.length v H' r Ho) := by kernel_rfl

theorem runnelref6_Plain_fn {x0 : AV} {r : AV} {Ho : List Ob} (h : runnelref6_Plain x0 [] (fun v H' => Gives 0 v H' r Ho)) : Abs.Fn Try.prog runnelref6_Plain_i [] [x0] r Ho :=
  fn_intro mixed runnelref6_Plain_ann (fn := Try.f123) (by kernel_rfl) (by kernel_rfl) (by rw [runnelref6_Plain_eq]; exact h)

/- runnel/expr.none -/
def expr_none (x0 : AV) (H : List Ob) (K : AV → List Ob → Prop) : Prop :=
  aBox x0 H fun v0 h1 =>
  aLoad true 5 v0 h1 fun v2 =>
  aBuild [(.p (.int .i64 0)), (.p (.int .i64 0)), (.p (.bool false)), (.p (.str [])), (.full [])] [] fun v3 =>
  aCall Try.prog (.p (.func val_Same_i [])) [v2, v3] h1 fun v4 h5 =>
  K v4 h5

def expr_none_ann : Nat → List Nat := fun _ => []

theorem expr_none_eq (x0 : AV) (H : List Ob) (r : AV) (Ho : List Ob) : aBody Try.prog expr_none_ann Try.f147 H [x0] r Ho = expr_none x0 H (fun v H' => Gives H.length v H' r Ho) := by kernel_rfl

theorem expr_none_fn {x0 : AV} {r : AV} {Ho : List Ob} (h : expr_none x0 [] (fun v H' => Gives 0 v H' r Ho)) : Abs.Fn Try.prog expr_none_i [] [x0] r Ho :=
  fn_intro mixed expr_none_ann (fn := Try.f147) (by kernel_rfl) (by kernel_rfl) (by rw [expr_none_eq]; exact h)

end Go.Proofs.Ytiejfphchpcldaa
