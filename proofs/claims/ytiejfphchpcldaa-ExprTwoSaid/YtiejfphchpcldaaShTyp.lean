/- Made by program (Gen.lean): functions of the dump, over trees. -/
import Derived.Test.YtiejfphchpcldaaShIds
set_option maxRecDepth 4000
set_option linter.unusedVariables false
namespace Go.Proofs.Ytiejfphchpcldaa
open Go Go.Abs

/- runnel/runnellaw1.Few -/
def runnellaw1_Few (x0 : AV) (H : List Ob) (K : AV → List Ob → Prop) : Prop :=
  aBox x0 H fun v0 h1 =>
  aLoad true 2 v0 h1 fun v2 =>
  aCall Try.prog (.p (.func runnellaw1_budget_i [])) [v2, (.p (.int .i64 12)), (.p (.int .i64 300))] h1 fun v3 h4 =>
  aBin false false .gtr v3 (.p (.int .i64 0)) fun v5 =>
  K v5 h4

def runnellaw1_Few_ann : Nat → List Nat := fun _ => []

theorem runnellaw1_Few_eq (x0 : AV) (H : List Ob) (r : AV) (Ho : List Ob) : aBody Try.prog runnellaw1_Few_ann Try.f42 H [x0] r Ho = runnellaw1_Few x0 H (fun v H' => Gives H.length v H' r Ho) := by kernel_rfl

theorem runnellaw1_Few_fn {x0 : AV} {r : AV} {Ho : List Ob} (h : runnellaw1_Few x0 [] (fun v H' => Gives 0 v H' r Ho)) : Abs.Fn Try.prog runnellaw1_Few_i [] [x0] r Ho :=
  fn_intro mixed runnellaw1_Few_ann (fn := Try.f42) (by kernel_rfl) (by kernel_rfl) (by rw [runnellaw1_Few_eq]; exact h)

/- runnel/runnelref6.CheckType -/
def runnelref6_CheckType (x0 : AV) (H : List Ob) (K : AV → List Ob → Prop) : Prop :=
  aBox x0 H fun v0 h1 =>
  aLoad true 2 v0 h1 fun v2 =>
  aCall Try.prog (.p (.func runnelref6_checkType_i [])) [v2, (.p (.int .i64 0))] h1 fun v3 h4 =>
  K v3 h4

def runnelref6_CheckType_ann : Nat → List Nat := fun _ => []

theorem runnelref6_CheckType_eq (x0 : AV) (H : List Ob) (r : AV) (Ho : List Ob) : aBody Try.prog runnelref6_CheckType_ann Try.f43 H [x0] r Ho = runnelref6_CheckType x0 H (fun v H' => Gives H.length v H' r Ho) := by kernel_rfl

theorem runnelref6_CheckType_fn {x0 : AV} {r : AV} {Ho : List Ob} (h : runnelref6_CheckType x0 [] (fun v H' => Gives 0 v H' r Ho)) : Abs.Fn Try.prog runnelref6_CheckType_i [] [x0] r Ho :=
  fn_intro mixed runnelref6_CheckType_ann (fn := Try.f43) (by kernel_rfl) (by kernel_rfl) (by rw [runnelref6_CheckType_eq]; exact h)

/- runnel/runnellaw1.Of -/
def runnellaw1_Of_L1 (q1s1 q1s2 q1s3 y0 : AV) (H : List Ob) (B1 : List AV → List Ob → Prop) (K : AV → List Ob → Prop) : Prop :=
  aFieldAddr 1 q1s1 fun v11 =>
  aLoad false 1 v11 H fun v12 =>
  aLen false false v12 fun v13 =>
  aBin false false .lss y0 v13 fun v14 =>
  aGuard v14
  (aFieldAddr 1 q1s3 fun v15 =>
  aLoad false 1 v15 H fun v16 =>
  aFieldAddr 1 q1s1 fun v17 =>
  aLoad false 1 v17 H fun v18 =>
  aIndexAddr 2 v18 y0 fun v19 =>
  aLoad true 2 v19 H fun v20 =>
  aCallT Try.prog (.p (.func runnellaw1_Of_i [])) [v20] fun v21 =>
  aBuildSlice 2 [v21] fun v22 =>
  aCalm [v16, v22] <|
  aAppend false 2 32 v16 v22 H fun v23 h24 =>
  aFieldAddr 1 q1s3 fun v25 =>
  aStore 1 v25 v23 h24 fun _ h27 =>
  aBin false false .add y0 (.p (.int .i64 1)) fun v28 =>
  B1 [v28] h27)
  (aLoad true 2 q1s3 H fun v29 =>
  aStore 2 q1s2 v29 H fun _ h31 =>
  aLoad true 2 q1s2 h31 fun v32 =>
  K v32 h31)

def runnellaw1_Of (x0 : AV) (H : List Ob) (K : AV → List Ob → Prop) : Prop :=
  aBox x0 H fun v0 h1 =>
  aAlloc [(.p (.int .i64 0)), (.full [])] h1 fun v2 h3 =>
  aFieldAddr 0 v0 fun v4 =>
  aLoad false 1 v4 h3 fun v5 =>
  aBuild [(.p (.int .i64 0)), (.full [])] [(0, 1, v5)] fun v6 =>
  aAlloc [(.p (.int .i64 0)), (.full [])] h3 fun v7 h8 =>
  aStore 2 v7 v6 h8 fun _ h10 =>
  aLoopN 1 [(.p (.int .i64 0))] h10 fun xs H B1 => runnellaw1_Of_L1 v0 v2 v7 (xs.getD 0 .top) H B1 K

def runnellaw1_Of_ann : Nat → List Nat := fun k => match k with | 3 => [4] | _ => []

theorem runnellaw1_Of_eq (x0 : AV) (H : List Ob) (r : AV) (Ho : List Ob) : aBody Try.prog runnellaw1_Of_ann Try.f44 H [x0] r Ho = runnellaw1_Of x0 H (fun v H' => Gives H.length v H' r Ho) := by kernel_rfl

theorem runnellaw1_Of_fn {x0 : AV} {r : AV} {Ho : List Ob} (h : runnellaw1_Of x0 [] (fun v H' => Gives 0 v H' r Ho)) : Abs.Fn Try.prog runnellaw1_Of_i [] [x0] r Ho :=
  fn_intro mixed runnellaw1_Of_ann (fn := Try.f44) (by kernel_rfl) (by kernel_rfl) (by rw [runnellaw1_Of_eq]; exact h)

/- runnel/runnelref6.SameType -/
def runnelref6_SameType_L1 (q1s2 q1s3 y0 : AV) (H : List Ob) (B1 : List AV → List Ob → Prop) (K : AV → List Ob → Prop) : Prop :=
  aFieldAddr 1 q1s2 fun v18 =>
  aLoad false 1 v18 H fun v19 =>
  aLen false false v19 fun v20 =>
  aBin false false .lss y0 v20 fun v21 =>
  aGuard v21
  (aFieldAddr 1 q1s2 fun v22 =>
  aLoad false 1 v22 H fun v23 =>
  aIndexAddr 2 v23 y0 fun v24 =>
  aLoad true 2 v24 H fun v25 =>
  aFieldAddr 1 q1s3 fun v26 =>
  aLoad false 1 v26 H fun v27 =>
  aIndexAddr 2 v27 y0 fun v28 =>
  aLoad true 2 v28 H fun v29 =>
  aCallT Try.prog (.p (.func runnelref6_SameType_i [])) [v25, v29] fun v30 =>
  aUn .not v30 fun v31 =>
  aGuard v31
  (K (.p (.bool false)) H)
  (aBin false false .add y0 (.p (.int .i64 1)) fun v32 =>
  B1 [v32] H))
  (K (.p (.bool true)) H)

def runnelref6_SameType (x0 x1 : AV) (H : List Ob) (K : AV → List Ob → Prop) : Prop :=
  aBox x0 H fun v0 h1 =>
  aBox x1 h1 fun v2 h3 =>
  aFieldAddr 0 v0 fun v4 =>
  aLoad false 1 v4 h3 fun v5 =>
  aFieldAddr 0 v2 fun v6 =>
  aLoad false 1 v6 h3 fun v7 =>
  aBin false false .neq v5 v7 fun v8 =>
  aMerge false v8 (fun Q9 =>
  aFieldAddr 1 v0 fun v10 =>
  aLoad false 1 v10 h3 fun v11 =>
  aLenS false v11 fun v12 =>
  aFieldAddr 1 v2 fun v13 =>
  aLoad false 1 v13 h3 fun v14 =>
  aLenS false v14 fun v15 =>
  aBin false false .neq v12 v15 fun v16 =>
  (h3 = h3 ∧ Q9 v16)) fun v17 =>
  aGuard v17
  (K (.p (.bool false)) h3)
  (aLoopN 1 [(.p (.int .i64 0))] h3 fun xs H B1 => runnelref6_SameType_L1 v0 v2 (xs.getD 0 .top) H B1 K)

def runnelref6_SameType_ann : Nat → List Nat := fun k => match k with | 4 => [5] | _ => []

theorem runnelref6_SameType_eq (x0 x1 : AV) (H : List Ob) (r : AV) (Ho : List Ob) : aBody Try.prog runnelref6_SameType_ann Try.f61 H [x0, x1] r Ho = runnelref6_SameType x0 x1 H (fun v H' => Gives H.length v H' r Ho) := by kernel_rfl

theorem runnelref6_SameType_fn {x0 x1 : AV} {r : AV} {Ho : List Ob} (h : runnelref6_SameType x0 x1 [] (fun v H' => Gives 0 v H' r Ho)) : Abs.Fn Try.prog runnelref6_SameType_i [] [x0, x1] r Ho :=
  fn_intro mixed runnelref6_SameType_ann (fn := Try.f61) (by kernel_rfl) (by kernel_rfl) (by rw [runnelref6_SameType_eq]; exact h)

/- runnel/runnellaw1.budget -/
def runnellaw1_budget_L1 (q1s1 q1s3 y0 y1 : AV) (H : List Ob) (B1 : List AV → List Ob → Prop) (K : AV → List Ob → Prop) : Prop :=
  aFieldAddr 1 q1s3 fun v13 =>
  aLoad false 1 v13 H fun v14 =>
  aLen false false v14 fun v15 =>
  aBin false false .lss y1 v15 fun v16 =>
  aMerge true v16 (fun Q17 =>
  aBin false false .gtr y0 (.p (.int .i64 0)) fun v18 =>
  (H = H ∧ Q17 v18)) fun v19 =>
  aGuard v19
  (aFieldAddr 1 q1s3 fun v20 =>
  aLoad false 1 v20 H fun v21 =>
  aIndexAddr 2 v21 y1 fun v22 =>
  aLoad true 2 v22 H fun v23 =>
  aBin false false .sub q1s1 (.p (.int .i64 1)) fun v24 =>
  aCall Try.prog (.p (.func runnellaw1_budget_i [])) [v23, v24, y0] H fun v25 h26 =>
  aBin false false .add y1 (.p (.int .i64 1)) fun v27 =>
  B1 [v25, v27] h26)
  (K y0 H)

def runnellaw1_budget (x0 x1 x2 : AV) (H : List Ob) (K : AV → List Ob → Prop) : Prop :=
  aBox x0 H fun v0 h1 =>
  aBin false false .leq x2 (.p (.int .i64 0)) fun v2 =>
  aMerge false v2 (fun Q3 =>
  aBin false false .leq x1 (.p (.int .i64 0)) fun v4 =>
  (h1 = h1 ∧ Q3 v4)) fun v5 =>
  aMerge false v5 (fun Q6 =>
  aFieldAddr 1 v0 fun v7 =>
  aLoad false 1 v7 h1 fun v8 =>
  aLenS false v8 fun v9 =>
  aBin false false .gtr v9 (.p (.int .i64 20)) fun v10 =>
  (h1 = h1 ∧ Q6 v10)) fun v11 =>
  aGuard v11
  (K (.p (.int .i64 0)) h1)
  (aBin false false .sub x2 (.p (.int .i64 1)) fun v12 =>
  aLoopN 2 [v12, (.p (.int .i64 0))] h1 fun xs H B1 => runnellaw1_budget_L1 x1 v0 (xs.getD 0 .top) (xs.getD 1 .top) H B1 K)

def runnellaw1_budget_ann : Nat → List Nat := fun k => match k with | 5 => [2, 7] | _ => []

theorem runnellaw1_budget_eq (x0 x1 x2 : AV) (H : List Ob) (r : AV) (Ho : List Ob) : aBody Try.prog runnellaw1_budget_ann Try.f72 H [x0, x1, x2] r Ho = runnellaw1_budget x0 x1 x2 H (fun v H' => Gives H.length v H' r Ho) := by kernel_rfl

theorem runnellaw1_budget_fn {x0 x1 x2 : AV} {r : AV} {Ho : List Ob} (h : runnellaw1_budget x0 x1 x2 [] (fun v H' => Gives 0 v H' r Ho)) : Abs.Fn Try.prog runnellaw1_budget_i [] [x0, x1, x2] r Ho :=
  fn_intro mixed runnellaw1_budget_ann (fn := Try.f72) (by kernel_rfl) (by kernel_rfl) (by rw [runnellaw1_budget_eq]; exact h)

/- runnel/runnelref6.checkType -/
def runnelref6_checkType_L1 (q1s1 q1s2 y0 : AV) (H : List Ob) (B1 : List AV → List Ob → Prop) (K : AV → List Ob → Prop) : Prop :=
  aFieldAddr 1 q1s2 fun v33 =>
  aLoad false 1 v33 H fun v34 =>
  aLen false false v34 fun v35 =>
  aBin false false .lss y0 v35 fun v36 =>
  aGuard v36
  (aFieldAddr 1 q1s2 fun v37 =>
  aLoad false 1 v37 H fun v38 =>
  aIndexAddr 2 v38 y0 fun v39 =>
  aLoad true 2 v39 H fun v40 =>
  aBin false false .add q1s1 (.p (.int .i64 1)) fun v41 =>
  aCall Try.prog (.p (.func runnelref6_checkType_i [])) [v40, v41] H fun v42 h43 =>
  aBin false false .neq v42 (.p (.int .i64 0)) fun v44 =>
  aGuard v44
  (K v42 h43)
  (aBin false false .add y0 (.p (.int .i64 1)) fun v45 =>
  B1 [v45] h43))
  (K (.p (.int .i64 0)) H)

def runnelref6_checkType (x0 x1 : AV) (H : List Ob) (K : AV → List Ob → Prop) : Prop :=
  aBox x0 H fun v0 h1 =>
  aFieldAddr 0 v0 fun v2 =>
  aLoad false 1 v2 h1 fun v3 =>
  aBin false false .lss v3 (.p (.int .i64 1)) fun v4 =>
  aMerge false v4 (fun Q5 =>
  aFieldAddr 0 v0 fun v6 =>
  aLoad false 1 v6 h1 fun v7 =>
  aBin false false .gtr v7 (.p (.int .i64 4)) fun v8 =>
  (h1 = h1 ∧ Q5 v8)) fun v9 =>
  aMerge false v9 (fun Q10 =>
  aFieldAddr 0 v0 fun v11 =>
  aLoad false 1 v11 h1 fun v12 =>
  aBin false false .neq v12 (.p (.int .i64 4)) fun v13 =>
  aMerge true v13 (fun Q14 =>
  aFieldAddr 1 v0 fun v15 =>
  aLoad false 1 v15 h1 fun v16 =>
  aLenS false v16 fun v17 =>
  aBin false false .gtr v17 (.p (.int .i64 0)) fun v18 =>
  (h1 = h1 ∧ Q14 v18)) fun v19 =>
  (h1 = h1 ∧ Q10 v19)) fun v20 =>
  aGuard v20
  (K (.p (.int .i64 5)) h1)
  (aFieldAddr 0 v0 fun v21 =>
  aLoad false 1 v21 h1 fun v22 =>
  aBin false false .neq v22 (.p (.int .i64 4)) fun v23 =>
  aGuard v23
  (K (.p (.int .i64 0)) h1)
  (aFieldAddr 1 v0 fun v24 =>
  aLoad false 1 v24 h1 fun v25 =>
  aLen false false v25 fun v26 =>
  aBin false false .eql v26 (.p (.int .i64 0)) fun v27 =>
  aGuard v27
  (K (.p (.int .i64 1)) h1)
  (aFieldAddr 1 v0 fun v28 =>
  aLoad false 1 v28 h1 fun v29 =>
  aLen false false v29 fun v30 =>
  aBin false false .gtr v30 (.p (.int .i64 8)) fun v31 =>
  aGuard v31
  (K (.p (.int .i64 10)) h1)
  (aBin false false .gtr x1 (.p (.int .i64 4)) fun v32 =>
  aGuard v32
  (K (.p (.int .i64 9)) h1)
  (aLoopN 1 [(.p (.int .i64 0))] h1 fun xs H B1 => runnelref6_checkType_L1 x1 v0 (xs.getD 0 .top) H B1 K)))))

def runnelref6_checkType_ann : Nat → List Nat := fun k => match k with | 12 => [5] | _ => []

theorem runnelref6_checkType_eq (x0 x1 : AV) (H : List Ob) (r : AV) (Ho : List Ob) : aBody Try.prog runnelref6_checkType_ann Try.f73 H [x0, x1] r Ho = runnelref6_checkType x0 x1 H (fun v H' => Gives H.length v H' r Ho) := by kernel_rfl

theorem runnelref6_checkType_fn {x0 x1 : AV} {r : AV} {Ho : List Ob} (h : runnelref6_checkType x0 x1 [] (fun v H' => Gives 0 v H' r Ho)) : Abs.Fn Try.prog runnelref6_checkType_i [] [x0, x1] r Ho :=
  fn_intro mixed runnelref6_checkType_ann (fn := Try.f73) (by kernel_rfl) (by kernel_rfl) (by rw [runnelref6_checkType_eq]; exact h)

/- runnel/typ.Check -/
def typ_Check (x0 : AV) (H : List Ob) (K : AV → List Ob → Prop) : Prop :=
  aBox x0 H fun v0 h1 =>
  aLoad true 2 v0 h1 fun v2 =>
  aCall Try.prog (.p (.func typ_check_i [])) [v2, (.p (.int .i64 0))] h1 fun v3 h4 =>
  K v3 h4

def typ_Check_ann : Nat → List Nat := fun _ => []

theorem typ_Check_eq (x0 : AV) (H : List Ob) (r : AV) (Ho : List Ob) : aBody Try.prog typ_Check_ann Try.f74 H [x0] r Ho = typ_Check x0 H (fun v H' => Gives H.length v H' r Ho) := by kernel_rfl

theorem typ_Check_fn {x0 : AV} {r : AV} {Ho : List Ob} (h : typ_Check x0 [] (fun v H' => Gives 0 v H' r Ho)) : Abs.Fn Try.prog typ_Check_i [] [x0] r Ho :=
  fn_intro mixed typ_Check_ann (fn := Try.f74) (by kernel_rfl) (by kernel_rfl) (by rw [typ_Check_eq]; exact h)

/- runnel/typ.Text -/
def typ_Text_L1 (q1s13 q1s14 y0 y1 : AV) (H : List Ob) (B1 : List AV → List Ob → Prop) (K : AV → List Ob → Prop) : Prop :=
  aBin false false .lss y1 q1s14 fun v12 =>
  aGuard v12
  (aIndexAddr 2 q1s13 y1 fun v13 =>
  aLoad true 2 v13 H fun v14 =>
  aAlloc [(.p (.int .i64 0)), (.full [])] H fun v15 h16 =>
  aStore 2 v15 v14 h16 fun _ h18 =>
  aLoad true 2 v15 h18 fun v19 =>
  aCall Try.prog (.p (.func typ_Text_i [])) [v19] h18 fun v20 h21 =>
  aBuildSlice 1 [v20] fun v22 =>
  aAppend false 1 16 y0 v22 h21 fun v23 h24 =>
  aBin false false .add y1 (.p (.int .i64 1)) fun v25 =>
  B1 [v23, v25] h24)
  (aCall Try.prog (.p (.func strings_Join_i [])) [y0, (.p (.str [44]))] H fun v26 h27 =>
  aBin false false .add (.p (.str [40])) v26 fun v28 =>
  aBin false false .add v28 (.p (.str [41])) fun v29 =>
  K v29 h27)

def typ_Text (x0 : AV) (H : List Ob) (K : AV → List Ob → Prop) : Prop :=
  aBox x0 H fun v0 h1 =>
  aFieldAddr 0 v0 fun v2 =>
  aLoad false 1 v2 h1 fun v3 =>
  aBin false false .neq v3 (.p (.int .i64 4)) fun v4 =>
  aGuard v4
  (aFieldAddr 0 v0 fun v5 =>
  aLoad false 1 v5 h1 fun v6 =>
  aCall Try.prog (.p (.func typ_word_i [])) [v6] h1 fun v7 h8 =>
  K v7 h8)
  (aFieldAddr 1 v0 fun v9 =>
  aLoad false 1 v9 h1 fun v10 =>
  aLen false false v10 fun v11 =>
  aLoopN 2 [(.full []), (.p (.int .i64 0))] h1 fun xs H B1 => typ_Text_L1 v10 v11 (xs.getD 0 .top) (xs.getD 1 .top) H B1 K)

def typ_Text_ann : Nat → List Nat := fun k => match k with | 5 => [3, 15] | _ => []

theorem typ_Text_eq (x0 : AV) (H : List Ob) (r : AV) (Ho : List Ob) : aBody Try.prog typ_Text_ann Try.f77 H [x0] r Ho = typ_Text x0 H (fun v H' => Gives H.length v H' r Ho) := by kernel_rfl

theorem typ_Text_fn {x0 : AV} {r : AV} {Ho : List Ob} (h : typ_Text x0 [] (fun v H' => Gives 0 v H' r Ho)) : Abs.Fn Try.prog typ_Text_i [] [x0] r Ho :=
  fn_intro mixed typ_Text_ann (fn := Try.f77) (by kernel_rfl) (by kernel_rfl) (by rw [typ_Text_eq]; exact h)

/- runnel/typ.Row -/
def typ_Row (x0 x1 : AV) (H : List Ob) (K : AV → List Ob → Prop) : Prop :=
  aBin false false .eql x0 (.p (.int .i64 0)) fun v0 =>
  aGuard v0
  (K (.p (.int .i64 1)) H)
  (aBin false false .gtr x0 (.p (.int .i64 8)) fun v1 =>
  aGuard v1
  (K (.p (.int .i64 10)) H)
  (aBin false false .gtr x1 (.p (.int .i64 4)) fun v2 =>
  aGuard v2
  (K (.p (.int .i64 9)) H)
  (K (.p (.int .i64 0)) H)))

def typ_Row_ann : Nat → List Nat := fun _ => []

theorem typ_Row_eq (x0 x1 : AV) (H : List Ob) (r : AV) (Ho : List Ob) : aBody Try.prog typ_Row_ann Try.f109 H [x0, x1] r Ho = typ_Row x0 x1 H (fun v H' => Gives H.length v H' r Ho) := by kernel_rfl

theorem typ_Row_fn {x0 x1 : AV} {r : AV} {Ho : List Ob} (h : typ_Row x0 x1 [] (fun v H' => Gives 0 v H' r Ho)) : Abs.Fn Try.prog typ_Row_i [] [x0, x1] r Ho :=
  fn_intro mixed typ_Row_ann (fn := Try.f109) (by kernel_rfl) (by kernel_rfl) (by rw [typ_Row_eq]; exact h)

/- runnel/typ.check -/
def typ_check (x0 x1 : AV) (H : List Ob) (K : AV → List Ob → Prop) : Prop :=
  aBox x0 H fun v0 h1 =>
  aBox x1 h1 fun v2 h3 =>
  aFieldAddr 0 v0 fun v4 =>
  aLoad false 1 v4 h3 fun v5 =>
  aBin false false .eql v5 (.p (.int .i64 1)) fun v6 =>
  aMerge false v6 (fun Q7 =>
  aBin false false .eql v5 (.p (.int .i64 2)) fun v8 =>
  aMerge false v8 (fun Q9 =>
  aBin false false .eql v5 (.p (.int .i64 3)) fun v10 =>
  (h3 = h3 ∧ Q9 v10)) fun v11 =>
  (h3 = h3 ∧ Q7 v11)) fun v12 =>
  aGuard v12
  (aFieldAddr 1 v0 fun v13 =>
  aLoad false 1 v13 h3 fun v14 =>
  aLen false false v14 fun v15 =>
  aBin false false .gtr v15 (.p (.int .i64 0)) fun v16 =>
  aGuard v16
  (K (.p (.int .i64 5)) h3)
  (K (.p (.int .i64 0)) h3))
  (aBin false false .eql v5 (.p (.int .i64 4)) fun v17 =>
  aGuard v17
  (aFieldAddr 1 v0 fun v18 =>
  aLoad false 1 v18 h3 fun v19 =>
  aLen false false v19 fun v20 =>
  aLoad false 1 v2 h3 fun v21 =>
  aCall Try.prog (.p (.func typ_Row_i [])) [v20, v21] h3 fun v22 h23 =>
  aBin false false .neq v22 (.p (.int .i64 0)) fun v24 =>
  aGuard v24
  (K v22 h23)
  (aFieldAddr 1 v0 fun v25 =>
  aLoad false 1 v25 h23 fun v26 =>
  aMakeFunc typ_check_1_i [v2] h23 fun v27 h28 =>
  aCall Try.prog (.p (.func typ_each_typ_Type_i [])) [v26, v27] h28 fun v29 h30 =>
  K v29 h30))
  (K (.p (.int .i64 5)) h3))

def typ_check_ann : Nat → List Nat := fun k => match k with | 1000004 => [1] | 1000003 => [1] | _ => []

theorem typ_check_eq (x0 x1 : AV) (H : List Ob) (r : AV) (Ho : List Ob) : aBody Try.prog typ_check_ann Try.f110 H [x0, x1] r Ho = typ_check x0 x1 H (fun v H' => Gives H.length v H' r Ho) := by kernel_rfl

theorem typ_check_fn {x0 x1 : AV} {r : AV} {Ho : List Ob} (h : typ_check x0 x1 [] (fun v H' => Gives 0 v H' r Ho)) : Abs.Fn Try.prog typ_check_i [] [x0, x1] r Ho :=
  fn_intro mixed typ_check_ann (fn := Try.f110) (by kernel_rfl) (by kernel_rfl) (by rw [typ_check_eq]; exact h)

/- slices.Clip[[]runnel/typ.Type,runnel/typ.Type] -/
def slices_Clip_typ_Type_typ_Type (x0 : AV) (H : List Ob) (K : AV → List Ob → Prop) : Prop :=
  aLen false false x0 fun v0 =>
  aLen false false x0 fun v1 =>
  aSlice false 2 x0 none (some v0) (some v1) fun v2 =>
  K v2 H

def slices_Clip_typ_Type_typ_Type_ann : Nat → List Nat := fun _ => []

theorem slices_Clip_typ_Type_typ_Type_eq (x0 : AV) (H : List Ob) (r : AV) (Ho : List Ob) : aBody Try.prog slices_Clip_typ_Type_typ_Type_ann Try.f117 H [x0] r Ho = slices_Clip_typ_Type_typ_Type x0 H (fun v H' => Gives H.length v H' r Ho) := by kernel_rfl

theorem slices_Clip_typ_Type_typ_Type_fn {x0 : AV} {r : AV} {Ho : List Ob} (h : slices_Clip_typ_Type_typ_Type x0 [] (fun v H' => Gives 0 v H' r Ho)) : Abs.Fn Try.prog slices_Clip_typ_Type_typ_Type_i [] [x0] r Ho :=
  fn_intro mixed slices_Clip_typ_Type_typ_Type_ann (fn := Try.f117) (by kernel_rfl) (by kernel_rfl) (by rw [slices_Clip_typ_Type_typ_Type_eq]; exact h)

/- runnel/typ.word -/
def typ_word (x0 : AV) (H : List Ob) (K : AV → List Ob → Prop) : Prop :=
  aBin false false .eql x0 (.p (.int .i64 1)) fun v0 =>
  aGuard v0
  (K (.p (.str [105, 110, 116])) H)
  (aBin false false .eql x0 (.p (.int .i64 2)) fun v1 =>
  aGuard v1
  (K (.p (.str [98, 111, 111, 108])) H)
  (aBin false false .eql x0 (.p (.int .i64 3)) fun v2 =>
  aGuard v2
  (K (.p (.str [116, 101, 120, 116])) H)
  (K (.p (.str [])) H)))

def typ_word_ann : Nat → List Nat := fun _ => []

theorem typ_word_eq (x0 : AV) (H : List Ob) (r : AV) (Ho : List Ob) : aBody Try.prog typ_word_ann Try.f118 H [x0] r Ho = typ_word x0 H (fun v H' => Gives H.length v H' r Ho) := by kernel_rfl

theorem typ_word_fn {x0 : AV} {r : AV} {Ho : List Ob} (h : typ_word x0 [] (fun v H' => Gives 0 v H' r Ho)) : Abs.Fn Try.prog typ_word_i [] [x0] r Ho :=
  fn_intro mixed typ_word_ann (fn := Try.f118) (by kernel_rfl) (by kernel_rfl) (by rw [typ_word_eq]; exact h)

/- runnel/typ.each[runnel/typ.Type] -/
def typ_each_typ_Type_L1 (q1s1 q1s8 q1s9 y0 : AV) (H : List Ob) (B1 : List AV → List Ob → Prop) (K : AV → List Ob → Prop) : Prop :=
  aBin false false .lss y0 q1s9 fun v1 =>
  aGuard v1
  (aIndexAddr 2 q1s8 y0 fun v2 =>
  aLoad true 2 v2 H fun v3 =>
  aAlloc [(.p (.int .i64 0)), (.full [])] H fun v4 h5 =>
  aStore 2 v4 v3 h5 fun _ h7 =>
  aLoad true 2 v4 h7 fun v8 =>
  aCall Try.prog q1s1 [v8] h7 fun v9 h10 =>
  aBin false false .neq v9 (.p (.int .i64 0)) fun v11 =>
  aGuard v11
  (K v9 h10)
  (aBin false false .add y0 (.p (.int .i64 1)) fun v12 =>
  B1 [v12] h10))
  (K (.p (.int .i64 0)) H)

def typ_each_typ_Type (x0 x1 : AV) (H : List Ob) (K : AV → List Ob → Prop) : Prop :=
  aLen false false x0 fun v0 =>
  aLoopN 1 [(.p (.int .i64 0))] H fun xs H B1 => typ_each_typ_Type_L1 x1 x0 v0 (xs.getD 0 .top) H B1 K

def typ_each_typ_Type_ann : Nat → List Nat := fun k => match k with | 2 => [10] | _ => []

theorem typ_each_typ_Type_eq (x0 x1 : AV) (H : List Ob) (r : AV) (Ho : List Ob) : aBody Try.prog typ_each_typ_Type_ann Try.f145 H [x0, x1] r Ho = typ_each_typ_Type x0 x1 H (fun v H' => Gives H.length v H' r Ho) := by kernel_rfl

theorem typ_each_typ_Type_fn {x0 x1 : AV} {r : AV} {Ho : List Ob} (h : typ_each_typ_Type x0 x1 [] (fun v H' => Gives 0 v H' r Ho)) : Abs.Fn Try.prog typ_each_typ_Type_i [] [x0, x1] r Ho :=
  fn_intro mixed typ_each_typ_Type_ann (fn := Try.f145) (by kernel_rfl) (by kernel_rfl) (by rw [typ_each_typ_Type_eq]; exact h)

/- runnel/typ.check$1 -/
def typ_check_1 (x0 x1 : AV) (H : List Ob) (K : AV → List Ob → Prop) : Prop :=
  aBox x0 H fun v0 h1 =>
  aLoad true 2 v0 h1 fun v2 =>
  aLoad false 1 x1 h1 fun v3 =>
  aBin false false .add v3 (.p (.int .i64 1)) fun v4 =>
  aCall Try.prog (.p (.func typ_check_i [])) [v2, v4] h1 fun v5 h6 =>
  K v5 h6

def typ_check_1_ann : Nat → List Nat := fun _ => []

theorem typ_check_1_eq (x0 x1 : AV) (H : List Ob) (r : AV) (Ho : List Ob) : aBody Try.prog typ_check_1_ann Try.f146 H [x0, x1] r Ho = typ_check_1 x0 x1 H (fun v H' => Gives H.length v H' r Ho) := by kernel_rfl

theorem typ_check_1_fn {x0 x1 : AV} {r : AV} {Ho : List Ob} (h : typ_check_1 x0 x1 [] (fun v H' => Gives 0 v H' r Ho)) : Abs.Fn Try.prog typ_check_1_i [] [x0, x1] r Ho :=
  fn_intro mixed typ_check_1_ann (fn := Try.f146) (by kernel_rfl) (by kernel_rfl) (by rw [typ_check_1_eq]; exact h)

/- runnel/typ.Same -/
def typ_Same (x0 x1 : AV) (H : List Ob) (K : AV → List Ob → Prop) : Prop :=
  aBox x0 H fun v0 h1 =>
  aBox x1 h1 fun v2 h3 =>
  aFieldAddr 0 v0 fun v4 =>
  aLoad false 1 v4 h3 fun v5 =>
  aFieldAddr 0 v2 fun v6 =>
  aLoad false 1 v6 h3 fun v7 =>
  aBin false false .eql v5 v7 fun v8 =>
  aMerge true v8 (fun Q9 =>
  aFieldAddr 1 v0 fun v10 =>
  aLoad false 1 v10 h3 fun v11 =>
  aFieldAddr 1 v2 fun v12 =>
  aLoad false 1 v12 h3 fun v13 =>
  aCall Try.prog (.p (.func slices_EqualFunc_typ_Type_typ_Type_typ_Type_typ_Type_i [])) [v11, v13, (.p (.func typ_Same_i []))] h3 fun v14 h15 =>
  (h15 = h3 ∧ Q9 v14)) fun v16 =>
  K v16 h3

def typ_Same_ann : Nat → List Nat := fun _ => []

theorem typ_Same_eq (x0 x1 : AV) (H : List Ob) (r : AV) (Ho : List Ob) : aBody Try.prog typ_Same_ann Try.f149 H [x0, x1] r Ho = typ_Same x0 x1 H (fun v H' => Gives H.length v H' r Ho) := by kernel_rfl

theorem typ_Same_fn {x0 x1 : AV} {r : AV} {Ho : List Ob} (h : typ_Same x0 x1 [] (fun v H' => Gives 0 v H' r Ho)) : Abs.Fn Try.prog typ_Same_i [] [x0, x1] r Ho :=
  fn_intro mixed typ_Same_ann (fn := Try.f149) (by kernel_rfl) (by kernel_rfl) (by rw [typ_Same_eq]; exact h)

/- slices.EqualFunc[[]runnel/typ.Type,[]runnel/typ.Type,runnel/typ.Type,runnel/typ.Type] -/
def slices_EqualFunc_typ_Type_typ_Type_typ_Type_typ_Type_L1 (q1s1 q1s2 q1s15 q1s16 y0 : AV) (H : List Ob) (B1 : List AV → List Ob → Prop) (K : AV → List Ob → Prop) : Prop :=
  aBin false false .lss y0 q1s16 fun v4 =>
  aGuard v4
  (aIndexAddr 2 q1s15 y0 fun v5 =>
  aLoad true 2 v5 H fun v6 =>
  aAlloc [(.p (.int .i64 0)), (.full [])] H fun v7 h8 =>
  aStore 2 v7 v6 h8 fun _ h10 =>
  aIndexAddr 2 q1s1 y0 fun v11 =>
  aLoad true 2 v11 h10 fun v12 =>
  aAlloc [(.p (.int .i64 0)), (.full [])] h10 fun v13 h14 =>
  aStore 2 v13 v12 h14 fun _ h16 =>
  aLoad true 2 v7 h16 fun v17 =>
  aLoad true 2 v13 h16 fun v18 =>
  aCall Try.prog q1s2 [v17, v18] h16 fun v19 h20 =>
  aUn .not v19 fun v21 =>
  aGuard v21
  (K (.p (.bool false)) h20)
  (aBin false false .add y0 (.p (.int .i64 1)) fun v22 =>
  B1 [v22] h20))
  (K (.p (.bool true)) H)

def slices_EqualFunc_typ_Type_typ_Type_typ_Type_typ_Type (x0 x1 x2 : AV) (H : List Ob) (K : AV → List Ob → Prop) : Prop :=
  aLen false false x0 fun v0 =>
  aLen false false x1 fun v1 =>
  aBin false false .neq v0 v1 fun v2 =>
  aGuard v2
  (K (.p (.bool false)) H)
  (aLen false false x0 fun v3 =>
  aLoopN 1 [(.p (.int .i64 0))] H fun xs H B1 => slices_EqualFunc_typ_Type_typ_Type_typ_Type_typ_Type_L1 x1 x2 x0 v3 (xs.getD 0 .top) H B1 K)

def slices_EqualFunc_typ_Type_typ_Type_typ_Type_typ_Type_ann : Nat → List Nat := fun k => match k with | 4 => [17] | _ => []

theorem slices_EqualFunc_typ_Type_typ_Type_typ_Type_typ_Type_eq (x0 x1 x2 : AV) (H : List Ob) (r : AV) (Ho : List Ob) : aBody Try.prog slices_EqualFunc_typ_Type_typ_Type_typ_Type_typ_Type_ann Try.f158 H [x0, x1, x2] r Ho = slices_EqualFunc_typ_Type_typ_Type_typ_Type_typ_Type x0 x1 x2 H (fun v H' => Gives H.length v H' r Ho) := by kernel_rfl

theorem slices_EqualFunc_typ_Type_typ_Type_typ_Type_typ_Type_fn {x0 x1 x2 : AV} {r : AV} {Ho : List Ob} (h : slices_EqualFunc_typ_Type_typ_Type_typ_Type_typ_Type x0 x1 x2 [] (fun v H' => Gives 0 v H' r Ho)) : Abs.Fn Try.prog slices_EqualFunc_typ_Type_typ_Type_typ_Type_typ_Type_i [] [x0, x1, x2] r Ho :=
  fn_intro mixed slices_EqualFunc_typ_Type_typ_Type_typ_Type_typ_Type_ann (fn := Try.f158) (by kernel_rfl) (by kernel_rfl) (by rw [slices_EqualFunc_typ_Type_typ_Type_typ_Type_typ_Type_eq]; exact h)

end Go.Proofs.Ytiejfphchpcldaa
