/- Made by program (Gen.lean): functions of the dump, over trees. -/
import Derived.Test.YtiejfphchpcldaaShIds
set_option maxRecDepth 4000
set_option linter.unusedVariables false
namespace Go.Proofs.Ytiejfphchpcldaa
open Go Go.Abs

/- runnel/runnellaw2.Good -/
def runnellaw2_Good (x0 : AV) (H : List Ob) (K : AV → List Ob → Prop) : Prop :=
  aBox x0 H fun v0 h1 =>
  aLoad true 5 v0 h1 fun v2 =>
  aCall Try.prog (.p (.func runnellaw2_Few_i [])) [v2] h1 fun v3 h4 =>
  aMerge true v3 (fun Q5 =>
  aLoad true 5 v0 h4 fun v6 =>
  aCall Try.prog (.p (.func runnellaw2_Of_i [])) [v6] h4 fun v7 h8 =>
  aCall Try.prog (.p (.func runnelref6_CheckValue_i [])) [v7] h8 fun v9 h10 =>
  aBin false false .eql v9 (.p (.int .i64 0)) fun v11 =>
  (h10 = h4 ∧ Q5 v11)) fun v12 =>
  K v12 h4

def runnellaw2_Good_ann : Nat → List Nat := fun _ => []

theorem runnellaw2_Good_eq (x0 : AV) (H : List Ob) (r : AV) (Ho : List Ob) : aBody Try.prog runnellaw2_Good_ann Try.f18 H [x0] r Ho = runnellaw2_Good x0 H (fun v H' => Gives H.length v H' r Ho) := by kernel_rfl

theorem runnellaw2_Good_fn {x0 : AV} {r : AV} {Ho : List Ob} (h : runnellaw2_Good x0 [] (fun v H' => Gives 0 v H' r Ho)) : Abs.Fn Try.prog runnellaw2_Good_i [] [x0] r Ho :=
  fn_intro mixed runnellaw2_Good_ann (fn := Try.f18) (by kernel_rfl) (by kernel_rfl) (by rw [runnellaw2_Good_eq]; exact h)

/- runnel/runnelref6.TypeOf -/
def runnelref6_TypeOf_L1 (q1s1 q1s2 q1s3 y0 : AV) (H : List Ob) (B1 : List AV → List Ob → Prop) (K : AV → List Ob → Prop) : Prop :=
  aFieldAddr 4 q1s1 fun v11 =>
  aLoad false 1 v11 H fun v12 =>
  aLen false false v12 fun v13 =>
  aBin false false .lss y0 v13 fun v14 =>
  aGuard v14
  (aFieldAddr 1 q1s3 fun v15 =>
  aLoad false 1 v15 H fun v16 =>
  aFieldAddr 4 q1s1 fun v17 =>
  aLoad false 1 v17 H fun v18 =>
  aIndexAddr 5 v18 y0 fun v19 =>
  aLoad true 5 v19 H fun v20 =>
  aCallT Try.prog (.p (.func runnelref6_TypeOf_i [])) [v20] fun v21 =>
  aBuildSlice 2 [v21] fun v22 =>
  aCalm [v16, v22] <|
  aAppend false 2 32 v16 v22 H fun v23 h24 =>
  aFieldAddr 1 q1s3 fun v25 =>
  aStore 1 v25 v23 h24 fun _ h27 =>
  aBin false false .add y0 (.p (.int .i64 1)) fun v28 =>
  B1 [v28] h27)
  (aLoad true 2 q1s3 H fun v29 =>
  aStore 2 q1s2 v29 H fun _ h31 =>
  aLoad true 2 q1s2 h31 fun v32 =>
  K v32 h31)

def runnelref6_TypeOf (x0 : AV) (H : List Ob) (K : AV → List Ob → Prop) : Prop :=
  aBox x0 H fun v0 h1 =>
  aAlloc [(.p (.int .i64 0)), (.full [])] h1 fun v2 h3 =>
  aFieldAddr 0 v0 fun v4 =>
  aLoad false 1 v4 h3 fun v5 =>
  aBuild [(.p (.int .i64 0)), (.full [])] [(0, 1, v5)] fun v6 =>
  aAlloc [(.p (.int .i64 0)), (.full [])] h3 fun v7 h8 =>
  aStore 2 v7 v6 h8 fun _ h10 =>
  aLoopN 1 [(.p (.int .i64 0))] h10 fun xs H B1 => runnelref6_TypeOf_L1 v0 v2 v7 (xs.getD 0 .top) H B1 K

def runnelref6_TypeOf_ann : Nat → List Nat := fun k => match k with | 3 => [4] | _ => []

theorem runnelref6_TypeOf_eq (x0 : AV) (H : List Ob) (r : AV) (Ho : List Ob) : aBody Try.prog runnelref6_TypeOf_ann Try.f21 H [x0] r Ho = runnelref6_TypeOf x0 H (fun v H' => Gives H.length v H' r Ho) := by kernel_rfl

theorem runnelref6_TypeOf_fn {x0 : AV} {r : AV} {Ho : List Ob} (h : runnelref6_TypeOf x0 [] (fun v H' => Gives 0 v H' r Ho)) : Abs.Fn Try.prog runnelref6_TypeOf_i [] [x0] r Ho :=
  fn_intro mixed runnelref6_TypeOf_ann (fn := Try.f21) (by kernel_rfl) (by kernel_rfl) (by rw [runnelref6_TypeOf_eq]; exact h)

/- runnel/runnellaw2.Of -/
def runnellaw2_Of_L1 (q1s1 q1s2 q1s3 y0 : AV) (H : List Ob) (B1 : List AV → List Ob → Prop) (K : AV → List Ob → Prop) : Prop :=
  aFieldAddr 4 q1s1 fun v17 =>
  aLoad false 1 v17 H fun v18 =>
  aLen false false v18 fun v19 =>
  aBin false false .lss y0 v19 fun v20 =>
  aGuard v20
  (aFieldAddr 4 q1s3 fun v21 =>
  aLoad false 1 v21 H fun v22 =>
  aFieldAddr 4 q1s1 fun v23 =>
  aLoad false 1 v23 H fun v24 =>
  aIndexAddr 5 v24 y0 fun v25 =>
  aLoad true 5 v25 H fun v26 =>
  aCallT Try.prog (.p (.func runnellaw2_Of_i [])) [v26] fun v27 =>
  aBuildSlice 5 [v27] fun v28 =>
  aCalm [v22, v28] <|
  aAppend false 5 64 v22 v28 H fun v29 h30 =>
  aFieldAddr 4 q1s3 fun v31 =>
  aStore 1 v31 v29 h30 fun _ h33 =>
  aBin false false .add y0 (.p (.int .i64 1)) fun v34 =>
  B1 [v34] h33)
  (aLoad true 5 q1s3 H fun v35 =>
  aStore 5 q1s2 v35 H fun _ h37 =>
  aLoad true 5 q1s2 h37 fun v38 =>
  K v38 h37)

def runnellaw2_Of (x0 : AV) (H : List Ob) (K : AV → List Ob → Prop) : Prop :=
  aBox x0 H fun v0 h1 =>
  aAlloc [(.p (.int .i64 0)), (.p (.int .i64 0)), (.p (.bool false)), (.p (.str [])), (.full [])] h1 fun v2 h3 =>
  aFieldAddr 0 v0 fun v4 =>
  aLoad false 1 v4 h3 fun v5 =>
  aFieldAddr 1 v0 fun v6 =>
  aLoad false 1 v6 h3 fun v7 =>
  aFieldAddr 2 v0 fun v8 =>
  aLoad false 1 v8 h3 fun v9 =>
  aFieldAddr 3 v0 fun v10 =>
  aLoad false 1 v10 h3 fun v11 =>
  aBuild [(.p (.int .i64 0)), (.p (.int .i64 0)), (.p (.bool false)), (.p (.str [])), (.full [])] [(0, 1, v5), (1, 1, v7), (2, 1, v9), (3, 1, v11)] fun v12 =>
  aAlloc [(.p (.int .i64 0)), (.p (.int .i64 0)), (.p (.bool false)), (.p (.str [])), (.full [])] h3 fun v13 h14 =>
  aStore 5 v13 v12 h14 fun _ h16 =>
  aLoopN 1 [(.p (.int .i64 0))] h16 fun xs H B1 => runnellaw2_Of_L1 v0 v2 v13 (xs.getD 0 .top) H B1 K

def runnellaw2_Of_ann : Nat → List Nat := fun k => match k with | 3 => [4] | _ => []

theorem runnellaw2_Of_eq (x0 : AV) (H : List Ob) (r : AV) (Ho : List Ob) : aBody Try.prog runnellaw2_Of_ann Try.f22 H [x0] r Ho = runnellaw2_Of x0 H (fun v H' => Gives H.length v H' r Ho) := by kernel_rfl

theorem runnellaw2_Of_fn {x0 : AV} {r : AV} {Ho : List Ob} (h : runnellaw2_Of x0 [] (fun v H' => Gives 0 v H' r Ho)) : Abs.Fn Try.prog runnellaw2_Of_i [] [x0] r Ho :=
  fn_intro mixed runnellaw2_Of_ann (fn := Try.f22) (by kernel_rfl) (by kernel_rfl) (by rw [runnellaw2_Of_eq]; exact h)

/- runnel/runnelref6.Same -/
def runnelref6_Same (x0 x1 : AV) (H : List Ob) (K : AV → List Ob → Prop) : Prop :=
  aBox x0 H fun v0 h1 =>
  aBox x1 h1 fun v2 h3 =>
  aLoad true 5 v0 h3 fun v4 =>
  aLoad true 5 v2 h3 fun v5 =>
  aCall Try.prog (.p (.func runnelref6_Compare_i [])) [v4, v5] h3 fun v6 h7 =>
  aBin false false .eql v6 (.p (.int .i64 0)) fun v8 =>
  K v8 h7

def runnelref6_Same_ann : Nat → List Nat := fun _ => []

theorem runnelref6_Same_eq (x0 x1 : AV) (H : List Ob) (r : AV) (Ho : List Ob) : aBody Try.prog runnelref6_Same_ann Try.f25 H [x0, x1] r Ho = runnelref6_Same x0 x1 H (fun v H' => Gives H.length v H' r Ho) := by kernel_rfl

theorem runnelref6_Same_fn {x0 x1 : AV} {r : AV} {Ho : List Ob} (h : runnelref6_Same x0 x1 [] (fun v H' => Gives 0 v H' r Ho)) : Abs.Fn Try.prog runnelref6_Same_i [] [x0, x1] r Ho :=
  fn_intro mixed runnelref6_Same_ann (fn := Try.f25) (by kernel_rfl) (by kernel_rfl) (by rw [runnelref6_Same_eq]; exact h)

/- runnel/runnelref6.Is -/
def runnelref6_Is (x0 x1 : AV) (H : List Ob) (K : AV → List Ob → Prop) : Prop :=
  aBox x0 H fun v0 h1 =>
  aBox x1 h1 fun v2 h3 =>
  aLoad true 5 v0 h3 fun v4 =>
  aCallT Try.prog (.p (.func runnelref6_CheckValue_i [])) [v4] fun v5 =>
  aBin false false .eql v5 (.p (.int .i64 0)) fun v6 =>
  aGuard v6
  (aLoad true 5 v0 h3 fun v7 =>
  aCallT Try.prog (.p (.func runnelref6_TypeOf_i [])) [v7] fun v8 =>
  aLoad true 2 v2 h3 fun v9 =>
  aCallT Try.prog (.p (.func runnelref6_SameType_i [])) [v8, v9] fun v10 =>
  K v10 h3)
  (K (.p (.bool false)) h3)

def runnelref6_Is_ann : Nat → List Nat := fun _ => []

theorem runnelref6_Is_eq (x0 x1 : AV) (H : List Ob) (r : AV) (Ho : List Ob) : aBody Try.prog runnelref6_Is_ann Try.f26 H [x0, x1] r Ho = runnelref6_Is x0 x1 H (fun v H' => Gives H.length v H' r Ho) := by kernel_rfl

theorem runnelref6_Is_fn {x0 x1 : AV} {r : AV} {Ho : List Ob} (h : runnelref6_Is x0 x1 [] (fun v H' => Gives 0 v H' r Ho)) : Abs.Fn Try.prog runnelref6_Is_i [] [x0, x1] r Ho :=
  fn_intro mixed runnelref6_Is_ann (fn := Try.f26) (by kernel_rfl) (by kernel_rfl) (by rw [runnelref6_Is_eq]; exact h)

/- runnel/val.Tup -/
def val_Tup (x0 : AV) (H : List Ob) (K : AV → List Ob → Prop) : Prop :=
  aAlloc [(.p (.int .i64 0)), (.p (.int .i64 0)), (.p (.bool false)), (.p (.str [])), (.full [])] H fun v0 h1 =>
  aCall Try.prog (.p (.func slices_Clone_val_Value_val_Value_i [])) [x0] h1 fun v2 h3 =>
  aCall Try.prog (.p (.func slices_Clip_val_Value_val_Value_i [])) [v2] h3 fun v4 h5 =>
  aBuild [(.p (.int .i64 0)), (.p (.int .i64 0)), (.p (.bool false)), (.p (.str [])), (.full [])] [(0, 1, (.p (.int .i64 4))), (4, 1, v4)] fun v6 =>
  aStore 5 v0 v6 h5 fun _ h8 =>
  aLoad true 5 v0 h8 fun v9 =>
  K v9 h8

def val_Tup_ann : Nat → List Nat := fun _ => []

theorem val_Tup_eq (x0 : AV) (H : List Ob) (r : AV) (Ho : List Ob) : aBody Try.prog val_Tup_ann Try.f27 H [x0] r Ho = val_Tup x0 H (fun v H' => Gives H.length v H' r Ho) := by kernel_rfl

theorem val_Tup_fn {x0 : AV} {r : AV} {Ho : List Ob} (h : val_Tup x0 [] (fun v H' => Gives 0 v H' r Ho)) : Abs.Fn Try.prog val_Tup_i [] [x0] r Ho :=
  fn_intro mixed val_Tup_ann (fn := Try.f27) (by kernel_rfl) (by kernel_rfl) (by rw [val_Tup_eq]; exact h)

/- runnel/val.Int -/
def val_Int (x0 : AV) (H : List Ob) (K : AV → List Ob → Prop) : Prop :=
  aAlloc [(.p (.int .i64 0)), (.p (.int .i64 0)), (.p (.bool false)), (.p (.str [])), (.full [])] H fun v0 h1 =>
  aBuild [(.p (.int .i64 0)), (.p (.int .i64 0)), (.p (.bool false)), (.p (.str [])), (.full [])] [(0, 1, (.p (.int .i64 1))), (1, 1, x0)] fun v2 =>
  aStore 5 v0 v2 h1 fun _ h4 =>
  aLoad true 5 v0 h4 fun v5 =>
  K v5 h4

def val_Int_ann : Nat → List Nat := fun _ => []

theorem val_Int_eq (x0 : AV) (H : List Ob) (r : AV) (Ho : List Ob) : aBody Try.prog val_Int_ann Try.f28 H [x0] r Ho = val_Int x0 H (fun v H' => Gives H.length v H' r Ho) := by kernel_rfl

theorem val_Int_fn {x0 : AV} {r : AV} {Ho : List Ob} (h : val_Int x0 [] (fun v H' => Gives 0 v H' r Ho)) : Abs.Fn Try.prog val_Int_i [] [x0] r Ho :=
  fn_intro mixed val_Int_ann (fn := Try.f28) (by kernel_rfl) (by kernel_rfl) (by rw [val_Int_eq]; exact h)

/- runnel/val.Bool -/
def val_Bool (x0 : AV) (H : List Ob) (K : AV → List Ob → Prop) : Prop :=
  aAlloc [(.p (.int .i64 0)), (.p (.int .i64 0)), (.p (.bool false)), (.p (.str [])), (.full [])] H fun v0 h1 =>
  aBuild [(.p (.int .i64 0)), (.p (.int .i64 0)), (.p (.bool false)), (.p (.str [])), (.full [])] [(0, 1, (.p (.int .i64 2))), (2, 1, x0)] fun v2 =>
  aStore 5 v0 v2 h1 fun _ h4 =>
  aLoad true 5 v0 h4 fun v5 =>
  K v5 h4

def val_Bool_ann : Nat → List Nat := fun _ => []

theorem val_Bool_eq (x0 : AV) (H : List Ob) (r : AV) (Ho : List Ob) : aBody Try.prog val_Bool_ann Try.f32 H [x0] r Ho = val_Bool x0 H (fun v H' => Gives H.length v H' r Ho) := by kernel_rfl

theorem val_Bool_fn {x0 : AV} {r : AV} {Ho : List Ob} (h : val_Bool x0 [] (fun v H' => Gives 0 v H' r Ho)) : Abs.Fn Try.prog val_Bool_i [] [x0] r Ho :=
  fn_intro mixed val_Bool_ann (fn := Try.f32) (by kernel_rfl) (by kernel_rfl) (by rw [val_Bool_eq]; exact h)

/- runnel/val.Str -/
def val_Str (x0 : AV) (H : List Ob) (K : AV → List Ob → Prop) : Prop :=
  aAlloc [(.p (.int .i64 0)), (.p (.int .i64 0)), (.p (.bool false)), (.p (.str [])), (.full [])] H fun v0 h1 =>
  aBuild [(.p (.int .i64 0)), (.p (.int .i64 0)), (.p (.bool false)), (.p (.str [])), (.full [])] [(0, 1, (.p (.int .i64 3))), (3, 1, x0)] fun v2 =>
  aStore 5 v0 v2 h1 fun _ h4 =>
  aLoad true 5 v0 h4 fun v5 =>
  K v5 h4

def val_Str_ann : Nat → List Nat := fun _ => []

theorem val_Str_eq (x0 : AV) (H : List Ob) (r : AV) (Ho : List Ob) : aBody Try.prog val_Str_ann Try.f33 H [x0] r Ho = val_Str x0 H (fun v H' => Gives H.length v H' r Ho) := by kernel_rfl

theorem val_Str_fn {x0 : AV} {r : AV} {Ho : List Ob} (h : val_Str x0 [] (fun v H' => Gives 0 v H' r Ho)) : Abs.Fn Try.prog val_Str_i [] [x0] r Ho :=
  fn_intro mixed val_Str_ann (fn := Try.f33) (by kernel_rfl) (by kernel_rfl) (by rw [val_Str_eq]; exact h)

/- runnel/runnelref6.CheckValue -/
def runnelref6_CheckValue (x0 : AV) (H : List Ob) (K : AV → List Ob → Prop) : Prop :=
  aBox x0 H fun v0 h1 =>
  aLoad true 5 v0 h1 fun v2 =>
  aCall Try.prog (.p (.func runnelref6_checkValue_i [])) [v2, (.p (.int .i64 0))] h1 fun v3 h4 =>
  K v3 h4

def runnelref6_CheckValue_ann : Nat → List Nat := fun _ => []

theorem runnelref6_CheckValue_eq (x0 : AV) (H : List Ob) (r : AV) (Ho : List Ob) : aBody Try.prog runnelref6_CheckValue_ann Try.f34 H [x0] r Ho = runnelref6_CheckValue x0 H (fun v H' => Gives H.length v H' r Ho) := by kernel_rfl

theorem runnelref6_CheckValue_fn {x0 : AV} {r : AV} {Ho : List Ob} (h : runnelref6_CheckValue x0 [] (fun v H' => Gives 0 v H' r Ho)) : Abs.Fn Try.prog runnelref6_CheckValue_i [] [x0] r Ho :=
  fn_intro mixed runnelref6_CheckValue_ann (fn := Try.f34) (by kernel_rfl) (by kernel_rfl) (by rw [runnelref6_CheckValue_eq]; exact h)

/- runnel/val.Same -/
def val_Same (x0 x1 : AV) (H : List Ob) (K : AV → List Ob → Prop) : Prop :=
  aBox x0 H fun v0 h1 =>
  aBox x1 h1 fun v2 h3 =>
  aLoad true 5 v0 h3 fun v4 =>
  aLoad true 5 v2 h3 fun v5 =>
  aCall Try.prog (.p (.func val_Compare_i [])) [v4, v5] h3 fun v6 h7 =>
  aBin false false .eql v6 (.p (.int .i64 0)) fun v8 =>
  K v8 h7

def val_Same_ann : Nat → List Nat := fun _ => []

theorem val_Same_eq (x0 x1 : AV) (H : List Ob) (r : AV) (Ho : List Ob) : aBody Try.prog val_Same_ann Try.f35 H [x0, x1] r Ho = val_Same x0 x1 H (fun v H' => Gives H.length v H' r Ho) := by kernel_rfl

theorem val_Same_fn {x0 x1 : AV} {r : AV} {Ho : List Ob} (h : val_Same x0 x1 [] (fun v H' => Gives 0 v H' r Ho)) : Abs.Fn Try.prog val_Same_i [] [x0, x1] r Ho :=
  fn_intro mixed val_Same_ann (fn := Try.f35) (by kernel_rfl) (by kernel_rfl) (by rw [val_Same_eq]; exact h)

/- runnel/runnellaw2.Few -/
def runnellaw2_Few (x0 : AV) (H : List Ob) (K : AV → List Ob → Prop) : Prop :=
  aBox x0 H fun v0 h1 =>
  aLoad true 5 v0 h1 fun v2 =>
  aCall Try.prog (.p (.func runnellaw2_budget_i [])) [v2, (.p (.int .i64 12)), (.p (.int .i64 300))] h1 fun v3 h4 =>
  aBin false false .gtr v3 (.p (.int .i64 0)) fun v5 =>
  K v5 h4

def runnellaw2_Few_ann : Nat → List Nat := fun _ => []

theorem runnellaw2_Few_eq (x0 : AV) (H : List Ob) (r : AV) (Ho : List Ob) : aBody Try.prog runnellaw2_Few_ann Try.f52 H [x0] r Ho = runnellaw2_Few x0 H (fun v H' => Gives H.length v H' r Ho) := by kernel_rfl

theorem runnellaw2_Few_fn {x0 : AV} {r : AV} {Ho : List Ob} (h : runnellaw2_Few x0 [] (fun v H' => Gives 0 v H' r Ho)) : Abs.Fn Try.prog runnellaw2_Few_i [] [x0] r Ho :=
  fn_intro mixed runnellaw2_Few_ann (fn := Try.f52) (by kernel_rfl) (by kernel_rfl) (by rw [runnellaw2_Few_eq]; exact h)

/- runnel/runnelref6.Compare -/
def runnelref6_Compare_L1 (q1s2 q1s3 y0 : AV) (H : List Ob) (B1 : List AV → List Ob → Prop) (K : AV → List Ob → Prop) : Prop :=
  aFieldAddr 4 q1s2 fun v49 =>
  aLoad false 1 v49 H fun v50 =>
  aLen false false v50 fun v51 =>
  aBin false false .lss y0 v51 fun v52 =>
  aMerge true v52 (fun Q53 =>
  aFieldAddr 4 q1s3 fun v54 =>
  aLoad false 1 v54 H fun v55 =>
  aLenS false v55 fun v56 =>
  aBin false false .lss y0 v56 fun v57 =>
  (H = H ∧ Q53 v57)) fun v58 =>
  aGuard v58
  (aFieldAddr 4 q1s2 fun v59 =>
  aLoad false 1 v59 H fun v60 =>
  aIndexAddr 5 v60 y0 fun v61 =>
  aLoad true 5 v61 H fun v62 =>
  aFieldAddr 4 q1s3 fun v63 =>
  aLoad false 1 v63 H fun v64 =>
  aIndexAddr 5 v64 y0 fun v65 =>
  aLoad true 5 v65 H fun v66 =>
  aCallT Try.prog (.p (.func runnelref6_Compare_i [])) [v62, v66] fun v67 =>
  aBin false false .neq v67 (.p (.int .i64 0)) fun v68 =>
  aGuard v68
  (K v67 H)
  (aBin false false .add y0 (.p (.int .i64 1)) fun v69 =>
  B1 [v69] H))
  (aFieldAddr 4 q1s2 fun v70 =>
  aLoad false 1 v70 H fun v71 =>
  aLen false false v71 fun v72 =>
  aFieldAddr 4 q1s3 fun v73 =>
  aLoad false 1 v73 H fun v74 =>
  aLen false false v74 fun v75 =>
  aBin false false .neq v72 v75 fun v76 =>
  aGuard v76
  (aFieldAddr 4 q1s2 fun v77 =>
  aLoad false 1 v77 H fun v78 =>
  aLen false false v78 fun v79 =>
  aFieldAddr 4 q1s3 fun v80 =>
  aLoad false 1 v80 H fun v81 =>
  aLen false false v81 fun v82 =>
  aBin false false .lss v79 v82 fun v83 =>
  aCall Try.prog (.p (.func runnelref6_less_i [])) [v83] H fun v84 h85 =>
  K v84 h85)
  (K (.p (.int .i64 0)) H))

def runnelref6_Compare (x0 x1 : AV) (H : List Ob) (K : AV → List Ob → Prop) : Prop :=
  aBox x0 H fun v0 h1 =>
  aBox x1 h1 fun v2 h3 =>
  aFieldAddr 0 v0 fun v4 =>
  aLoad false 1 v4 h3 fun v5 =>
  aFieldAddr 0 v2 fun v6 =>
  aLoad false 1 v6 h3 fun v7 =>
  aBin false false .neq v5 v7 fun v8 =>
  aGuard v8
  (aFieldAddr 0 v0 fun v9 =>
  aLoad false 1 v9 h3 fun v10 =>
  aFieldAddr 0 v2 fun v11 =>
  aLoad false 1 v11 h3 fun v12 =>
  aBin false false .lss v10 v12 fun v13 =>
  aCall Try.prog (.p (.func runnelref6_less_i [])) [v13] h3 fun v14 h15 =>
  K v14 h15)
  (aFieldAddr 1 v0 fun v16 =>
  aLoad false 1 v16 h3 fun v17 =>
  aFieldAddr 1 v2 fun v18 =>
  aLoad false 1 v18 h3 fun v19 =>
  aBin false false .neq v17 v19 fun v20 =>
  aGuard v20
  (aFieldAddr 1 v0 fun v21 =>
  aLoad false 1 v21 h3 fun v22 =>
  aFieldAddr 1 v2 fun v23 =>
  aLoad false 1 v23 h3 fun v24 =>
  aBin false false .lss v22 v24 fun v25 =>
  aCall Try.prog (.p (.func runnelref6_less_i [])) [v25] h3 fun v26 h27 =>
  K v26 h27)
  (aFieldAddr 2 v0 fun v28 =>
  aLoad false 1 v28 h3 fun v29 =>
  aFieldAddr 2 v2 fun v30 =>
  aLoad false 1 v30 h3 fun v31 =>
  aBin true false .neq v29 v31 fun v32 =>
  aGuard v32
  (aFieldAddr 2 v2 fun v33 =>
  aLoad false 1 v33 h3 fun v34 =>
  aCall Try.prog (.p (.func runnelref6_less_i [])) [v34] h3 fun v35 h36 =>
  K v35 h36)
  (aFieldAddr 3 v0 fun v37 =>
  aLoad false 1 v37 h3 fun v38 =>
  aFieldAddr 3 v2 fun v39 =>
  aLoad false 1 v39 h3 fun v40 =>
  aBin false false .neq v38 v40 fun v41 =>
  aGuard v41
  (aFieldAddr 3 v0 fun v42 =>
  aLoad false 1 v42 h3 fun v43 =>
  aFieldAddr 3 v2 fun v44 =>
  aLoad false 1 v44 h3 fun v45 =>
  aBin false false .lss v43 v45 fun v46 =>
  aCall Try.prog (.p (.func runnelref6_less_i [])) [v46] h3 fun v47 h48 =>
  K v47 h48)
  (aLoopN 1 [(.p (.int .i64 0))] h3 fun xs H B1 => runnelref6_Compare_L1 v0 v2 (xs.getD 0 .top) H B1 K))))

def runnelref6_Compare_ann : Nat → List Nat := fun k => match k with | 10 => [5] | _ => []

theorem runnelref6_Compare_eq (x0 x1 : AV) (H : List Ob) (r : AV) (Ho : List Ob) : aBody Try.prog runnelref6_Compare_ann Try.f60 H [x0, x1] r Ho = runnelref6_Compare x0 x1 H (fun v H' => Gives H.length v H' r Ho) := by kernel_rfl

theorem runnelref6_Compare_fn {x0 x1 : AV} {r : AV} {Ho : List Ob} (h : runnelref6_Compare x0 x1 [] (fun v H' => Gives 0 v H' r Ho)) : Abs.Fn Try.prog runnelref6_Compare_i [] [x0, x1] r Ho :=
  fn_intro mixed runnelref6_Compare_ann (fn := Try.f60) (by kernel_rfl) (by kernel_rfl) (by rw [runnelref6_Compare_eq]; exact h)

/- slices.Clip[[]runnel/val.Value,runnel/val.Value] -/
def slices_Clip_val_Value_val_Value (x0 : AV) (H : List Ob) (K : AV → List Ob → Prop) : Prop :=
  aLen false false x0 fun v0 =>
  aLen false false x0 fun v1 =>
  aSlice false 5 x0 none (some v0) (some v1) fun v2 =>
  K v2 H

def slices_Clip_val_Value_val_Value_ann : Nat → List Nat := fun _ => []

theorem slices_Clip_val_Value_val_Value_eq (x0 : AV) (H : List Ob) (r : AV) (Ho : List Ob) : aBody Try.prog slices_Clip_val_Value_val_Value_ann Try.f62 H [x0] r Ho = slices_Clip_val_Value_val_Value x0 H (fun v H' => Gives H.length v H' r Ho) := by kernel_rfl

theorem slices_Clip_val_Value_val_Value_fn {x0 : AV} {r : AV} {Ho : List Ob} (h : slices_Clip_val_Value_val_Value x0 [] (fun v H' => Gives 0 v H' r Ho)) : Abs.Fn Try.prog slices_Clip_val_Value_val_Value_i [] [x0] r Ho :=
  fn_intro mixed slices_Clip_val_Value_val_Value_ann (fn := Try.f62) (by kernel_rfl) (by kernel_rfl) (by rw [slices_Clip_val_Value_val_Value_eq]; exact h)

/- slices.Clone[[]runnel/val.Value,runnel/val.Value] -/
def slices_Clone_val_Value_val_Value (x0 : AV) (H : List Ob) (K : AV → List Ob → Prop) : Prop :=
  aNil true .eql x0 fun v0 =>
  aGuard v0
  (K (.full []) H)
  (aBuildSlice 5 [] fun v1 =>
  aAppend false 5 64 v1 x0 H fun v2 h3 =>
  K v2 h3)

def slices_Clone_val_Value_val_Value_ann : Nat → List Nat := fun _ => []

theorem slices_Clone_val_Value_val_Value_eq (x0 : AV) (H : List Ob) (r : AV) (Ho : List Ob) : aBody Try.prog slices_Clone_val_Value_val_Value_ann Try.f63 H [x0] r Ho = slices_Clone_val_Value_val_Value x0 H (fun v H' => Gives H.length v H' r Ho) := by kernel_rfl

theorem slices_Clone_val_Value_val_Value_fn {x0 : AV} {r : AV} {Ho : List Ob} (h : slices_Clone_val_Value_val_Value x0 [] (fun v H' => Gives 0 v H' r Ho)) : Abs.Fn Try.prog slices_Clone_val_Value_val_Value_i [] [x0] r Ho :=
  fn_intro mixed slices_Clone_val_Value_val_Value_ann (fn := Try.f63) (by kernel_rfl) (by kernel_rfl) (by rw [slices_Clone_val_Value_val_Value_eq]; exact h)

/- runnel/runnelref6.checkValue -/
def runnelref6_checkValue_L1 (q1s1 q1s2 y0 : AV) (H : List Ob) (B1 : List AV → List Ob → Prop) (K : AV → List Ob → Prop) : Prop :=
  aFieldAddr 4 q1s2 fun v64 =>
  aLoad false 1 v64 H fun v65 =>
  aLen false false v65 fun v66 =>
  aBin false false .lss y0 v66 fun v67 =>
  aGuard v67
  (aFieldAddr 4 q1s2 fun v68 =>
  aLoad false 1 v68 H fun v69 =>
  aIndexAddr 5 v69 y0 fun v70 =>
  aLoad true 5 v70 H fun v71 =>
  aBin false false .add q1s1 (.p (.int .i64 1)) fun v72 =>
  aCall Try.prog (.p (.func runnelref6_checkValue_i [])) [v71, v72] H fun v73 h74 =>
  aBin false false .neq v73 (.p (.int .i64 0)) fun v75 =>
  aGuard v75
  (K v73 h74)
  (aBin false false .add y0 (.p (.int .i64 1)) fun v76 =>
  B1 [v76] h74))
  (K (.p (.int .i64 0)) H)

def runnelref6_checkValue (x0 x1 : AV) (H : List Ob) (K : AV → List Ob → Prop) : Prop :=
  aBox x0 H fun v0 h1 =>
  aFieldAddr 0 v0 fun v2 =>
  aLoad false 1 v2 h1 fun v3 =>
  aBin false false .lss v3 (.p (.int .i64 1)) fun v4 =>
  aMerge false v4 (fun Q5 =>
  aFieldAddr 0 v0 fun v6 =>
  aLoad false 1 v6 h1 fun v7 =>
  aBin false false .gtr v7 (.p (.int .i64 4)) fun v8 =>
  (h1 = h1 ∧ Q5 v8)) fun v9 =>
  aGuard v9
  (K (.p (.int .i64 5)) h1)
  (aFieldAddr 0 v0 fun v10 =>
  aLoad false 1 v10 h1 fun v11 =>
  aBin false false .neq v11 (.p (.int .i64 1)) fun v12 =>
  aMerge true v12 (fun Q13 =>
  aFieldAddr 1 v0 fun v14 =>
  aLoad false 1 v14 h1 fun v15 =>
  aBin false false .neq v15 (.p (.int .i64 0)) fun v16 =>
  (h1 = h1 ∧ Q13 v16)) fun v17 =>
  aMerge false v17 (fun Q18 =>
  aFieldAddr 0 v0 fun v19 =>
  aLoad false 1 v19 h1 fun v20 =>
  aBin false false .neq v20 (.p (.int .i64 2)) fun v21 =>
  aMerge true v21 (fun Q22 =>
  aFieldAddr 2 v0 fun v23 =>
  aLoad false 1 v23 h1 fun v24 =>
  (h1 = h1 ∧ Q22 v24)) fun v25 =>
  (h1 = h1 ∧ Q18 v25)) fun v26 =>
  aMerge false v26 (fun Q27 =>
  aFieldAddr 0 v0 fun v28 =>
  aLoad false 1 v28 h1 fun v29 =>
  aBin false false .neq v29 (.p (.int .i64 3)) fun v30 =>
  aMerge true v30 (fun Q31 =>
  aFieldAddr 3 v0 fun v32 =>
  aLoad false 1 v32 h1 fun v33 =>
  aBin false false .neq v33 (.p (.str [])) fun v34 =>
  (h1 = h1 ∧ Q31 v34)) fun v35 =>
  (h1 = h1 ∧ Q27 v35)) fun v36 =>
  aMerge false v36 (fun Q37 =>
  aFieldAddr 0 v0 fun v38 =>
  aLoad false 1 v38 h1 fun v39 =>
  aBin false false .neq v39 (.p (.int .i64 4)) fun v40 =>
  aMerge true v40 (fun Q41 =>
  aFieldAddr 4 v0 fun v42 =>
  aLoad false 1 v42 h1 fun v43 =>
  aLenS false v43 fun v44 =>
  aBin false false .gtr v44 (.p (.int .i64 0)) fun v45 =>
  (h1 = h1 ∧ Q41 v45)) fun v46 =>
  (h1 = h1 ∧ Q37 v46)) fun v47 =>
  aGuard v47
  (K (.p (.int .i64 2)) h1)
  (aFieldAddr 3 v0 fun v48 =>
  aLoad false 1 v48 h1 fun v49 =>
  aLen false true v49 fun v50 =>
  aBin false false .gtr v50 (.p (.int .i64 255)) fun v51 =>
  aGuard v51
  (K (.p (.int .i64 4)) h1)
  (aFieldAddr 0 v0 fun v52 =>
  aLoad false 1 v52 h1 fun v53 =>
  aBin false false .neq v53 (.p (.int .i64 4)) fun v54 =>
  aGuard v54
  (K (.p (.int .i64 0)) h1)
  (aFieldAddr 4 v0 fun v55 =>
  aLoad false 1 v55 h1 fun v56 =>
  aLen false false v56 fun v57 =>
  aBin false false .eql v57 (.p (.int .i64 0)) fun v58 =>
  aGuard v58
  (K (.p (.int .i64 1)) h1)
  (aFieldAddr 4 v0 fun v59 =>
  aLoad false 1 v59 h1 fun v60 =>
  aLen false false v60 fun v61 =>
  aBin false false .gtr v61 (.p (.int .i64 8)) fun v62 =>
  aGuard v62
  (K (.p (.int .i64 10)) h1)
  (aBin false false .gtr x1 (.p (.int .i64 4)) fun v63 =>
  aGuard v63
  (K (.p (.int .i64 9)) h1)
  (aLoopN 1 [(.p (.int .i64 0))] h1 fun xs H B1 => runnelref6_checkValue_L1 x1 v0 (xs.getD 0 .top) H B1 K)))))))

def runnelref6_checkValue_ann : Nat → List Nat := fun k => match k with | 16 => [5] | _ => []

theorem runnelref6_checkValue_eq (x0 x1 : AV) (H : List Ob) (r : AV) (Ho : List Ob) : aBody Try.prog runnelref6_checkValue_ann Try.f64 H [x0, x1] r Ho = runnelref6_checkValue x0 x1 H (fun v H' => Gives H.length v H' r Ho) := by kernel_rfl

theorem runnelref6_checkValue_fn {x0 x1 : AV} {r : AV} {Ho : List Ob} (h : runnelref6_checkValue x0 x1 [] (fun v H' => Gives 0 v H' r Ho)) : Abs.Fn Try.prog runnelref6_checkValue_i [] [x0, x1] r Ho :=
  fn_intro mixed runnelref6_checkValue_ann (fn := Try.f64) (by kernel_rfl) (by kernel_rfl) (by rw [runnelref6_checkValue_eq]; exact h)

/- runnel/val.Compare -/
def val_Compare (x0 x1 : AV) (H : List Ob) (K : AV → List Ob → Prop) : Prop :=
  aBox x0 H fun v0 h1 =>
  aBox x1 h1 fun v2 h3 =>
  aFieldAddr 0 v0 fun v4 =>
  aLoad false 1 v4 h3 fun v5 =>
  aFieldAddr 0 v2 fun v6 =>
  aLoad false 1 v6 h3 fun v7 =>
  aCallT Try.prog (.p (.func cmp_Compare_int_i [])) [v5, v7] fun v8 =>
  aFieldAddr 1 v0 fun v9 =>
  aLoad false 1 v9 h3 fun v10 =>
  aFieldAddr 1 v2 fun v11 =>
  aLoad false 1 v11 h3 fun v12 =>
  aCallT Try.prog (.p (.func cmp_Compare_int64_i [])) [v10, v12] fun v13 =>
  aFieldAddr 2 v0 fun v14 =>
  aLoad false 1 v14 h3 fun v15 =>
  aCallT Try.prog (.p (.func val_truth_i [])) [v15] fun v16 =>
  aFieldAddr 2 v2 fun v17 =>
  aLoad false 1 v17 h3 fun v18 =>
  aCallT Try.prog (.p (.func val_truth_i [])) [v18] fun v19 =>
  aCallT Try.prog (.p (.func cmp_Compare_int_i [])) [v16, v19] fun v20 =>
  aFieldAddr 3 v0 fun v21 =>
  aLoad false 1 v21 h3 fun v22 =>
  aFieldAddr 3 v2 fun v23 =>
  aLoad false 1 v23 h3 fun v24 =>
  aCallT Try.prog (.p (.func strings_Compare_i [])) [v22, v24] fun v25 =>
  aBuildSlice 1 [v8, v13, v20, v25] fun v26 =>
  aCallT Try.prog (.p (.func cmp_Or_int_i [])) [v26] fun v27 =>
  aBin false false .neq v27 (.p (.int .i64 0)) fun v28 =>
  aGuard v28
  (K v27 h3)
  (aFieldAddr 4 v0 fun v29 =>
  aLoad false 1 v29 h3 fun v30 =>
  aFieldAddr 4 v2 fun v31 =>
  aLoad false 1 v31 h3 fun v32 =>
  aCall Try.prog (.p (.func val_rows_val_Value_i [])) [v30, v32, (.p (.func val_Compare_i []))] h3 fun v33 h34 =>
  K v33 h34)

def val_Compare_ann : Nat → List Nat := fun _ => []

theorem val_Compare_eq (x0 x1 : AV) (H : List Ob) (r : AV) (Ho : List Ob) : aBody Try.prog val_Compare_ann Try.f65 H [x0, x1] r Ho = val_Compare x0 x1 H (fun v H' => Gives H.length v H' r Ho) := by kernel_rfl

theorem val_Compare_fn {x0 x1 : AV} {r : AV} {Ho : List Ob} (h : val_Compare x0 x1 [] (fun v H' => Gives 0 v H' r Ho)) : Abs.Fn Try.prog val_Compare_i [] [x0, x1] r Ho :=
  fn_intro mixed val_Compare_ann (fn := Try.f65) (by kernel_rfl) (by kernel_rfl) (by rw [val_Compare_eq]; exact h)

/- runnel/runnellaw2.budget -/
def runnellaw2_budget_L1 (q1s1 q1s3 y0 y1 : AV) (H : List Ob) (B1 : List AV → List Ob → Prop) (K : AV → List Ob → Prop) : Prop :=
  aFieldAddr 4 q1s3 fun v19 =>
  aLoad false 1 v19 H fun v20 =>
  aLen false false v20 fun v21 =>
  aBin false false .lss y1 v21 fun v22 =>
  aMerge true v22 (fun Q23 =>
  aBin false false .gtr y0 (.p (.int .i64 0)) fun v24 =>
  (H = H ∧ Q23 v24)) fun v25 =>
  aGuard v25
  (aFieldAddr 4 q1s3 fun v26 =>
  aLoad false 1 v26 H fun v27 =>
  aIndexAddr 5 v27 y1 fun v28 =>
  aLoad true 5 v28 H fun v29 =>
  aBin false false .sub q1s1 (.p (.int .i64 1)) fun v30 =>
  aCall Try.prog (.p (.func runnellaw2_budget_i [])) [v29, v30, y0] H fun v31 h32 =>
  aBin false false .add y1 (.p (.int .i64 1)) fun v33 =>
  B1 [v31, v33] h32)
  (K y0 H)

def runnellaw2_budget (x0 x1 x2 : AV) (H : List Ob) (K : AV → List Ob → Prop) : Prop :=
  aBox x0 H fun v0 h1 =>
  aBin false false .leq x2 (.p (.int .i64 0)) fun v2 =>
  aMerge false v2 (fun Q3 =>
  aBin false false .leq x1 (.p (.int .i64 0)) fun v4 =>
  (h1 = h1 ∧ Q3 v4)) fun v5 =>
  aMerge false v5 (fun Q6 =>
  aFieldAddr 4 v0 fun v7 =>
  aLoad false 1 v7 h1 fun v8 =>
  aLenS false v8 fun v9 =>
  aBin false false .gtr v9 (.p (.int .i64 20)) fun v10 =>
  (h1 = h1 ∧ Q6 v10)) fun v11 =>
  aMerge false v11 (fun Q12 =>
  aFieldAddr 3 v0 fun v13 =>
  aLoad false 1 v13 h1 fun v14 =>
  aLenS true v14 fun v15 =>
  aBin false false .gtr v15 (.p (.int .i64 300)) fun v16 =>
  (h1 = h1 ∧ Q12 v16)) fun v17 =>
  aGuard v17
  (K (.p (.int .i64 0)) h1)
  (aBin false false .sub x2 (.p (.int .i64 1)) fun v18 =>
  aLoopN 2 [v18, (.p (.int .i64 0))] h1 fun xs H B1 => runnellaw2_budget_L1 x1 v0 (xs.getD 0 .top) (xs.getD 1 .top) H B1 K)

def runnellaw2_budget_ann : Nat → List Nat := fun k => match k with | 5 => [2, 7] | _ => []

theorem runnellaw2_budget_eq (x0 x1 x2 : AV) (H : List Ob) (r : AV) (Ho : List Ob) : aBody Try.prog runnellaw2_budget_ann Try.f87 H [x0, x1, x2] r Ho = runnellaw2_budget x0 x1 x2 H (fun v H' => Gives H.length v H' r Ho) := by kernel_rfl

theorem runnellaw2_budget_fn {x0 x1 x2 : AV} {r : AV} {Ho : List Ob} (h : runnellaw2_budget x0 x1 x2 [] (fun v H' => Gives 0 v H' r Ho)) : Abs.Fn Try.prog runnellaw2_budget_i [] [x0, x1, x2] r Ho :=
  fn_intro mixed runnellaw2_budget_ann (fn := Try.f87) (by kernel_rfl) (by kernel_rfl) (by rw [runnellaw2_budget_eq]; exact h)

/- runnel/runnelref6.less -/
def runnelref6_less (x0 : AV) (H : List Ob) (K : AV → List Ob → Prop) : Prop :=
  aGuard x0
  (K (.p (.int .i64 (-1))) H)
  (K (.p (.int .i64 1)) H)

def runnelref6_less_ann : Nat → List Nat := fun _ => []

theorem runnelref6_less_eq (x0 : AV) (H : List Ob) (r : AV) (Ho : List Ob) : aBody Try.prog runnelref6_less_ann Try.f97 H [x0] r Ho = runnelref6_less x0 H (fun v H' => Gives H.length v H' r Ho) := by kernel_rfl

theorem runnelref6_less_fn {x0 : AV} {r : AV} {Ho : List Ob} (h : runnelref6_less x0 [] (fun v H' => Gives 0 v H' r Ho)) : Abs.Fn Try.prog runnelref6_less_i [] [x0] r Ho :=
  fn_intro mixed runnelref6_less_ann (fn := Try.f97) (by kernel_rfl) (by kernel_rfl) (by rw [runnelref6_less_eq]; exact h)

/- cmp.Or[int] -/
def cmp_Or_int_L1 (q1s3 q1s6 q1s7 y0 : AV) (H : List Ob) (B1 : List AV → List Ob → Prop) (K : AV → List Ob → Prop) : Prop :=
  aBin false false .lss y0 q1s7 fun v1 =>
  aGuard v1
  (aIndexAddr 1 q1s6 y0 fun v2 =>
  aLoad false 1 v2 H fun v3 =>
  aBin false false .neq v3 q1s3 fun v4 =>
  aGuard v4
  (K v3 H)
  (aBin false false .add y0 (.p (.int .i64 1)) fun v5 =>
  B1 [v5] H))
  (K q1s3 H)

def cmp_Or_int (x0 : AV) (H : List Ob) (K : AV → List Ob → Prop) : Prop :=
  aLen false false x0 fun v0 =>
  aLoopN 1 [(.p (.int .i64 0))] H fun xs H B1 => cmp_Or_int_L1 (.p (.int .i64 0)) x0 v0 (xs.getD 0 .top) H B1 K

def cmp_Or_int_ann : Nat → List Nat := fun k => match k with | 3 => [8] | _ => []

theorem cmp_Or_int_eq (x0 : AV) (H : List Ob) (r : AV) (Ho : List Ob) : aBody Try.prog cmp_Or_int_ann Try.f98 H [x0] r Ho = cmp_Or_int x0 H (fun v H' => Gives H.length v H' r Ho) := by kernel_rfl

theorem cmp_Or_int_fn {x0 : AV} {r : AV} {Ho : List Ob} (h : cmp_Or_int x0 [] (fun v H' => Gives 0 v H' r Ho)) : Abs.Fn Try.prog cmp_Or_int_i [] [x0] r Ho :=
  fn_intro mixed cmp_Or_int_ann (fn := Try.f98) (by kernel_rfl) (by kernel_rfl) (by rw [cmp_Or_int_eq]; exact h)

/- cmp.Compare[int] -/
def cmp_Compare_int (x0 x1 : AV) (H : List Ob) (K : AV → List Ob → Prop) : Prop :=
  aCall Try.prog (.p (.func cmp_isNaN_int_i [])) [x0] H fun v0 h1 =>
  aCall Try.prog (.p (.func cmp_isNaN_int_i [])) [x1] h1 fun v2 h3 =>
  aGuard v0
  (aGuard v2
  (K (.p (.int .i64 0)) h3)
  (K (.p (.int .i64 (-1))) h3))
  (aGuard v2
  (K (.p (.int .i64 1)) h3)
  (aBin false false .lss x0 x1 fun v4 =>
  aGuard v4
  (K (.p (.int .i64 (-1))) h3)
  (aBin false false .gtr x0 x1 fun v5 =>
  aGuard v5
  (K (.p (.int .i64 1)) h3)
  (K (.p (.int .i64 0)) h3))))

def cmp_Compare_int_ann : Nat → List Nat := fun _ => []

theorem cmp_Compare_int_eq (x0 x1 : AV) (H : List Ob) (r : AV) (Ho : List Ob) : aBody Try.prog cmp_Compare_int_ann Try.f99 H [x0, x1] r Ho = cmp_Compare_int x0 x1 H (fun v H' => Gives H.length v H' r Ho) := by kernel_rfl

theorem cmp_Compare_int_fn {x0 x1 : AV} {r : AV} {Ho : List Ob} (h : cmp_Compare_int x0 x1 [] (fun v H' => Gives 0 v H' r Ho)) : Abs.Fn Try.prog cmp_Compare_int_i [] [x0, x1] r Ho :=
  fn_intro mixed cmp_Compare_int_ann (fn := Try.f99) (by kernel_rfl) (by kernel_rfl) (by rw [cmp_Compare_int_eq]; exact h)

/- cmp.Compare[int64] -/
def cmp_Compare_int64 (x0 x1 : AV) (H : List Ob) (K : AV → List Ob → Prop) : Prop :=
  aCall Try.prog (.p (.func cmp_isNaN_int64_i [])) [x0] H fun v0 h1 =>
  aCall Try.prog (.p (.func cmp_isNaN_int64_i [])) [x1] h1 fun v2 h3 =>
  aGuard v0
  (aGuard v2
  (K (.p (.int .i64 0)) h3)
  (K (.p (.int .i64 (-1))) h3))
  (aGuard v2
  (K (.p (.int .i64 1)) h3)
  (aBin false false .lss x0 x1 fun v4 =>
  aGuard v4
  (K (.p (.int .i64 (-1))) h3)
  (aBin false false .gtr x0 x1 fun v5 =>
  aGuard v5
  (K (.p (.int .i64 1)) h3)
  (K (.p (.int .i64 0)) h3))))

def cmp_Compare_int64_ann : Nat → List Nat := fun _ => []

theorem cmp_Compare_int64_eq (x0 x1 : AV) (H : List Ob) (r : AV) (Ho : List Ob) : aBody Try.prog cmp_Compare_int64_ann Try.f100 H [x0, x1] r Ho = cmp_Compare_int64 x0 x1 H (fun v H' => Gives H.length v H' r Ho) := by kernel_rfl

theorem cmp_Compare_int64_fn {x0 x1 : AV} {r : AV} {Ho : List Ob} (h : cmp_Compare_int64 x0 x1 [] (fun v H' => Gives 0 v H' r Ho)) : Abs.Fn Try.prog cmp_Compare_int64_i [] [x0, x1] r Ho :=
  fn_intro mixed cmp_Compare_int64_ann (fn := Try.f100) (by kernel_rfl) (by kernel_rfl) (by rw [cmp_Compare_int64_eq]; exact h)

/- runnel/val.truth -/
def val_truth (x0 : AV) (H : List Ob) (K : AV → List Ob → Prop) : Prop :=
  aGuard x0
  (K (.p (.int .i64 1)) H)
  (K (.p (.int .i64 0)) H)

def val_truth_ann : Nat → List Nat := fun _ => []

theorem val_truth_eq (x0 : AV) (H : List Ob) (r : AV) (Ho : List Ob) : aBody Try.prog val_truth_ann Try.f101 H [x0] r Ho = val_truth x0 H (fun v H' => Gives H.length v H' r Ho) := by kernel_rfl

theorem val_truth_fn {x0 : AV} {r : AV} {Ho : List Ob} (h : val_truth x0 [] (fun v H' => Gives 0 v H' r Ho)) : Abs.Fn Try.prog val_truth_i [] [x0] r Ho :=
  fn_intro mixed val_truth_ann (fn := Try.f101) (by kernel_rfl) (by kernel_rfl) (by rw [val_truth_eq]; exact h)

/- strings.Compare -/
def strings_Compare (x0 x1 : AV) (H : List Ob) (K : AV → List Ob → Prop) : Prop :=
  aCall Try.prog (.p (.func internal_bytealg_CompareString_i [])) [x0, x1] H fun v0 h1 =>
  K v0 h1

def strings_Compare_ann : Nat → List Nat := fun _ => []

theorem strings_Compare_eq (x0 x1 : AV) (H : List Ob) (r : AV) (Ho : List Ob) : aBody Try.prog strings_Compare_ann Try.f102 H [x0, x1] r Ho = strings_Compare x0 x1 H (fun v H' => Gives H.length v H' r Ho) := by kernel_rfl

theorem strings_Compare_fn {x0 x1 : AV} {r : AV} {Ho : List Ob} (h : strings_Compare x0 x1 [] (fun v H' => Gives 0 v H' r Ho)) : Abs.Fn Try.prog strings_Compare_i [] [x0, x1] r Ho :=
  fn_intro mixed strings_Compare_ann (fn := Try.f102) (by kernel_rfl) (by kernel_rfl) (by rw [strings_Compare_eq]; exact h)

/- runnel/val.rows[runnel/val.Value] -/
def val_rows_val_Value (x0 x1 x2 : AV) (H : List Ob) (K : AV → List Ob → Prop) : Prop :=
  aCall Try.prog (.p (.func slices_CompareFunc_val_Value_val_Value_val_Value_val_Value_i [])) [x0, x1, x2] H fun v0 h1 =>
  K v0 h1

def val_rows_val_Value_ann : Nat → List Nat := fun _ => []

theorem val_rows_val_Value_eq (x0 x1 x2 : AV) (H : List Ob) (r : AV) (Ho : List Ob) : aBody Try.prog val_rows_val_Value_ann Try.f103 H [x0, x1, x2] r Ho = val_rows_val_Value x0 x1 x2 H (fun v H' => Gives H.length v H' r Ho) := by kernel_rfl

theorem val_rows_val_Value_fn {x0 x1 x2 : AV} {r : AV} {Ho : List Ob} (h : val_rows_val_Value x0 x1 x2 [] (fun v H' => Gives 0 v H' r Ho)) : Abs.Fn Try.prog val_rows_val_Value_i [] [x0, x1, x2] r Ho :=
  fn_intro mixed val_rows_val_Value_ann (fn := Try.f103) (by kernel_rfl) (by kernel_rfl) (by rw [val_rows_val_Value_eq]; exact h)

/- runnel/val.Check -/
def val_Check (x0 : AV) (H : List Ob) (K : AV → List Ob → Prop) : Prop :=
  aBox x0 H fun v0 h1 =>
  aLoad true 5 v0 h1 fun v2 =>
  aCall Try.prog (.p (.func val_check_i [])) [v2, (.p (.int .i64 0))] h1 fun v3 h4 =>
  K v3 h4

def val_Check_ann : Nat → List Nat := fun _ => []

theorem val_Check_eq (x0 : AV) (H : List Ob) (r : AV) (Ho : List Ob) : aBody Try.prog val_Check_ann Try.f114 H [x0] r Ho = val_Check x0 H (fun v H' => Gives H.length v H' r Ho) := by kernel_rfl

theorem val_Check_fn {x0 : AV} {r : AV} {Ho : List Ob} (h : val_Check x0 [] (fun v H' => Gives 0 v H' r Ho)) : Abs.Fn Try.prog val_Check_i [] [x0] r Ho :=
  fn_intro mixed val_Check_ann (fn := Try.f114) (by kernel_rfl) (by kernel_rfl) (by rw [val_Check_eq]; exact h)

/- cmp.isNaN[int] -/
def cmp_isNaN_int (x0 : AV) (H : List Ob) (K : AV → List Ob → Prop) : Prop :=
  aBin false false .neq x0 x0 fun v0 =>
  K v0 H

def cmp_isNaN_int_ann : Nat → List Nat := fun _ => []

theorem cmp_isNaN_int_eq (x0 : AV) (H : List Ob) (r : AV) (Ho : List Ob) : aBody Try.prog cmp_isNaN_int_ann Try.f137 H [x0] r Ho = cmp_isNaN_int x0 H (fun v H' => Gives H.length v H' r Ho) := by kernel_rfl

theorem cmp_isNaN_int_fn {x0 : AV} {r : AV} {Ho : List Ob} (h : cmp_isNaN_int x0 [] (fun v H' => Gives 0 v H' r Ho)) : Abs.Fn Try.prog cmp_isNaN_int_i [] [x0] r Ho :=
  fn_intro mixed cmp_isNaN_int_ann (fn := Try.f137) (by kernel_rfl) (by kernel_rfl) (by rw [cmp_isNaN_int_eq]; exact h)

/- cmp.isNaN[int64] -/
def cmp_isNaN_int64 (x0 : AV) (H : List Ob) (K : AV → List Ob → Prop) : Prop :=
  aBin false false .neq x0 x0 fun v0 =>
  K v0 H

def cmp_isNaN_int64_ann : Nat → List Nat := fun _ => []

theorem cmp_isNaN_int64_eq (x0 : AV) (H : List Ob) (r : AV) (Ho : List Ob) : aBody Try.prog cmp_isNaN_int64_ann Try.f138 H [x0] r Ho = cmp_isNaN_int64 x0 H (fun v H' => Gives H.length v H' r Ho) := by kernel_rfl

theorem cmp_isNaN_int64_fn {x0 : AV} {r : AV} {Ho : List Ob} (h : cmp_isNaN_int64 x0 [] (fun v H' => Gives 0 v H' r Ho)) : Abs.Fn Try.prog cmp_isNaN_int64_i [] [x0] r Ho :=
  fn_intro mixed cmp_isNaN_int64_ann (fn := Try.f138) (by kernel_rfl) (by kernel_rfl) (by rw [cmp_isNaN_int64_eq]; exact h)

/- slices.CompareFunc[[]runnel/val.Value,[]runnel/val.Value,runnel/val.Value,runnel/val.Value] -/
def slices_CompareFunc_val_Value_val_Value_val_Value_val_Value_L1 (q1s0 q1s1 q1s2 q1s11 q1s12 y0 : AV) (H : List Ob) (B1 : List AV → List Ob → Prop) (K : AV → List Ob → Prop) : Prop :=
  aBin false false .lss y0 q1s12 fun v1 =>
  aGuard v1
  (aIndexAddr 5 q1s11 y0 fun v2 =>
  aLoad true 5 v2 H fun v3 =>
  aAlloc [(.p (.int .i64 0)), (.p (.int .i64 0)), (.p (.bool false)), (.p (.str [])), (.full [])] H fun v4 h5 =>
  aStore 5 v4 v3 h5 fun _ h7 =>
  aLen false false q1s1 fun v8 =>
  aBin false false .geq y0 v8 fun v9 =>
  aGuard v9
  (K (.p (.int .i64 1)) h7)
  (aIndexAddr 5 q1s1 y0 fun v10 =>
  aLoad true 5 v10 h7 fun v11 =>
  aAlloc [(.p (.int .i64 0)), (.p (.int .i64 0)), (.p (.bool false)), (.p (.str [])), (.full [])] h7 fun v12 h13 =>
  aStore 5 v12 v11 h13 fun _ h15 =>
  aLoad true 5 v4 h15 fun v16 =>
  aLoad true 5 v12 h15 fun v17 =>
  aCall Try.prog q1s2 [v16, v17] h15 fun v18 h19 =>
  aBin false false .neq v18 (.p (.int .i64 0)) fun v20 =>
  aGuard v20
  (K v18 h19)
  (aBin false false .add y0 (.p (.int .i64 1)) fun v21 =>
  B1 [v21] h19)))
  (aLen false false q1s0 fun v22 =>
  aLen false false q1s1 fun v23 =>
  aBin false false .lss v22 v23 fun v24 =>
  aGuard v24
  (K (.p (.int .i64 (-1))) H)
  (K (.p (.int .i64 0)) H))

def slices_CompareFunc_val_Value_val_Value_val_Value_val_Value (x0 x1 x2 : AV) (H : List Ob) (K : AV → List Ob → Prop) : Prop :=
  aLen false false x0 fun v0 =>
  aLoopN 1 [(.p (.int .i64 0))] H fun xs H B1 => slices_CompareFunc_val_Value_val_Value_val_Value_val_Value_L1 x0 x1 x2 x0 v0 (xs.getD 0 .top) H B1 K

def slices_CompareFunc_val_Value_val_Value_val_Value_val_Value_ann : Nat → List Nat := fun k => match k with | 2 => [13] | _ => []

theorem slices_CompareFunc_val_Value_val_Value_val_Value_val_Value_eq (x0 x1 x2 : AV) (H : List Ob) (r : AV) (Ho : List Ob) : aBody Try.prog slices_CompareFunc_val_Value_val_Value_val_Value_val_Value_ann Try.f140 H [x0, x1, x2] r Ho = slices_CompareFunc_val_Value_val_Value_val_Value_val_Value x0 x1 x2 H (fun v H' => Gives H.length v H' r Ho) := by kernel_rfl

theorem slices_CompareFunc_val_Value_val_Value_val_Value_val_Value_fn {x0 x1 x2 : AV} {r : AV} {Ho : List Ob} (h : slices_CompareFunc_val_Value_val_Value_val_Value_val_Value x0 x1 x2 [] (fun v H' => Gives 0 v H' r Ho)) : Abs.Fn Try.prog slices_CompareFunc_val_Value_val_Value_val_Value_val_Value_i [] [x0, x1, x2] r Ho :=
  fn_intro mixed slices_CompareFunc_val_Value_val_Value_val_Value_val_Value_ann (fn := Try.f140) (by kernel_rfl) (by kernel_rfl) (by rw [slices_CompareFunc_val_Value_val_Value_val_Value_val_Value_eq]; exact h)

/- runnel/val.check -/
def val_check_L1 (q1s1 q1s2 y0 y1 : AV) (H : List Ob) (B1 : List AV → List Ob → Prop) (K : AV → List Ob → Prop) : Prop :=
  aFieldAddr 4 q1s2 fun v25 =>
  aLoad false 1 v25 H fun v26 =>
  aLen false false v26 fun v27 =>
  aBin false false .lss y1 v27 fun v28 =>
  aMerge true v28 (fun Q29 =>
  aBin false false .eql y0 (.p (.int .i64 0)) fun v30 =>
  (H = H ∧ Q29 v30)) fun v31 =>
  aGuard v31
  (aFieldAddr 4 q1s2 fun v32 =>
  aLoad false 1 v32 H fun v33 =>
  aIndexAddr 5 v33 y1 fun v34 =>
  aLoad true 5 v34 H fun v35 =>
  aBin false false .add q1s1 (.p (.int .i64 1)) fun v36 =>
  aCall Try.prog (.p (.func val_check_i [])) [v35, v36] H fun v37 h38 =>
  aBin false false .add y1 (.p (.int .i64 1)) fun v39 =>
  B1 [v37, v39] h38)
  (K y0 H)

def val_check (x0 x1 : AV) (H : List Ob) (K : AV → List Ob → Prop) : Prop :=
  aBox x0 H fun v0 h1 =>
  aFieldAddr 0 v0 fun v2 =>
  aLoad false 1 v2 h1 fun v3 =>
  aBin false false .lss v3 (.p (.int .i64 1)) fun v4 =>
  aMerge false v4 (fun Q5 =>
  aFieldAddr 0 v0 fun v6 =>
  aLoad false 1 v6 h1 fun v7 =>
  aBin false false .gtr v7 (.p (.int .i64 4)) fun v8 =>
  (h1 = h1 ∧ Q5 v8)) fun v9 =>
  aGuard v9
  (K (.p (.int .i64 5)) h1)
  (aLoad true 5 v0 h1 fun v10 =>
  aCall Try.prog (.p (.func val_spare_i [])) [v10] h1 fun v11 h12 =>
  aGuard v11
  (K (.p (.int .i64 2)) h12)
  (aFieldAddr 3 v0 fun v13 =>
  aLoad false 1 v13 h12 fun v14 =>
  aLen false true v14 fun v15 =>
  aBin false false .gtr v15 (.p (.int .i64 255)) fun v16 =>
  aGuard v16
  (K (.p (.int .i64 4)) h12)
  (aFieldAddr 0 v0 fun v17 =>
  aLoad false 1 v17 h12 fun v18 =>
  aBin false false .neq v18 (.p (.int .i64 4)) fun v19 =>
  aGuard v19
  (K (.p (.int .i64 0)) h12)
  (aFieldAddr 4 v0 fun v20 =>
  aLoad false 1 v20 h12 fun v21 =>
  aLen false false v21 fun v22 =>
  aCall Try.prog (.p (.func typ_Row_i [])) [v22, x1] h12 fun v23 h24 =>
  aLoopN 2 [v23, (.p (.int .i64 0))] h24 fun xs H B1 => val_check_L1 x1 v0 (xs.getD 0 .top) (xs.getD 1 .top) H B1 K))))

def val_check_ann : Nat → List Nat := fun k => match k with | 11 => [5, 6] | _ => []

theorem val_check_eq (x0 x1 : AV) (H : List Ob) (r : AV) (Ho : List Ob) : aBody Try.prog val_check_ann Try.f148 H [x0, x1] r Ho = val_check x0 x1 H (fun v H' => Gives H.length v H' r Ho) := by kernel_rfl

theorem val_check_fn {x0 x1 : AV} {r : AV} {Ho : List Ob} (h : val_check x0 x1 [] (fun v H' => Gives 0 v H' r Ho)) : Abs.Fn Try.prog val_check_i [] [x0, x1] r Ho :=
  fn_intro mixed val_check_ann (fn := Try.f148) (by kernel_rfl) (by kernel_rfl) (by rw [val_check_eq]; exact h)

/- runnel/val.TypeOf -/
def val_TypeOf (x0 : AV) (H : List Ob) (K : AV → List Ob → Prop) : Prop :=
  aBox x0 H fun v0 h1 =>
  aAlloc [(.p (.int .i64 0)), (.full [])] h1 fun v2 h3 =>
  aLoad true 5 v0 h3 fun v4 =>
  aCall Try.prog (.p (.func val_Check_i [])) [v4] h3 fun v5 h6 =>
  aBin false false .neq v5 (.p (.int .i64 0)) fun v7 =>
  aGuard v7
  (aBuild [(.p (.int .i64 0)), (.full [])] [] fun v8 =>
  aStore 2 v2 v8 h6 fun _ h10 =>
  aLoad true 2 v2 h10 fun v11 =>
  K v11 h10)
  (aLoad true 5 v0 h6 fun v12 =>
  aCall Try.prog (.p (.func val_kind_i [])) [v12] h6 fun v13 h14 =>
  aStore 2 v2 v13 h14 fun _ h16 =>
  aLoad true 2 v2 h16 fun v17 =>
  K v17 h16)

def val_TypeOf_ann : Nat → List Nat := fun _ => []

theorem val_TypeOf_eq (x0 : AV) (H : List Ob) (r : AV) (Ho : List Ob) : aBody Try.prog val_TypeOf_ann Try.f150 H [x0] r Ho = val_TypeOf x0 H (fun v H' => Gives H.length v H' r Ho) := by kernel_rfl

theorem val_TypeOf_fn {x0 : AV} {r : AV} {Ho : List Ob} (h : val_TypeOf x0 [] (fun v H' => Gives 0 v H' r Ho)) : Abs.Fn Try.prog val_TypeOf_i [] [x0] r Ho :=
  fn_intro mixed val_TypeOf_ann (fn := Try.f150) (by kernel_rfl) (by kernel_rfl) (by rw [val_TypeOf_eq]; exact h)

/- runnel/val.spare -/
def val_spare (x0 : AV) (H : List Ob) (K : AV → List Ob → Prop) : Prop :=
  aBox x0 H fun v0 h1 =>
  aFieldAddr 0 v0 fun v2 =>
  aLoad false 1 v2 h1 fun v3 =>
  aBin false false .neq v3 (.p (.int .i64 1)) fun v4 =>
  aMerge true v4 (fun Q5 =>
  aFieldAddr 1 v0 fun v6 =>
  aLoad false 1 v6 h1 fun v7 =>
  aBin false false .neq v7 (.p (.int .i64 0)) fun v8 =>
  (h1 = h1 ∧ Q5 v8)) fun v9 =>
  aMerge false v9 (fun Q10 =>
  aFieldAddr 0 v0 fun v11 =>
  aLoad false 1 v11 h1 fun v12 =>
  aBin false false .neq v12 (.p (.int .i64 2)) fun v13 =>
  aMerge true v13 (fun Q14 =>
  aFieldAddr 2 v0 fun v15 =>
  aLoad false 1 v15 h1 fun v16 =>
  (h1 = h1 ∧ Q14 v16)) fun v17 =>
  (h1 = h1 ∧ Q10 v17)) fun v18 =>
  aMerge false v18 (fun Q19 =>
  aFieldAddr 0 v0 fun v20 =>
  aLoad false 1 v20 h1 fun v21 =>
  aBin false false .neq v21 (.p (.int .i64 3)) fun v22 =>
  aMerge true v22 (fun Q23 =>
  aFieldAddr 3 v0 fun v24 =>
  aLoad false 1 v24 h1 fun v25 =>
  aBin false false .neq v25 (.p (.str [])) fun v26 =>
  (h1 = h1 ∧ Q23 v26)) fun v27 =>
  (h1 = h1 ∧ Q19 v27)) fun v28 =>
  aMerge false v28 (fun Q29 =>
  aFieldAddr 0 v0 fun v30 =>
  aLoad false 1 v30 h1 fun v31 =>
  aBin false false .neq v31 (.p (.int .i64 4)) fun v32 =>
  aMerge true v32 (fun Q33 =>
  aFieldAddr 4 v0 fun v34 =>
  aLoad false 1 v34 h1 fun v35 =>
  aLenS false v35 fun v36 =>
  aBin false false .gtr v36 (.p (.int .i64 0)) fun v37 =>
  (h1 = h1 ∧ Q33 v37)) fun v38 =>
  (h1 = h1 ∧ Q29 v38)) fun v39 =>
  K v39 h1

def val_spare_ann : Nat → List Nat := fun _ => []

theorem val_spare_eq (x0 : AV) (H : List Ob) (r : AV) (Ho : List Ob) : aBody Try.prog val_spare_ann Try.f157 H [x0] r Ho = val_spare x0 H (fun v H' => Gives H.length v H' r Ho) := by kernel_rfl

theorem val_spare_fn {x0 : AV} {r : AV} {Ho : List Ob} (h : val_spare x0 [] (fun v H' => Gives 0 v H' r Ho)) : Abs.Fn Try.prog val_spare_i [] [x0] r Ho :=
  fn_intro mixed val_spare_ann (fn := Try.f157) (by kernel_rfl) (by kernel_rfl) (by rw [val_spare_eq]; exact h)

/- runnel/val.kind -/
def val_kind_L1 (q1s2 q1s3 q1s10 q1s11 y0 : AV) (H : List Ob) (B1 : List AV → List Ob → Prop) (K : AV → List Ob → Prop) : Prop :=
  aBin false false .lss y0 q1s11 fun v14 =>
  aGuard v14
  (aIndexAddr 5 q1s10 y0 fun v15 =>
  aLoad true 5 v15 H fun v16 =>
  aAlloc [(.p (.int .i64 0)), (.p (.int .i64 0)), (.p (.bool false)), (.p (.str [])), (.full [])] H fun v17 h18 =>
  aStore 5 v17 v16 h18 fun _ h20 =>
  aFieldAddr 1 q1s3 fun v21 =>
  aLoad false 1 v21 h20 fun v22 =>
  aLoad true 5 v17 h20 fun v23 =>
  aCallT Try.prog (.p (.func val_kind_i [])) [v23] fun v24 =>
  aBuildSlice 2 [v24] fun v25 =>
  aCalm [v22, v25] <|
  aAppend false 2 32 v22 v25 h20 fun v26 h27 =>
  aFieldAddr 1 q1s3 fun v28 =>
  aStore 1 v28 v26 h27 fun _ h30 =>
  aBin false false .add y0 (.p (.int .i64 1)) fun v31 =>
  B1 [v31] h30)
  (aLoad true 2 q1s3 H fun v32 =>
  aStore 2 q1s2 v32 H fun _ h34 =>
  aLoad true 2 q1s2 h34 fun v35 =>
  K v35 h34)

def val_kind (x0 : AV) (H : List Ob) (K : AV → List Ob → Prop) : Prop :=
  aBox x0 H fun v0 h1 =>
  aAlloc [(.p (.int .i64 0)), (.full [])] h1 fun v2 h3 =>
  aFieldAddr 0 v0 fun v4 =>
  aLoad false 1 v4 h3 fun v5 =>
  aBuild [(.p (.int .i64 0)), (.full [])] [(0, 1, v5)] fun v6 =>
  aAlloc [(.p (.int .i64 0)), (.full [])] h3 fun v7 h8 =>
  aStore 2 v7 v6 h8 fun _ h10 =>
  aFieldAddr 4 v0 fun v11 =>
  aLoad false 1 v11 h10 fun v12 =>
  aLen false false v12 fun v13 =>
  aLoopN 1 [(.p (.int .i64 0))] h10 fun xs H B1 => val_kind_L1 v2 v7 v12 v13 (xs.getD 0 .top) H B1 K

def val_kind_ann : Nat → List Nat := fun k => match k with | 3 => [12] | _ => []

theorem val_kind_eq (x0 : AV) (H : List Ob) (r : AV) (Ho : List Ob) : aBody Try.prog val_kind_ann Try.f159 H [x0] r Ho = val_kind x0 H (fun v H' => Gives H.length v H' r Ho) := by kernel_rfl

theorem val_kind_fn {x0 : AV} {r : AV} {Ho : List Ob} (h : val_kind x0 [] (fun v H' => Gives 0 v H' r Ho)) : Abs.Fn Try.prog val_kind_i [] [x0] r Ho :=
  fn_intro mixed val_kind_ann (fn := Try.f159) (by kernel_rfl) (by kernel_rfl) (by rw [val_kind_eq]; exact h)

end Go.Proofs.Ytiejfphchpcldaa
