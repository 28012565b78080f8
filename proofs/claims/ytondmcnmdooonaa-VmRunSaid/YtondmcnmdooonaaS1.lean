/- Made by program (Gen.lean): the functions' numbers. -/
import Derived.Test.YtondmcnmdooonaaProg
import Derived.KernelRfl
import Derived.Test.YtondmcnmdooonaaA3

section
/- Made by program (Gen.lean): the functions' numbers. -/
namespace Go.Proofs.Ytondmcnmdooonaa
open Go Go.Abs

theorem mixed : Try.prog.follows .mixedOrders = true := by kernel_rfl

abbrev main_main_i : Nat := 0
abbrev gosem_cut_i : Nat := 1
abbrev gosem_cut_init_i : Nat := 2
abbrev runnellaw14_VmRun_i : Nat := 3
abbrev runnellaw14_known_i : Nat := 4
abbrev runnellaw11_Few_i : Nat := 5
abbrev runnellaw2_Good_i : Nat := 6
abbrev runnellaw11_Of_i : Nat := 7
abbrev runnelref14_Verify_i : Nat := 8
abbrev runnelref6_TypeOf_i : Nat := 9
abbrev runnellaw2_Of_i : Nat := 10
abbrev vm_Run_i : Nat := 11
abbrev runnelref14_Run_i : Nat := 12
abbrev runnellaw2_SameAll_i : Nat := 13
abbrev val_Int_i : Nat := 14
abbrev vm_Chain_i : Nat := 15
abbrev runnellaw2_Few_i : Nat := 16
abbrev runnelref6_CheckValue_i : Nat := 17
abbrev runnelref14_Check_i : Nat := 18
abbrev runnelref6_CheckType_i : Nat := 19
abbrev runnelref14_Look_step_i : Nat := 20
abbrev vm_stack_val_Value_pop_i : Nat := 21
abbrev vm_machine_does_i : Nat := 22
abbrev runnelref14_takes_i : Nat := 23
abbrev runnelref6_Make_i : Nat := 24
abbrev runnelref6_Same_i : Nat := 25
abbrev vm_Chain_1_i : Nat := 26
abbrev runnellaw2_budget_i : Nat := 27
abbrev runnelref6_checkValue_i : Nat := 28
abbrev runnelref14_inst_i : Nat := 29
abbrev runnelref6_checkType_i : Nat := 30
abbrev runnelref14_Look_made_i : Nat := 31
abbrev runnelref14_Look_lead_i : Nat := 32
abbrev slices_Clone_vm_stack_val_Value_val_Value_i : Nat := 33
abbrev vm_stack_val_Value_push_i : Nat := 34
abbrev val_Tup_i : Nat := 35
abbrev eval_One_i : Nat := 36
abbrev eval_Both_i : Nat := 37
abbrev runnelref6_V_i : Nat := 38
abbrev runnelref6_Yes_i : Nat := 39
abbrev runnelref6_Compare_i : Nat := 40
abbrev runnelref14_number_i : Nat := 41
abbrev runnelref14_counted_i : Nat := 42
abbrev runnelref14_nought_i : Nat := 43
abbrev runnelref6_SameType_i : Nat := 44
abbrev runnelref6_OpType_i : Nat := 45
abbrev runnelref14_sameStack_i : Nat := 46
abbrev slices_Clip_val_Value_val_Value_i : Nat := 47
abbrev slices_Clone_val_Value_val_Value_i : Nat := 48
abbrev eval_ones_i : Nat := 49
abbrev eval_table_func_a_val_Value_val_Value_find_i : Nat := 50
abbrev eval_twos_i : Nat := 51
abbrev eval_table_eval_Two_find_i : Nat := 52
abbrev runnelref6_less_i : Nat := 53
abbrev runnelref14_Ops_i : Nat := 54
abbrev runnelref6_Plain_i : Nat := 55
abbrev eval_ones_1_i : Nat := 56
abbrev eval_ones_2_i : Nat := 57
abbrev val_Bool_i : Nat := 58
abbrev eval_ones_3_i : Nat := 59
abbrev eval_number_i : Nat := 60
abbrev eval_twos_1_i : Nat := 61
abbrev eval_twos_2_i : Nat := 62
abbrev eval_twos_3_i : Nat := 63
abbrev eval_divided_i : Nat := 64
abbrev eval_twos_4_i : Nat := 65
abbrev eval_twos_5_i : Nat := 66
abbrev eval_twos_6_i : Nat := 67
abbrev val_Same_i : Nat := 68
abbrev eval_twos_7_i : Nat := 69
abbrev val_Compare_i : Nat := 70
abbrev eval_cat_i : Nat := 71
abbrev eval_number_1_i : Nat := 72
abbrev eval_divided_1_i : Nat := 73
abbrev cmp_Or_int_i : Nat := 74
abbrev cmp_Compare_int_i : Nat := 75
abbrev cmp_Compare_int64_i : Nat := 76
abbrev val_truth_i : Nat := 77
abbrev strings_Compare_i : Nat := 78
abbrev val_rows_val_Value_i : Nat := 79
abbrev val_Str_i : Nat := 80
abbrev cmp_isNaN_int_i : Nat := 81
abbrev cmp_isNaN_int64_i : Nat := 82
abbrev internal_bytealg_CompareString_i : Nat := 83
abbrev slices_CompareFunc_val_Value_val_Value_val_Value_val_Value_i : Nat := 84
abbrev internal_bytealg_abigen_runtime_cmpstring_i : Nat := 85
abbrev runtime_boundsError_Error_i : Nat := 86
abbrev runtime_boundsError_RuntimeError_i : Nat := 87
abbrev runtime_errorString_Error_i : Nat := 88
abbrev runtime_errorString_RuntimeError_i : Nat := 89
abbrev runtime_plainError_Error_i : Nat := 90
abbrev runtime_plainError_RuntimeError_i : Nat := 91
abbrev runtime_errorAddressString_Error_i : Nat := 92
abbrev runtime_errorAddressString_RuntimeError_i : Nat := 93
abbrev runtime_TypeAssertionError_Error_i : Nat := 94
abbrev runtime_TypeAssertionError_RuntimeError_i : Nat := 95
abbrev runtime_PanicNilError_Error_i : Nat := 96
abbrev runtime_PanicNilError_RuntimeError_i : Nat := 97
abbrev internal_abi_Type_Align_i : Nat := 98
abbrev internal_runtime_maps_unhashableTypeError_Error_i : Nat := 99
abbrev internal_runtime_maps_unhashableTypeError_RuntimeError_i : Nat := 100
abbrev api_Errno_Error_i : Nat := 101
abbrev code_Inst_right_i : Nat := 102
abbrev internal_abi_Kind_String_i : Nat := 103

end Go.Proofs.Ytondmcnmdooonaa
end

section
/- Made by program (Gen.lean): functions of the dump, over trees. -/
set_option maxRecDepth 4000
set_option linter.unusedVariables false
namespace Go.Proofs.Ytondmcnmdooonaa
open Go Go.Abs

/- runnel/runnelref6.CheckType -/
def runnelref6_CheckType (x0 : AV) (H : List Ob) (K : AV → List Ob → Prop) : Prop :=
  aBox x0 H fun v0 h1 =>
  aLoad true 2 v0 h1 fun v2 =>
  aCall Try.prog (.p (.func runnelref6_checkType_i [])) [v2, (.p (.int .i64 0))] h1 fun v3 h4 =>
  K v3 h4

def runnelref6_CheckType_ann : Nat → List Nat := fun _ => []

theorem runnelref6_CheckType_eq (x0 : AV) (H : List Ob) (r : AV) (Ho : List Ob) : aBody Try.prog runnelref6_CheckType_ann Try.f19 H [x0] r Ho = runnelref6_CheckType x0 H (fun v H' => Gives H.length v H' r Ho) := by kernel_rfl

theorem runnelref6_CheckType_fnH {x0 : AV} {Hin : List Ob} {r : AV} {Ho : List Ob} (h : runnelref6_CheckType x0 Hin (fun v H' => Gives Hin.length v H' r Ho)) : Abs.Fn Try.prog runnelref6_CheckType_i Hin [x0] r Ho :=
  fn_intro mixed runnelref6_CheckType_ann (fn := Try.f19) (by kernel_rfl) (by kernel_rfl) (by rw [runnelref6_CheckType_eq]; exact h)

theorem runnelref6_CheckType_fn {x0 : AV} {r : AV} {Ho : List Ob} (h : runnelref6_CheckType x0 [] (fun v H' => Gives 0 v H' r Ho)) : Abs.Fn Try.prog runnelref6_CheckType_i [] [x0] r Ho := runnelref6_CheckType_fnH (Hin := []) h

/- runnel/runnelref6.checkType -/
def runnelref6_checkType_L1 (q1s1 q1s2 y0 : AV) (H : List Ob) (B1 : List AV → List Ob → Prop) (K : AV → List Ob → Prop) : Prop :=
  aFieldAddr 1 q1s2 fun v33 =>
  aLoad false 1 v33 H fun v34 =>
  aLen false false v34 fun v35 =>
  aBin false false .lss y0 v35 fun v36 =>
  aGuard v36
  (aFieldAddr 1 q1s2 fun v37 =>
  aLoad false 1 v37 H fun v38 =>
  aIndexAddr 2 v38 y0 fun v39 =>
  aLoad true 2 v39 H fun v40 =>
  aBin false false .add q1s1 (.p (.int .i64 1)) fun v41 =>
  aCall Try.prog (.p (.func runnelref6_checkType_i [])) [v40, v41] H fun v42 h43 =>
  aBin false false .neq v42 (.p (.int .i64 0)) fun v44 =>
  aGuard v44
  (K v42 h43)
  (aBin false false .add y0 (.p (.int .i64 1)) fun v45 =>
  B1 [v45] h43))
  (K (.p (.int .i64 0)) H)

def runnelref6_checkType (x0 x1 : AV) (H : List Ob) (K : AV → List Ob → Prop) : Prop :=
  aBox x0 H fun v0 h1 =>
  aFieldAddr 0 v0 fun v2 =>
  aLoad false 1 v2 h1 fun v3 =>
  aBin false false .lss v3 (.p (.int .i64 1)) fun v4 =>
  aMerge false v4 (fun Q5 =>
  aFieldAddr 0 v0 fun v6 =>
  aLoad false 1 v6 h1 fun v7 =>
  aBin false false .gtr v7 (.p (.int .i64 4)) fun v8 =>
  (h1 = h1 ∧ Q5 v8)) fun v9 =>
  aMerge false v9 (fun Q10 =>
  aFieldAddr 0 v0 fun v11 =>
  aLoad false 1 v11 h1 fun v12 =>
  aBin false false .neq v12 (.p (.int .i64 4)) fun v13 =>
  aMerge true v13 (fun Q14 =>
  aFieldAddr 1 v0 fun v15 =>
  aLoad false 1 v15 h1 fun v16 =>
  aLenS false v16 fun v17 =>
  aBin false false .gtr v17 (.p (.int .i64 0)) fun v18 =>
  (h1 = h1 ∧ Q14 v18)) fun v19 =>
  (h1 = h1 ∧ Q10 v19)) fun v20 =>
  aGuard v20
  (K (.p (.int .i64 5)) h1)
  (aFieldAddr 0 v0 fun v21 =>
  aLoad false 1 v21 h1 fun v22 =>
  aBin false false .neq v22 (.p (.int .i64 4)) fun v23 =>
  aGuard v23
  (K (.p (.int .i64 0)) h1)
  (aFieldAddr 1 v0 fun v24 =>
  aLoad false 1 v24 h1 fun v25 =>
  aLen false false v25 fun v26 =>
  aBin false false .eql v26 (.p (.int .i64 0)) fun v27 =>
  aGuard v27
  (K (.p (.int .i64 1)) h1)
  (aFieldAddr 1 v0 fun v28 =>
  aLoad false 1 v28 h1 fun v29 =>
  aLen false false v29 fun v30 =>
  aBin false false .gtr v30 (.p (.int .i64 8)) fun v31 =>
  aGuard v31
  (K (.p (.int .i64 10)) h1)
  (aBin false false .gtr x1 (.p (.int .i64 4)) fun v32 =>
  aGuard v32
  (K (.p (.int .i64 9)) h1)
  (aLoopN 1 [(.p (.int .i64 0))] h1 fun xs H B1 => runnelref6_checkType_L1 x1 v0 (xs.getD 0 .top) H B1 K)))))

def runnelref6_checkType_ann : Nat → List Nat := fun k => match k with | 12 => [5] | _ => []

theorem runnelref6_checkType_eq (x0 x1 : AV) (H : List Ob) (r : AV) (Ho : List Ob) : aBody Try.prog runnelref6_checkType_ann Try.f30 H [x0, x1] r Ho = runnelref6_checkType x0 x1 H (fun v H' => Gives H.length v H' r Ho) := by kernel_rfl

theorem runnelref6_checkType_fnH {x0 x1 : AV} {Hin : List Ob} {r : AV} {Ho : List Ob} (h : runnelref6_checkType x0 x1 Hin (fun v H' => Gives Hin.length v H' r Ho)) : Abs.Fn Try.prog runnelref6_checkType_i Hin [x0, x1] r Ho :=
  fn_intro mixed runnelref6_checkType_ann (fn := Try.f30) (by kernel_rfl) (by kernel_rfl) (by rw [runnelref6_checkType_eq]; exact h)

theorem runnelref6_checkType_fn {x0 x1 : AV} {r : AV} {Ho : List Ob} (h : runnelref6_checkType x0 x1 [] (fun v H' => Gives 0 v H' r Ho)) : Abs.Fn Try.prog runnelref6_checkType_i [] [x0, x1] r Ho := runnelref6_checkType_fnH (Hin := []) h

/- runnel/runnelref6.SameType -/
def runnelref6_SameType_L1 (q1s2 q1s3 y0 : AV) (H : List Ob) (B1 : List AV → List Ob → Prop) (K : AV → List Ob → Prop) : Prop :=
  aFieldAddr 1 q1s2 fun v18 =>
  aLoad false 1 v18 H fun v19 =>
  aLen false false v19 fun v20 =>
  aBin false false .lss y0 v20 fun v21 =>
  aGuard v21
  (aFieldAddr 1 q1s2 fun v22 =>
  aLoad false 1 v22 H fun v23 =>
  aIndexAddr 2 v23 y0 fun v24 =>
  aLoad true 2 v24 H fun v25 =>
  aFieldAddr 1 q1s3 fun v26 =>
  aLoad false 1 v26 H fun v27 =>
  aIndexAddr 2 v27 y0 fun v28 =>
  aLoad true 2 v28 H fun v29 =>
  aCallT Try.prog (.p (.func runnelref6_SameType_i [])) [v25, v29] fun v30 =>
  aUn .not v30 fun v31 =>
  aGuard v31
  (K (.p (.bool false)) H)
  (aBin false false .add y0 (.p (.int .i64 1)) fun v32 =>
  B1 [v32] H))
  (K (.p (.bool true)) H)

def runnelref6_SameType (x0 x1 : AV) (H : List Ob) (K : AV → List Ob → Prop) : Prop :=
  aBox x0 H fun v0 h1 =>
  aBox x1 h1 fun v2 h3 =>
  aFieldAddr 0 v0 fun v4 =>
  aLoad false 1 v4 h3 fun v5 =>
  aFieldAddr 0 v2 fun v6 =>
  aLoad false 1 v6 h3 fun v7 =>
  aBin false false .neq v5 v7 fun v8 =>
  aMerge false v8 (fun Q9 =>
  aFieldAddr 1 v0 fun v10 =>
  aLoad false 1 v10 h3 fun v11 =>
  aLenS false v11 fun v12 =>
  aFieldAddr 1 v2 fun v13 =>
  aLoad false 1 v13 h3 fun v14 =>
  aLenS false v14 fun v15 =>
  aBin false false .neq v12 v15 fun v16 =>
  (h3 = h3 ∧ Q9 v16)) fun v17 =>
  aGuard v17
  (K (.p (.bool false)) h3)
  (aLoopN 1 [(.p (.int .i64 0))] h3 fun xs H B1 => runnelref6_SameType_L1 v0 v2 (xs.getD 0 .top) H B1 K)

def runnelref6_SameType_ann : Nat → List Nat := fun k => match k with | 4 => [5] | _ => []

theorem runnelref6_SameType_eq (x0 x1 : AV) (H : List Ob) (r : AV) (Ho : List Ob) : aBody Try.prog runnelref6_SameType_ann Try.f44 H [x0, x1] r Ho = runnelref6_SameType x0 x1 H (fun v H' => Gives H.length v H' r Ho) := by kernel_rfl

theorem runnelref6_SameType_fnH {x0 x1 : AV} {Hin : List Ob} {r : AV} {Ho : List Ob} (h : runnelref6_SameType x0 x1 Hin (fun v H' => Gives Hin.length v H' r Ho)) : Abs.Fn Try.prog runnelref6_SameType_i Hin [x0, x1] r Ho :=
  fn_intro mixed runnelref6_SameType_ann (fn := Try.f44) (by kernel_rfl) (by kernel_rfl) (by rw [runnelref6_SameType_eq]; exact h)

theorem runnelref6_SameType_fn {x0 x1 : AV} {r : AV} {Ho : List Ob} (h : runnelref6_SameType x0 x1 [] (fun v H' => Gives 0 v H' r Ho)) : Abs.Fn Try.prog runnelref6_SameType_i [] [x0, x1] r Ho := runnelref6_SameType_fnH (Hin := []) h

end Go.Proofs.Ytondmcnmdooonaa
end

section
/- Made by program (Gen.lean): functions of the dump, over trees. -/
set_option maxRecDepth 4000
set_option linter.unusedVariables false
namespace Go.Proofs.Ytondmcnmdooonaa
open Go Go.Abs

/- runnel/runnellaw2.Good -/
def runnellaw2_Good (x0 : AV) (H : List Ob) (K : AV → List Ob → Prop) : Prop :=
  aBox x0 H fun v0 h1 =>
  aLoad true 5 v0 h1 fun v2 =>
  aCall Try.prog (.p (.func runnellaw2_Few_i [])) [v2] h1 fun v3 h4 =>
  aMerge true v3 (fun Q5 =>
  aLoad true 5 v0 h4 fun v6 =>
  aCall Try.prog (.p (.func runnellaw2_Of_i [])) [v6] h4 fun v7 h8 =>
  aCall Try.prog (.p (.func runnelref6_CheckValue_i [])) [v7] h8 fun v9 h10 =>
  aBin false false .eql v9 (.p (.int .i64 0)) fun v11 =>
  (h10 = h4 ∧ Q5 v11)) fun v12 =>
  K v12 h4

def runnellaw2_Good_ann : Nat → List Nat := fun _ => []

theorem runnellaw2_Good_eq (x0 : AV) (H : List Ob) (r : AV) (Ho : List Ob) : aBody Try.prog runnellaw2_Good_ann Try.f6 H [x0] r Ho = runnellaw2_Good x0 H (fun v H' => Gives H.length v H' r Ho) := by kernel_rfl

theorem runnellaw2_Good_fnH {x0 : AV} {Hin : List Ob} {r : AV} {Ho : List Ob} (h : runnellaw2_Good x0 Hin (fun v H' => Gives Hin.length v H' r Ho)) : Abs.Fn Try.prog runnellaw2_Good_i Hin [x0] r Ho :=
  fn_intro mixed runnellaw2_Good_ann (fn := Try.f6) (by kernel_rfl) (by kernel_rfl) (by rw [runnellaw2_Good_eq]; exact h)

theorem runnellaw2_Good_fn {x0 : AV} {r : AV} {Ho : List Ob} (h : runnellaw2_Good x0 [] (fun v H' => Gives 0 v H' r Ho)) : Abs.Fn Try.prog runnellaw2_Good_i [] [x0] r Ho := runnellaw2_Good_fnH (Hin := []) h

/- runnel/runnelref6.TypeOf -/
def runnelref6_TypeOf_L1 (q1s1 q1s2 q1s3 y0 : AV) (H : List Ob) (B1 : List AV → List Ob → Prop) (K : AV → List Ob → Prop) : Prop :=
  aFieldAddr 4 q1s1 fun v11 =>
  aLoad false 1 v11 H fun v12 =>
  aLen false false v12 fun v13 =>
  aBin false false .lss y0 v13 fun v14 =>
  aGuard v14
  (aFieldAddr 1 q1s3 fun v15 =>
  aLoad false 1 v15 H fun v16 =>
  aFieldAddr 4 q1s1 fun v17 =>
  aLoad false 1 v17 H fun v18 =>
  aIndexAddr 5 v18 y0 fun v19 =>
  aLoad true 5 v19 H fun v20 =>
  aCallT Try.prog (.p (.func runnelref6_TypeOf_i [])) [v20] fun v21 =>
  aBuildSlice 2 [v21] fun v22 =>
  aCalm [v16, v22] <|
  aAppend false 2 32 v16 v22 H fun v23 h24 =>
  aFieldAddr 1 q1s3 fun v25 =>
  aStore 1 v25 v23 h24 fun _ h27 =>
  aBin false false .add y0 (.p (.int .i64 1)) fun v28 =>
  B1 [v28] h27)
  (aLoad true 2 q1s3 H fun v29 =>
  aStore 2 q1s2 v29 H fun _ h31 =>
  aLoad true 2 q1s2 h31 fun v32 =>
  K v32 h31)

def runnelref6_TypeOf (x0 : AV) (H : List Ob) (K : AV → List Ob → Prop) : Prop :=
  aBox x0 H fun v0 h1 =>
  aAlloc [(.p (.int .i64 0)), (.full [])] h1 fun v2 h3 =>
  aFieldAddr 0 v0 fun v4 =>
  aLoad false 1 v4 h3 fun v5 =>
  aBuild [(.p (.int .i64 0)), (.full [])] [(0, 1, v5)] fun v6 =>
  aAlloc [(.p (.int .i64 0)), (.full [])] h3 fun v7 h8 =>
  aStore 2 v7 v6 h8 fun _ h10 =>
  aLoopN 1 [(.p (.int .i64 0))] h10 fun xs H B1 => runnelref6_TypeOf_L1 v0 v2 v7 (xs.getD 0 .top) H B1 K

def runnelref6_TypeOf_ann : Nat → List Nat := fun k => match k with | 3 => [4] | _ => []

theorem runnelref6_TypeOf_eq (x0 : AV) (H : List Ob) (r : AV) (Ho : List Ob) : aBody Try.prog runnelref6_TypeOf_ann Try.f9 H [x0] r Ho = runnelref6_TypeOf x0 H (fun v H' => Gives H.length v H' r Ho) := by kernel_rfl

theorem runnelref6_TypeOf_fnH {x0 : AV} {Hin : List Ob} {r : AV} {Ho : List Ob} (h : runnelref6_TypeOf x0 Hin (fun v H' => Gives Hin.length v H' r Ho)) : Abs.Fn Try.prog runnelref6_TypeOf_i Hin [x0] r Ho :=
  fn_intro mixed runnelref6_TypeOf_ann (fn := Try.f9) (by kernel_rfl) (by kernel_rfl) (by rw [runnelref6_TypeOf_eq]; exact h)

theorem runnelref6_TypeOf_fn {x0 : AV} {r : AV} {Ho : List Ob} (h : runnelref6_TypeOf x0 [] (fun v H' => Gives 0 v H' r Ho)) : Abs.Fn Try.prog runnelref6_TypeOf_i [] [x0] r Ho := runnelref6_TypeOf_fnH (Hin := []) h

/- runnel/runnellaw2.Of -/
def runnellaw2_Of_L1 (q1s1 q1s2 q1s3 y0 : AV) (H : List Ob) (B1 : List AV → List Ob → Prop) (K : AV → List Ob → Prop) : Prop :=
  aFieldAddr 4 q1s1 fun v17 =>
  aLoad false 1 v17 H fun v18 =>
  aLen false false v18 fun v19 =>
  aBin false false .lss y0 v19 fun v20 =>
  aGuard v20
  (aFieldAddr 4 q1s3 fun v21 =>
  aLoad false 1 v21 H fun v22 =>
  aFieldAddr 4 q1s1 fun v23 =>
  aLoad false 1 v23 H fun v24 =>
  aIndexAddr 5 v24 y0 fun v25 =>
  aLoad true 5 v25 H fun v26 =>
  aCallT Try.prog (.p (.func runnellaw2_Of_i [])) [v26] fun v27 =>
  aBuildSlice 5 [v27] fun v28 =>
  aCalm [v22, v28] <|
  aAppend false 5 64 v22 v28 H fun v29 h30 =>
  aFieldAddr 4 q1s3 fun v31 =>
  aStore 1 v31 v29 h30 fun _ h33 =>
  aBin false false .add y0 (.p (.int .i64 1)) fun v34 =>
  B1 [v34] h33)
  (aLoad true 5 q1s3 H fun v35 =>
  aStore 5 q1s2 v35 H fun _ h37 =>
  aLoad true 5 q1s2 h37 fun v38 =>
  K v38 h37)

def runnellaw2_Of (x0 : AV) (H : List Ob) (K : AV → List Ob → Prop) : Prop :=
  aBox x0 H fun v0 h1 =>
  aAlloc [(.p (.int .i64 0)), (.p (.int .i64 0)), (.p (.bool false)), (.p (.str [])), (.full [])] h1 fun v2 h3 =>
  aFieldAddr 0 v0 fun v4 =>
  aLoad false 1 v4 h3 fun v5 =>
  aFieldAddr 1 v0 fun v6 =>
  aLoad false 1 v6 h3 fun v7 =>
  aFieldAddr 2 v0 fun v8 =>
  aLoad false 1 v8 h3 fun v9 =>
  aFieldAddr 3 v0 fun v10 =>
  aLoad false 1 v10 h3 fun v11 =>
  aBuild [(.p (.int .i64 0)), (.p (.int .i64 0)), (.p (.bool false)), (.p (.str [])), (.full [])] [(0, 1, v5), (1, 1, v7), (2, 1, v9), (3, 1, v11)] fun v12 =>
  aAlloc [(.p (.int .i64 0)), (.p (.int .i64 0)), (.p (.bool false)), (.p (.str [])), (.full [])] h3 fun v13 h14 =>
  aStore 5 v13 v12 h14 fun _ h16 =>
  aLoopN 1 [(.p (.int .i64 0))] h16 fun xs H B1 => runnellaw2_Of_L1 v0 v2 v13 (xs.getD 0 .top) H B1 K

def runnellaw2_Of_ann : Nat → List Nat := fun k => match k with | 3 => [4] | _ => []

theorem runnellaw2_Of_eq (x0 : AV) (H : List Ob) (r : AV) (Ho : List Ob) : aBody Try.prog runnellaw2_Of_ann Try.f10 H [x0] r Ho = runnellaw2_Of x0 H (fun v H' => Gives H.length v H' r Ho) := by kernel_rfl

theorem runnellaw2_Of_fnH {x0 : AV} {Hin : List Ob} {r : AV} {Ho : List Ob} (h : runnellaw2_Of x0 Hin (fun v H' => Gives Hin.length v H' r Ho)) : Abs.Fn Try.prog runnellaw2_Of_i Hin [x0] r Ho :=
  fn_intro mixed runnellaw2_Of_ann (fn := Try.f10) (by kernel_rfl) (by kernel_rfl) (by rw [runnellaw2_Of_eq]; exact h)

theorem runnellaw2_Of_fn {x0 : AV} {r : AV} {Ho : List Ob} (h : runnellaw2_Of x0 [] (fun v H' => Gives 0 v H' r Ho)) : Abs.Fn Try.prog runnellaw2_Of_i [] [x0] r Ho := runnellaw2_Of_fnH (Hin := []) h

/- runnel/runnellaw2.SameAll -/
def runnellaw2_SameAll_L1 (q1s0 q1s1 y0 : AV) (H : List Ob) (B1 : List AV → List Ob → Prop) (K : AV → List Ob → Prop) : Prop :=
  aLen false false q1s0 fun v3 =>
  aBin false false .lss y0 v3 fun v4 =>
  aGuard v4
  (aIndexAddr 5 q1s0 y0 fun v5 =>
  aLoad true 5 v5 H fun v6 =>
  aCallT Try.prog (.p (.func runnellaw2_Of_i [])) [v6] fun v7 =>
  aIndexAddr 5 q1s1 y0 fun v8 =>
  aLoad true 5 v8 H fun v9 =>
  aCallT Try.prog (.p (.func runnelref6_Same_i [])) [v7, v9] fun v10 =>
  aUn .not v10 fun v11 =>
  aGuard v11
  (K (.p (.bool false)) H)
  (aBin false false .add y0 (.p (.int .i64 1)) fun v12 =>
  B1 [v12] H))
  (K (.p (.bool true)) H)

def runnellaw2_SameAll (x0 x1 : AV) (H : List Ob) (K : AV → List Ob → Prop) : Prop :=
  aLen false false x0 fun v0 =>
  aLen false false x1 fun v1 =>
  aBin false false .neq v0 v1 fun v2 =>
  aGuard v2
  (K (.p (.bool false)) H)
  (aLoopN 1 [(.p (.int .i64 0))] H fun xs H B1 => runnellaw2_SameAll_L1 x0 x1 (xs.getD 0 .top) H B1 K)

def runnellaw2_SameAll_ann : Nat → List Nat := fun k => match k with | 4 => [5] | _ => []

theorem runnellaw2_SameAll_eq (x0 x1 : AV) (H : List Ob) (r : AV) (Ho : List Ob) : aBody Try.prog runnellaw2_SameAll_ann Try.f13 H [x0, x1] r Ho = runnellaw2_SameAll x0 x1 H (fun v H' => Gives H.length v H' r Ho) := by kernel_rfl

theorem runnellaw2_SameAll_fnH {x0 x1 : AV} {Hin : List Ob} {r : AV} {Ho : List Ob} (h : runnellaw2_SameAll x0 x1 Hin (fun v H' => Gives Hin.length v H' r Ho)) : Abs.Fn Try.prog runnellaw2_SameAll_i Hin [x0, x1] r Ho :=
  fn_intro mixed runnellaw2_SameAll_ann (fn := Try.f13) (by kernel_rfl) (by kernel_rfl) (by rw [runnellaw2_SameAll_eq]; exact h)

theorem runnellaw2_SameAll_fn {x0 x1 : AV} {r : AV} {Ho : List Ob} (h : runnellaw2_SameAll x0 x1 [] (fun v H' => Gives 0 v H' r Ho)) : Abs.Fn Try.prog runnellaw2_SameAll_i [] [x0, x1] r Ho := runnellaw2_SameAll_fnH (Hin := []) h

/- runnel/val.Int -/
def val_Int (x0 : AV) (H : List Ob) (K : AV → List Ob → Prop) : Prop :=
  aAlloc [(.p (.int .i64 0)), (.p (.int .i64 0)), (.p (.bool false)), (.p (.str [])), (.full [])] H fun v0 h1 =>
  aBuild [(.p (.int .i64 0)), (.p (.int .i64 0)), (.p (.bool false)), (.p (.str [])), (.full [])] [(0, 1, (.p (.int .i64 1))), (1, 1, x0)] fun v2 =>
  aStore 5 v0 v2 h1 fun _ h4 =>
  aLoad true 5 v0 h4 fun v5 =>
  K v5 h4

def val_Int_ann : Nat → List Nat := fun _ => []

theorem val_Int_eq (x0 : AV) (H : List Ob) (r : AV) (Ho : List Ob) : aBody Try.prog val_Int_ann Try.f14 H [x0] r Ho = val_Int x0 H (fun v H' => Gives H.length v H' r Ho) := by kernel_rfl

theorem val_Int_fnH {x0 : AV} {Hin : List Ob} {r : AV} {Ho : List Ob} (h : val_Int x0 Hin (fun v H' => Gives Hin.length v H' r Ho)) : Abs.Fn Try.prog val_Int_i Hin [x0] r Ho :=
  fn_intro mixed val_Int_ann (fn := Try.f14) (by kernel_rfl) (by kernel_rfl) (by rw [val_Int_eq]; exact h)

theorem val_Int_fn {x0 : AV} {r : AV} {Ho : List Ob} (h : val_Int x0 [] (fun v H' => Gives 0 v H' r Ho)) : Abs.Fn Try.prog val_Int_i [] [x0] r Ho := val_Int_fnH (Hin := []) h

/- runnel/runnellaw2.Few -/
def runnellaw2_Few (x0 : AV) (H : List Ob) (K : AV → List Ob → Prop) : Prop :=
  aBox x0 H fun v0 h1 =>
  aLoad true 5 v0 h1 fun v2 =>
  aCall Try.prog (.p (.func runnellaw2_budget_i [])) [v2, (.p (.int .i64 12)), (.p (.int .i64 300))] h1 fun v3 h4 =>
  aBin false false .gtr v3 (.p (.int .i64 0)) fun v5 =>
  K v5 h4

def runnellaw2_Few_ann : Nat → List Nat := fun _ => []

theorem runnellaw2_Few_eq (x0 : AV) (H : List Ob) (r : AV) (Ho : List Ob) : aBody Try.prog runnellaw2_Few_ann Try.f16 H [x0] r Ho = runnellaw2_Few x0 H (fun v H' => Gives H.length v H' r Ho) := by kernel_rfl

theorem runnellaw2_Few_fnH {x0 : AV} {Hin : List Ob} {r : AV} {Ho : List Ob} (h : runnellaw2_Few x0 Hin (fun v H' => Gives Hin.length v H' r Ho)) : Abs.Fn Try.prog runnellaw2_Few_i Hin [x0] r Ho :=
  fn_intro mixed runnellaw2_Few_ann (fn := Try.f16) (by kernel_rfl) (by kernel_rfl) (by rw [runnellaw2_Few_eq]; exact h)

theorem runnellaw2_Few_fn {x0 : AV} {r : AV} {Ho : List Ob} (h : runnellaw2_Few x0 [] (fun v H' => Gives 0 v H' r Ho)) : Abs.Fn Try.prog runnellaw2_Few_i [] [x0] r Ho := runnellaw2_Few_fnH (Hin := []) h

/- runnel/runnelref6.CheckValue -/
def runnelref6_CheckValue (x0 : AV) (H : List Ob) (K : AV → List Ob → Prop) : Prop :=
  aBox x0 H fun v0 h1 =>
  aLoad true 5 v0 h1 fun v2 =>
  aCall Try.prog (.p (.func runnelref6_checkValue_i [])) [v2, (.p (.int .i64 0))] h1 fun v3 h4 =>
  K v3 h4

def runnelref6_CheckValue_ann : Nat → List Nat := fun _ => []

theorem runnelref6_CheckValue_eq (x0 : AV) (H : List Ob) (r : AV) (Ho : List Ob) : aBody Try.prog runnelref6_CheckValue_ann Try.f17 H [x0] r Ho = runnelref6_CheckValue x0 H (fun v H' => Gives H.length v H' r Ho) := by kernel_rfl

theorem runnelref6_CheckValue_fnH {x0 : AV} {Hin : List Ob} {r : AV} {Ho : List Ob} (h : runnelref6_CheckValue x0 Hin (fun v H' => Gives Hin.length v H' r Ho)) : Abs.Fn Try.prog runnelref6_CheckValue_i Hin [x0] r Ho :=
  fn_intro mixed runnelref6_CheckValue_ann (fn := Try.f17) (by kernel_rfl) (by kernel_rfl) (by rw [runnelref6_CheckValue_eq]; exact h)

theorem runnelref6_CheckValue_fn {x0 : AV} {r : AV} {Ho : List Ob} (h : runnelref6_CheckValue x0 [] (fun v H' => Gives 0 v H' r Ho)) : Abs.Fn Try.prog runnelref6_CheckValue_i [] [x0] r Ho := runnelref6_CheckValue_fnH (Hin := []) h

/- runnel/runnelref6.Same -/
def runnelref6_Same (x0 x1 : AV) (H : List Ob) (K : AV → List Ob → Prop) : Prop :=
  aBox x0 H fun v0 h1 =>
  aBox x1 h1 fun v2 h3 =>
  aLoad true 5 v0 h3 fun v4 =>
  aLoad true 5 v2 h3 fun v5 =>
  aCall Try.prog (.p (.func runnelref6_Compare_i [])) [v4, v5] h3 fun v6 h7 =>
  aBin false false .eql v6 (.p (.int .i64 0)) fun v8 =>
  K v8 h7

def runnelref6_Same_ann : Nat → List Nat := fun _ => []

theorem runnelref6_Same_eq (x0 x1 : AV) (H : List Ob) (r : AV) (Ho : List Ob) : aBody Try.prog runnelref6_Same_ann Try.f25 H [x0, x1] r Ho = runnelref6_Same x0 x1 H (fun v H' => Gives H.length v H' r Ho) := by kernel_rfl

theorem runnelref6_Same_fnH {x0 x1 : AV} {Hin : List Ob} {r : AV} {Ho : List Ob} (h : runnelref6_Same x0 x1 Hin (fun v H' => Gives Hin.length v H' r Ho)) : Abs.Fn Try.prog runnelref6_Same_i Hin [x0, x1] r Ho :=
  fn_intro mixed runnelref6_Same_ann (fn := Try.f25) (by kernel_rfl) (by kernel_rfl) (by rw [runnelref6_Same_eq]; exact h)

theorem runnelref6_Same_fn {x0 x1 : AV} {r : AV} {Ho : List Ob} (h : runnelref6_Same x0 x1 [] (fun v H' => Gives 0 v H' r Ho)) : Abs.Fn Try.prog runnelref6_Same_i [] [x0, x1] r Ho := runnelref6_Same_fnH (Hin := []) h

/- runnel/runnellaw2.budget -/
def runnellaw2_budget_L1 (q1s1 q1s3 y0 y1 : AV) (H : List Ob) (B1 : List AV → List Ob → Prop) (K : AV → List Ob → Prop) : Prop :=
  aFieldAddr 4 q1s3 fun v19 =>
  aLoad false 1 v19 H fun v20 =>
  aLen false false v20 fun v21 =>
  aBin false false .lss y1 v21 fun v22 =>
  aMerge true v22 (fun Q23 =>
  aBin false false .gtr y0 (.p (.int .i64 0)) fun v24 =>
  (H = H ∧ Q23 v24)) fun v25 =>
  aGuard v25
  (aFieldAddr 4 q1s3 fun v26 =>
  aLoad false 1 v26 H fun v27 =>
  aIndexAddr 5 v27 y1 fun v28 =>
  aLoad true 5 v28 H fun v29 =>
  aBin false false .sub q1s1 (.p (.int .i64 1)) fun v30 =>
  aCall Try.prog (.p (.func runnellaw2_budget_i [])) [v29, v30, y0] H fun v31 h32 =>
  aBin false false .add y1 (.p (.int .i64 1)) fun v33 =>
  B1 [v31, v33] h32)
  (K y0 H)

def runnellaw2_budget (x0 x1 x2 : AV) (H : List Ob) (K : AV → List Ob → Prop) : Prop :=
  aBox x0 H fun v0 h1 =>
  aBin false false .leq x2 (.p (.int .i64 0)) fun v2 =>
  aMerge false v2 (fun Q3 =>
  aBin false false .leq x1 (.p (.int .i64 0)) fun v4 =>
  (h1 = h1 ∧ Q3 v4)) fun v5 =>
  aMerge false v5 (fun Q6 =>
  aFieldAddr 4 v0 fun v7 =>
  aLoad false 1 v7 h1 fun v8 =>
  aLenS false v8 fun v9 =>
  aBin false false .gtr v9 (.p (.int .i64 20)) fun v10 =>
  (h1 = h1 ∧ Q6 v10)) fun v11 =>
  aMerge false v11 (fun Q12 =>
  aFieldAddr 3 v0 fun v13 =>
  aLoad false 1 v13 h1 fun v14 =>
  aLenS true v14 fun v15 =>
  aBin false false .gtr v15 (.p (.int .i64 300)) fun v16 =>
  (h1 = h1 ∧ Q12 v16)) fun v17 =>
  aGuard v17
  (K (.p (.int .i64 0)) h1)
  (aBin false false .sub x2 (.p (.int .i64 1)) fun v18 =>
  aLoopN 2 [v18, (.p (.int .i64 0))] h1 fun xs H B1 => runnellaw2_budget_L1 x1 v0 (xs.getD 0 .top) (xs.getD 1 .top) H B1 K)

def runnellaw2_budget_ann : Nat → List Nat := fun k => match k with | 5 => [2, 7] | _ => []

theorem runnellaw2_budget_eq (x0 x1 x2 : AV) (H : List Ob) (r : AV) (Ho : List Ob) : aBody Try.prog runnellaw2_budget_ann Try.f27 H [x0, x1, x2] r Ho = runnellaw2_budget x0 x1 x2 H (fun v H' => Gives H.length v H' r Ho) := by kernel_rfl

theorem runnellaw2_budget_fnH {x0 x1 x2 : AV} {Hin : List Ob} {r : AV} {Ho : List Ob} (h : runnellaw2_budget x0 x1 x2 Hin (fun v H' => Gives Hin.length v H' r Ho)) : Abs.Fn Try.prog runnellaw2_budget_i Hin [x0, x1, x2] r Ho :=
  fn_intro mixed runnellaw2_budget_ann (fn := Try.f27) (by kernel_rfl) (by kernel_rfl) (by rw [runnellaw2_budget_eq]; exact h)

theorem runnellaw2_budget_fn {x0 x1 x2 : AV} {r : AV} {Ho : List Ob} (h : runnellaw2_budget x0 x1 x2 [] (fun v H' => Gives 0 v H' r Ho)) : Abs.Fn Try.prog runnellaw2_budget_i [] [x0, x1, x2] r Ho := runnellaw2_budget_fnH (Hin := []) h

/- runnel/runnelref6.checkValue -/
def runnelref6_checkValue_L1 (q1s1 q1s2 y0 : AV) (H : List Ob) (B1 : List AV → List Ob → Prop) (K : AV → List Ob → Prop) : Prop :=
  aFieldAddr 4 q1s2 fun v64 =>
  aLoad false 1 v64 H fun v65 =>
  aLen false false v65 fun v66 =>
  aBin false false .lss y0 v66 fun v67 =>
  aGuard v67
  (aFieldAddr 4 q1s2 fun v68 =>
  aLoad false 1 v68 H fun v69 =>
  aIndexAddr 5 v69 y0 fun v70 =>
  aLoad true 5 v70 H fun v71 =>
  aBin false false .add q1s1 (.p (.int .i64 1)) fun v72 =>
  aCall Try.prog (.p (.func runnelref6_checkValue_i [])) [v71, v72] H fun v73 h74 =>
  aBin false false .neq v73 (.p (.int .i64 0)) fun v75 =>
  aGuard v75
  (K v73 h74)
  (aBin false false .add y0 (.p (.int .i64 1)) fun v76 =>
  B1 [v76] h74))
  (K (.p (.int .i64 0)) H)

def runnelref6_checkValue (x0 x1 : AV) (H : List Ob) (K : AV → List Ob → Prop) : Prop :=
  aBox x0 H fun v0 h1 =>
  aFieldAddr 0 v0 fun v2 =>
  aLoad false 1 v2 h1 fun v3 =>
  aBin false false .lss v3 (.p (.int .i64 1)) fun v4 =>
  aMerge false v4 (fun Q5 =>
  aFieldAddr 0 v0 fun v6 =>
  aLoad false 1 v6 h1 fun v7 =>
  aBin false false .gtr v7 (.p (.int .i64 4)) fun v8 =>
  (h1 = h1 ∧ Q5 v8)) fun v9 =>
  aGuard v9
  (K (.p (.int .i64 5)) h1)
  (aFieldAddr 0 v0 fun v10 =>
  aLoad false 1 v10 h1 fun v11 =>
  aBin false false .neq v11 (.p (.int .i64 1)) fun v12 =>
  aMerge true v12 (fun Q13 =>
  aFieldAddr 1 v0 fun v14 =>
  aLoad false 1 v14 h1 fun v15 =>
  aBin false false .neq v15 (.p (.int .i64 0)) fun v16 =>
  (h1 = h1 ∧ Q13 v16)) fun v17 =>
  aMerge false v17 (fun Q18 =>
  aFieldAddr 0 v0 fun v19 =>
  aLoad false 1 v19 h1 fun v20 =>
  aBin false false .neq v20 (.p (.int .i64 2)) fun v21 =>
  aMerge true v21 (fun Q22 =>
  aFieldAddr 2 v0 fun v23 =>
  aLoad false 1 v23 h1 fun v24 =>
  (h1 = h1 ∧ Q22 v24)) fun v25 =>
  (h1 = h1 ∧ Q18 v25)) fun v26 =>
  aMerge false v26 (fun Q27 =>
  aFieldAddr 0 v0 fun v28 =>
  aLoad false 1 v28 h1 fun v29 =>
  aBin false false .neq v29 (.p (.int .i64 3)) fun v30 =>
  aMerge true v30 (fun Q31 =>
  aFieldAddr 3 v0 fun v32 =>
  aLoad false 1 v32 h1 fun v33 =>
  aBin false false .neq v33 (.p (.str [])) fun v34 =>
  (h1 = h1 ∧ Q31 v34)) fun v35 =>
  (h1 = h1 ∧ Q27 v35)) fun v36 =>
  aMerge false v36 (fun Q37 =>
  aFieldAddr 0 v0 fun v38 =>
  aLoad false 1 v38 h1 fun v39 =>
  aBin false false .neq v39 (.p (.int .i64 4)) fun v40 =>
  aMerge true v40 (fun Q41 =>
  aFieldAddr 4 v0 fun v42 =>
  aLoad false 1 v42 h1 fun v43 =>
  aLenS false v43 fun v44 =>
  aBin false false .gtr v44 (.p (.int .i64 0)) fun v45 =>
  (h1 = h1 ∧ Q41 v45)) fun v46 =>
  (h1 = h1 ∧ Q37 v46)) fun v47 =>
  aGuard v47
  (K (.p (.int .i64 2)) h1)
  (aFieldAddr 3 v0 fun v48 =>
  aLoad false 1 v48 h1 fun v49 =>
  aLen false true v49 fun v50 =>
  aBin false false .gtr v50 (.p (.int .i64 255)) fun v51 =>
  aGuard v51
  (K (.p (.int .i64 4)) h1)
  (aFieldAddr 0 v0 fun v52 =>
  aLoad false 1 v52 h1 fun v53 =>
  aBin false false .neq v53 (.p (.int .i64 4)) fun v54 =>
  aGuard v54
  (K (.p (.int .i64 0)) h1)
  (aFieldAddr 4 v0 fun v55 =>
  aLoad false 1 v55 h1 fun v56 =>
  aLen false false v56 fun v57 =>
  aBin false false .eql v57 (.p (.int .i64 0)) fun v58 =>
  aGuard v58
  (K (.p (.int .i64 1)) h1)
  (aFieldAddr 4 v0 fun v59 =>
  aLoad false 1 v59 h1 fun v60 =>
  aLen false false v60 fun v61 =>
  aBin false false .gtr v61 (.p (.int .i64 8)) fun v62 =>
  aGuard v62
  (K (.p (.int .i64 10)) h1)
  (aBin false false .gtr x1 (.p (.int .i64 4)) fun v63 =>
  aGuard v63
  (K (.p (.int .i64 9)) h1)
  (aLoopN 1 [(.p (.int .i64 0))] h1 fun xs H B1 => runnelref6_checkValue_L1 x1 v0 (xs.getD 0 .top) H B1 K)))))))

def runnelref6_checkValue_ann : Nat → List Nat := fun k => match k with | 16 => [5] | _ => []

theorem runnelref6_checkValue_eq (x0 x1 : AV) (H : List Ob) (r : AV) (Ho : List Ob) : aBody Try.prog runnelref6_checkValue_ann Try.f28 H [x0, x1] r Ho = runnelref6_checkValue x0 x1 H (fun v H' => Gives H.length v H' r Ho) := by kernel_rfl

theorem runnelref6_checkValue_fnH {x0 x1 : AV} {Hin : List Ob} {r : AV} {Ho : List Ob} (h : runnelref6_checkValue x0 x1 Hin (fun v H' => Gives Hin.length v H' r Ho)) : Abs.Fn Try.prog runnelref6_checkValue_i Hin [x0, x1] r Ho :=
  fn_intro mixed runnelref6_checkValue_ann (fn := Try.f28) (by kernel_rfl) (by kernel_rfl) (by rw [runnelref6_checkValue_eq]; exact h)

theorem runnelref6_checkValue_fn {x0 x1 : AV} {r : AV} {Ho : List Ob} (h : runnelref6_checkValue x0 x1 [] (fun v H' => Gives 0 v H' r Ho)) : Abs.Fn Try.prog runnelref6_checkValue_i [] [x0, x1] r Ho := runnelref6_checkValue_fnH (Hin := []) h

/- slices.Clone[runnel/vm.stack[runnel/val.Value],runnel/val.Value] -/
def slices_Clone_vm_stack_val_Value_val_Value (x0 : AV) (H : List Ob) (K : AV → List Ob → Prop) : Prop :=
  aNil true .eql x0 fun v0 =>
  aGuard v0
  (K (.full []) H)
  (aBuildSlice 5 [] fun v1 =>
  aAppend false 5 64 v1 x0 H fun v2 h3 =>
  K v2 h3)

def slices_Clone_vm_stack_val_Value_val_Value_ann : Nat → List Nat := fun _ => []

theorem slices_Clone_vm_stack_val_Value_val_Value_eq (x0 : AV) (H : List Ob) (r : AV) (Ho : List Ob) : aBody Try.prog slices_Clone_vm_stack_val_Value_val_Value_ann Try.f33 H [x0] r Ho = slices_Clone_vm_stack_val_Value_val_Value x0 H (fun v H' => Gives H.length v H' r Ho) := by kernel_rfl

theorem slices_Clone_vm_stack_val_Value_val_Value_fnH {x0 : AV} {Hin : List Ob} {r : AV} {Ho : List Ob} (h : slices_Clone_vm_stack_val_Value_val_Value x0 Hin (fun v H' => Gives Hin.length v H' r Ho)) : Abs.Fn Try.prog slices_Clone_vm_stack_val_Value_val_Value_i Hin [x0] r Ho :=
  fn_intro mixed slices_Clone_vm_stack_val_Value_val_Value_ann (fn := Try.f33) (by kernel_rfl) (by kernel_rfl) (by rw [slices_Clone_vm_stack_val_Value_val_Value_eq]; exact h)

theorem slices_Clone_vm_stack_val_Value_val_Value_fn {x0 : AV} {r : AV} {Ho : List Ob} (h : slices_Clone_vm_stack_val_Value_val_Value x0 [] (fun v H' => Gives 0 v H' r Ho)) : Abs.Fn Try.prog slices_Clone_vm_stack_val_Value_val_Value_i [] [x0] r Ho := slices_Clone_vm_stack_val_Value_val_Value_fnH (Hin := []) h

/- runnel/val.Tup -/
def val_Tup (x0 : AV) (H : List Ob) (K : AV → List Ob → Prop) : Prop :=
  aAlloc [(.p (.int .i64 0)), (.p (.int .i64 0)), (.p (.bool false)), (.p (.str [])), (.full [])] H fun v0 h1 =>
  aCall Try.prog (.p (.func slices_Clone_val_Value_val_Value_i [])) [x0] h1 fun v2 h3 =>
  aCall Try.prog (.p (.func slices_Clip_val_Value_val_Value_i [])) [v2] h3 fun v4 h5 =>
  aBuild [(.p (.int .i64 0)), (.p (.int .i64 0)), (.p (.bool false)), (.p (.str [])), (.full [])] [(0, 1, (.p (.int .i64 4))), (4, 1, v4)] fun v6 =>
  aStore 5 v0 v6 h5 fun _ h8 =>
  aLoad true 5 v0 h8 fun v9 =>
  K v9 h8

def val_Tup_ann : Nat → List Nat := fun _ => []

theorem val_Tup_eq (x0 : AV) (H : List Ob) (r : AV) (Ho : List Ob) : aBody Try.prog val_Tup_ann Try.f35 H [x0] r Ho = val_Tup x0 H (fun v H' => Gives H.length v H' r Ho) := by kernel_rfl

theorem val_Tup_fnH {x0 : AV} {Hin : List Ob} {r : AV} {Ho : List Ob} (h : val_Tup x0 Hin (fun v H' => Gives Hin.length v H' r Ho)) : Abs.Fn Try.prog val_Tup_i Hin [x0] r Ho :=
  fn_intro mixed val_Tup_ann (fn := Try.f35) (by kernel_rfl) (by kernel_rfl) (by rw [val_Tup_eq]; exact h)

theorem val_Tup_fn {x0 : AV} {r : AV} {Ho : List Ob} (h : val_Tup x0 [] (fun v H' => Gives 0 v H' r Ho)) : Abs.Fn Try.prog val_Tup_i [] [x0] r Ho := val_Tup_fnH (Hin := []) h

/- runnel/runnelref6.Compare -/
def runnelref6_Compare_L1 (q1s2 q1s3 y0 : AV) (H : List Ob) (B1 : List AV → List Ob → Prop) (K : AV → List Ob → Prop) : Prop :=
  aFieldAddr 4 q1s2 fun v49 =>
  aLoad false 1 v49 H fun v50 =>
  aLen false false v50 fun v51 =>
  aBin false false .lss y0 v51 fun v52 =>
  aMerge true v52 (fun Q53 =>
  aFieldAddr 4 q1s3 fun v54 =>
  aLoad false 1 v54 H fun v55 =>
  aLenS false v55 fun v56 =>
  aBin false false .lss y0 v56 fun v57 =>
  (H = H ∧ Q53 v57)) fun v58 =>
  aGuard v58
  (aFieldAddr 4 q1s2 fun v59 =>
  aLoad false 1 v59 H fun v60 =>
  aIndexAddr 5 v60 y0 fun v61 =>
  aLoad true 5 v61 H fun v62 =>
  aFieldAddr 4 q1s3 fun v63 =>
  aLoad false 1 v63 H fun v64 =>
  aIndexAddr 5 v64 y0 fun v65 =>
  aLoad true 5 v65 H fun v66 =>
  aCallT Try.prog (.p (.func runnelref6_Compare_i [])) [v62, v66] fun v67 =>
  aBin false false .neq v67 (.p (.int .i64 0)) fun v68 =>
  aGuard v68
  (K v67 H)
  (aBin false false .add y0 (.p (.int .i64 1)) fun v69 =>
  B1 [v69] H))
  (aFieldAddr 4 q1s2 fun v70 =>
  aLoad false 1 v70 H fun v71 =>
  aLen false false v71 fun v72 =>
  aFieldAddr 4 q1s3 fun v73 =>
  aLoad false 1 v73 H fun v74 =>
  aLen false false v74 fun v75 =>
  aBin false false .neq v72 v75 fun v76 =>
  aGuard v76
  (aFieldAddr 4 q1s2 fun v77 =>
  aLoad false 1 v77 H fun v78 =>
  aLen false false v78 fun v79 =>
  aFieldAddr 4 q1s3 fun v80 =>
  aLoad false 1 v80 H fun v81 =>
  aLen false false v81 fun v82 =>
  aBin false false .lss v79 v82 fun v83 =>
  aCall Try.prog (.p (.func runnelref6_less_i [])) [v83] H fun v84 h85 =>
  K v84 h85)
  (K (.p (.int .i64 0)) H))

def runnelref6_Compare (x0 x1 : AV) (H : List Ob) (K : AV → List Ob → Prop) : Prop :=
  aBox x0 H fun v0 h1 =>
  aBox x1 h1 fun v2 h3 =>
  aFieldAddr 0 v0 fun v4 =>
  aLoad false 1 v4 h3 fun v5 =>
  aFieldAddr 0 v2 fun v6 =>
  aLoad false 1 v6 h3 fun v7 =>
  aBin false false .neq v5 v7 fun v8 =>
  aGuard v8
  (aFieldAddr 0 v0 fun v9 =>
  aLoad false 1 v9 h3 fun v10 =>
  aFieldAddr 0 v2 fun v11 =>
  aLoad false 1 v11 h3 fun v12 =>
  aBin false false .lss v10 v12 fun v13 =>
  aCall Try.prog (.p (.func runnelref6_less_i [])) [v13] h3 fun v14 h15 =>
  K v14 h15)
  (aFieldAddr 1 v0 fun v16 =>
  aLoad false 1 v16 h3 fun v17 =>
  aFieldAddr 1 v2 fun v18 =>
  aLoad false 1 v18 h3 fun v19 =>
  aBin false false .neq v17 v19 fun v20 =>
  aGuard v20
  (aFieldAddr 1 v0 fun v21 =>
  aLoad false 1 v21 h3 fun v22 =>
  aFieldAddr 1 v2 fun v23 =>
  aLoad false 1 v23 h3 fun v24 =>
  aBin false false .lss v22 v24 fun v25 =>
  aCall Try.prog (.p (.func runnelref6_less_i [])) [v25] h3 fun v26 h27 =>
  K v26 h27)
  (aFieldAddr 2 v0 fun v28 =>
  aLoad false 1 v28 h3 fun v29 =>
  aFieldAddr 2 v2 fun v30 =>
  aLoad false 1 v30 h3 fun v31 =>
  aBin true false .neq v29 v31 fun v32 =>
  aGuard v32
  (aFieldAddr 2 v2 fun v33 =>
  aLoad false 1 v33 h3 fun v34 =>
  aCall Try.prog (.p (.func runnelref6_less_i [])) [v34] h3 fun v35 h36 =>
  K v35 h36)
  (aFieldAddr 3 v0 fun v37 =>
  aLoad false 1 v37 h3 fun v38 =>
  aFieldAddr 3 v2 fun v39 =>
  aLoad false 1 v39 h3 fun v40 =>
  aBin false false .neq v38 v40 fun v41 =>
  aGuard v41
  (aFieldAddr 3 v0 fun v42 =>
  aLoad false 1 v42 h3 fun v43 =>
  aFieldAddr 3 v2 fun v44 =>
  aLoad false 1 v44 h3 fun v45 =>
  aBin false false .lss v43 v45 fun v46 =>
  aCall Try.prog (.p (.func runnelref6_less_i [])) [v46] h3 fun v47 h48 =>
  K v47 h48)
  (aLoopN 1 [(.p (.int .i64 0))] h3 fun xs H B1 => runnelref6_Compare_L1 v0 v2 (xs.getD 0 .top) H B1 K))))

def runnelref6_Compare_ann : Nat → List Nat := fun k => match k with | 10 => [5] | _ => []

theorem runnelref6_Compare_eq (x0 x1 : AV) (H : List Ob) (r : AV) (Ho : List Ob) : aBody Try.prog runnelref6_Compare_ann Try.f40 H [x0, x1] r Ho = runnelref6_Compare x0 x1 H (fun v H' => Gives H.length v H' r Ho) := by kernel_rfl

theorem runnelref6_Compare_fnH {x0 x1 : AV} {Hin : List Ob} {r : AV} {Ho : List Ob} (h : runnelref6_Compare x0 x1 Hin (fun v H' => Gives Hin.length v H' r Ho)) : Abs.Fn Try.prog runnelref6_Compare_i Hin [x0, x1] r Ho :=
  fn_intro mixed runnelref6_Compare_ann (fn := Try.f40) (by kernel_rfl) (by kernel_rfl) (by rw [runnelref6_Compare_eq]; exact h)

theorem runnelref6_Compare_fn {x0 x1 : AV} {r : AV} {Ho : List Ob} (h : runnelref6_Compare x0 x1 [] (fun v H' => Gives 0 v H' r Ho)) : Abs.Fn Try.prog runnelref6_Compare_i [] [x0, x1] r Ho := runnelref6_Compare_fnH (Hin := []) h

/- slices.Clip[[]runnel/val.Value,runnel/val.Value] -/
def slices_Clip_val_Value_val_Value (x0 : AV) (H : List Ob) (K : AV → List Ob → Prop) : Prop :=
  aLen false false x0 fun v0 =>
  aLen false false x0 fun v1 =>
  aSlice false 5 x0 none (some v0) (some v1) fun v2 =>
  K v2 H

def slices_Clip_val_Value_val_Value_ann : Nat → List Nat := fun _ => []

theorem slices_Clip_val_Value_val_Value_eq (x0 : AV) (H : List Ob) (r : AV) (Ho : List Ob) : aBody Try.prog slices_Clip_val_Value_val_Value_ann Try.f47 H [x0] r Ho = slices_Clip_val_Value_val_Value x0 H (fun v H' => Gives H.length v H' r Ho) := by kernel_rfl

theorem slices_Clip_val_Value_val_Value_fnH {x0 : AV} {Hin : List Ob} {r : AV} {Ho : List Ob} (h : slices_Clip_val_Value_val_Value x0 Hin (fun v H' => Gives Hin.length v H' r Ho)) : Abs.Fn Try.prog slices_Clip_val_Value_val_Value_i Hin [x0] r Ho :=
  fn_intro mixed slices_Clip_val_Value_val_Value_ann (fn := Try.f47) (by kernel_rfl) (by kernel_rfl) (by rw [slices_Clip_val_Value_val_Value_eq]; exact h)

theorem slices_Clip_val_Value_val_Value_fn {x0 : AV} {r : AV} {Ho : List Ob} (h : slices_Clip_val_Value_val_Value x0 [] (fun v H' => Gives 0 v H' r Ho)) : Abs.Fn Try.prog slices_Clip_val_Value_val_Value_i [] [x0] r Ho := slices_Clip_val_Value_val_Value_fnH (Hin := []) h

/- slices.Clone[[]runnel/val.Value,runnel/val.Value] -/
def slices_Clone_val_Value_val_Value (x0 : AV) (H : List Ob) (K : AV → List Ob → Prop) : Prop :=
  aNil true .eql x0 fun v0 =>
  aGuard v0
  (K (.full []) H)
  (aBuildSlice 5 [] fun v1 =>
  aAppend false 5 64 v1 x0 H fun v2 h3 =>
  K v2 h3)

def slices_Clone_val_Value_val_Value_ann : Nat → List Nat := fun _ => []

theorem slices_Clone_val_Value_val_Value_eq (x0 : AV) (H : List Ob) (r : AV) (Ho : List Ob) : aBody Try.prog slices_Clone_val_Value_val_Value_ann Try.f48 H [x0] r Ho = slices_Clone_val_Value_val_Value x0 H (fun v H' => Gives H.length v H' r Ho) := by kernel_rfl

theorem slices_Clone_val_Value_val_Value_fnH {x0 : AV} {Hin : List Ob} {r : AV} {Ho : List Ob} (h : slices_Clone_val_Value_val_Value x0 Hin (fun v H' => Gives Hin.length v H' r Ho)) : Abs.Fn Try.prog slices_Clone_val_Value_val_Value_i Hin [x0] r Ho :=
  fn_intro mixed slices_Clone_val_Value_val_Value_ann (fn := Try.f48) (by kernel_rfl) (by kernel_rfl) (by rw [slices_Clone_val_Value_val_Value_eq]; exact h)

theorem slices_Clone_val_Value_val_Value_fn {x0 : AV} {r : AV} {Ho : List Ob} (h : slices_Clone_val_Value_val_Value x0 [] (fun v H' => Gives 0 v H' r Ho)) : Abs.Fn Try.prog slices_Clone_val_Value_val_Value_i [] [x0] r Ho := slices_Clone_val_Value_val_Value_fnH (Hin := []) h

/- runnel/runnelref6.less -/
def runnelref6_less (x0 : AV) (H : List Ob) (K : AV → List Ob → Prop) : Prop :=
  aGuard x0
  (K (.p (.int .i64 (-1))) H)
  (K (.p (.int .i64 1)) H)

def runnelref6_less_ann : Nat → List Nat := fun _ => []

theorem runnelref6_less_eq (x0 : AV) (H : List Ob) (r : AV) (Ho : List Ob) : aBody Try.prog runnelref6_less_ann Try.f53 H [x0] r Ho = runnelref6_less x0 H (fun v H' => Gives H.length v H' r Ho) := by kernel_rfl

theorem runnelref6_less_fnH {x0 : AV} {Hin : List Ob} {r : AV} {Ho : List Ob} (h : runnelref6_less x0 Hin (fun v H' => Gives Hin.length v H' r Ho)) : Abs.Fn Try.prog runnelref6_less_i Hin [x0] r Ho :=
  fn_intro mixed runnelref6_less_ann (fn := Try.f53) (by kernel_rfl) (by kernel_rfl) (by rw [runnelref6_less_eq]; exact h)

theorem runnelref6_less_fn {x0 : AV} {r : AV} {Ho : List Ob} (h : runnelref6_less x0 [] (fun v H' => Gives 0 v H' r Ho)) : Abs.Fn Try.prog runnelref6_less_i [] [x0] r Ho := runnelref6_less_fnH (Hin := []) h

/- runnel/val.Bool -/
def val_Bool (x0 : AV) (H : List Ob) (K : AV → List Ob → Prop) : Prop :=
  aAlloc [(.p (.int .i64 0)), (.p (.int .i64 0)), (.p (.bool false)), (.p (.str [])), (.full [])] H fun v0 h1 =>
  aBuild [(.p (.int .i64 0)), (.p (.int .i64 0)), (.p (.bool false)), (.p (.str [])), (.full [])] [(0, 1, (.p (.int .i64 2))), (2, 1, x0)] fun v2 =>
  aStore 5 v0 v2 h1 fun _ h4 =>
  aLoad true 5 v0 h4 fun v5 =>
  K v5 h4

def val_Bool_ann : Nat → List Nat := fun _ => []

theorem val_Bool_eq (x0 : AV) (H : List Ob) (r : AV) (Ho : List Ob) : aBody Try.prog val_Bool_ann Try.f58 H [x0] r Ho = val_Bool x0 H (fun v H' => Gives H.length v H' r Ho) := by kernel_rfl

theorem val_Bool_fnH {x0 : AV} {Hin : List Ob} {r : AV} {Ho : List Ob} (h : val_Bool x0 Hin (fun v H' => Gives Hin.length v H' r Ho)) : Abs.Fn Try.prog val_Bool_i Hin [x0] r Ho :=
  fn_intro mixed val_Bool_ann (fn := Try.f58) (by kernel_rfl) (by kernel_rfl) (by rw [val_Bool_eq]; exact h)

theorem val_Bool_fn {x0 : AV} {r : AV} {Ho : List Ob} (h : val_Bool x0 [] (fun v H' => Gives 0 v H' r Ho)) : Abs.Fn Try.prog val_Bool_i [] [x0] r Ho := val_Bool_fnH (Hin := []) h

/- runnel/val.Same -/
def val_Same (x0 x1 : AV) (H : List Ob) (K : AV → List Ob → Prop) : Prop :=
  aBox x0 H fun v0 h1 =>
  aBox x1 h1 fun v2 h3 =>
  aLoad true 5 v0 h3 fun v4 =>
  aLoad true 5 v2 h3 fun v5 =>
  aCall Try.prog (.p (.func val_Compare_i [])) [v4, v5] h3 fun v6 h7 =>
  aBin false false .eql v6 (.p (.int .i64 0)) fun v8 =>
  K v8 h7

def val_Same_ann : Nat → List Nat := fun _ => []

theorem val_Same_eq (x0 x1 : AV) (H : List Ob) (r : AV) (Ho : List Ob) : aBody Try.prog val_Same_ann Try.f68 H [x0, x1] r Ho = val_Same x0 x1 H (fun v H' => Gives H.length v H' r Ho) := by kernel_rfl

theorem val_Same_fnH {x0 x1 : AV} {Hin : List Ob} {r : AV} {Ho : List Ob} (h : val_Same x0 x1 Hin (fun v H' => Gives Hin.length v H' r Ho)) : Abs.Fn Try.prog val_Same_i Hin [x0, x1] r Ho :=
  fn_intro mixed val_Same_ann (fn := Try.f68) (by kernel_rfl) (by kernel_rfl) (by rw [val_Same_eq]; exact h)

theorem val_Same_fn {x0 x1 : AV} {r : AV} {Ho : List Ob} (h : val_Same x0 x1 [] (fun v H' => Gives 0 v H' r Ho)) : Abs.Fn Try.prog val_Same_i [] [x0, x1] r Ho := val_Same_fnH (Hin := []) h

/- runnel/val.Compare -/
def val_Compare (x0 x1 : AV) (H : List Ob) (K : AV → List Ob → Prop) : Prop :=
  aBox x0 H fun v0 h1 =>
  aBox x1 h1 fun v2 h3 =>
  aFieldAddr 0 v0 fun v4 =>
  aLoad false 1 v4 h3 fun v5 =>
  aFieldAddr 0 v2 fun v6 =>
  aLoad false 1 v6 h3 fun v7 =>
  aCallT Try.prog (.p (.func cmp_Compare_int_i [])) [v5, v7] fun v8 =>
  aFieldAddr 1 v0 fun v9 =>
  aLoad false 1 v9 h3 fun v10 =>
  aFieldAddr 1 v2 fun v11 =>
  aLoad false 1 v11 h3 fun v12 =>
  aCallT Try.prog (.p (.func cmp_Compare_int64_i [])) [v10, v12] fun v13 =>
  aFieldAddr 2 v0 fun v14 =>
  aLoad false 1 v14 h3 fun v15 =>
  aCallT Try.prog (.p (.func val_truth_i [])) [v15] fun v16 =>
  aFieldAddr 2 v2 fun v17 =>
  aLoad false 1 v17 h3 fun v18 =>
  aCallT Try.prog (.p (.func val_truth_i [])) [v18] fun v19 =>
  aCallT Try.prog (.p (.func cmp_Compare_int_i [])) [v16, v19] fun v20 =>
  aFieldAddr 3 v0 fun v21 =>
  aLoad false 1 v21 h3 fun v22 =>
  aFieldAddr 3 v2 fun v23 =>
  aLoad false 1 v23 h3 fun v24 =>
  aCallT Try.prog (.p (.func strings_Compare_i [])) [v22, v24] fun v25 =>
  aBuildSlice 1 [v8, v13, v20, v25] fun v26 =>
  aCallT Try.prog (.p (.func cmp_Or_int_i [])) [v26] fun v27 =>
  aBin false false .neq v27 (.p (.int .i64 0)) fun v28 =>
  aGuard v28
  (K v27 h3)
  (aFieldAddr 4 v0 fun v29 =>
  aLoad false 1 v29 h3 fun v30 =>
  aFieldAddr 4 v2 fun v31 =>
  aLoad false 1 v31 h3 fun v32 =>
  aCall Try.prog (.p (.func val_rows_val_Value_i [])) [v30, v32, (.p (.func val_Compare_i []))] h3 fun v33 h34 =>
  K v33 h34)

def val_Compare_ann : Nat → List Nat := fun _ => []

theorem val_Compare_eq (x0 x1 : AV) (H : List Ob) (r : AV) (Ho : List Ob) : aBody Try.prog val_Compare_ann Try.f70 H [x0, x1] r Ho = val_Compare x0 x1 H (fun v H' => Gives H.length v H' r Ho) := by kernel_rfl

theorem val_Compare_fnH {x0 x1 : AV} {Hin : List Ob} {r : AV} {Ho : List Ob} (h : val_Compare x0 x1 Hin (fun v H' => Gives Hin.length v H' r Ho)) : Abs.Fn Try.prog val_Compare_i Hin [x0, x1] r Ho :=
  fn_intro mixed val_Compare_ann (fn := Try.f70) (by kernel_rfl) (by kernel_rfl) (by rw [val_Compare_eq]; exact h)

theorem val_Compare_fn {x0 x1 : AV} {r : AV} {Ho : List Ob} (h : val_Compare x0 x1 [] (fun v H' => Gives 0 v H' r Ho)) : Abs.Fn Try.prog val_Compare_i [] [x0, x1] r Ho := val_Compare_fnH (Hin := []) h

/- cmp.Or[int] -/
def cmp_Or_int_L1 (q1s3 q1s6 q1s7 y0 : AV) (H : List Ob) (B1 : List AV → List Ob → Prop) (K : AV → List Ob → Prop) : Prop :=
  aBin false false .lss y0 q1s7 fun v1 =>
  aGuard v1
  (aIndexAddr 1 q1s6 y0 fun v2 =>
  aLoad false 1 v2 H fun v3 =>
  aBin false false .neq v3 q1s3 fun v4 =>
  aGuard v4
  (K v3 H)
  (aBin false false .add y0 (.p (.int .i64 1)) fun v5 =>
  B1 [v5] H))
  (K q1s3 H)

def cmp_Or_int (x0 : AV) (H : List Ob) (K : AV → List Ob → Prop) : Prop :=
  aLen false false x0 fun v0 =>
  aLoopN 1 [(.p (.int .i64 0))] H fun xs H B1 => cmp_Or_int_L1 (.p (.int .i64 0)) x0 v0 (xs.getD 0 .top) H B1 K

def cmp_Or_int_ann : Nat → List Nat := fun k => match k with | 3 => [8] | _ => []

theorem cmp_Or_int_eq (x0 : AV) (H : List Ob) (r : AV) (Ho : List Ob) : aBody Try.prog cmp_Or_int_ann Try.f74 H [x0] r Ho = cmp_Or_int x0 H (fun v H' => Gives H.length v H' r Ho) := by kernel_rfl

theorem cmp_Or_int_fnH {x0 : AV} {Hin : List Ob} {r : AV} {Ho : List Ob} (h : cmp_Or_int x0 Hin (fun v H' => Gives Hin.length v H' r Ho)) : Abs.Fn Try.prog cmp_Or_int_i Hin [x0] r Ho :=
  fn_intro mixed cmp_Or_int_ann (fn := Try.f74) (by kernel_rfl) (by kernel_rfl) (by rw [cmp_Or_int_eq]; exact h)

theorem cmp_Or_int_fn {x0 : AV} {r : AV} {Ho : List Ob} (h : cmp_Or_int x0 [] (fun v H' => Gives 0 v H' r Ho)) : Abs.Fn Try.prog cmp_Or_int_i [] [x0] r Ho := cmp_Or_int_fnH (Hin := []) h

/- cmp.Compare[int] -/
def cmp_Compare_int (x0 x1 : AV) (H : List Ob) (K : AV → List Ob → Prop) : Prop :=
  aCall Try.prog (.p (.func cmp_isNaN_int_i [])) [x0] H fun v0 h1 =>
  aCall Try.prog (.p (.func cmp_isNaN_int_i [])) [x1] h1 fun v2 h3 =>
  aGuard v0
  (aGuard v2
  (K (.p (.int .i64 0)) h3)
  (K (.p (.int .i64 (-1))) h3))
  (aGuard v2
  (K (.p (.int .i64 1)) h3)
  (aBin false false .lss x0 x1 fun v4 =>
  aGuard v4
  (K (.p (.int .i64 (-1))) h3)
  (aBin false false .gtr x0 x1 fun v5 =>
  aGuard v5
  (K (.p (.int .i64 1)) h3)
  (K (.p (.int .i64 0)) h3))))

def cmp_Compare_int_ann : Nat → List Nat := fun _ => []

theorem cmp_Compare_int_eq (x0 x1 : AV) (H : List Ob) (r : AV) (Ho : List Ob) : aBody Try.prog cmp_Compare_int_ann Try.f75 H [x0, x1] r Ho = cmp_Compare_int x0 x1 H (fun v H' => Gives H.length v H' r Ho) := by kernel_rfl

theorem cmp_Compare_int_fnH {x0 x1 : AV} {Hin : List Ob} {r : AV} {Ho : List Ob} (h : cmp_Compare_int x0 x1 Hin (fun v H' => Gives Hin.length v H' r Ho)) : Abs.Fn Try.prog cmp_Compare_int_i Hin [x0, x1] r Ho :=
  fn_intro mixed cmp_Compare_int_ann (fn := Try.f75) (by kernel_rfl) (by kernel_rfl) (by rw [cmp_Compare_int_eq]; exact h)

theorem cmp_Compare_int_fn {x0 x1 : AV} {r : AV} {Ho : List Ob} (h : cmp_Compare_int x0 x1 [] (fun v H' => Gives 0 v H' r Ho)) : Abs.Fn Try.prog cmp_Compare_int_i [] [x0, x1] r Ho := cmp_Compare_int_fnH (Hin := []) h

/- cmp.Compare[int64] -/
def cmp_Compare_int64 (x0 x1 : AV) (H : List Ob) (K : AV → List Ob → Prop) : Prop :=
  aCall Try.prog (.p (.func cmp_isNaN_int64_i [])) [x0] H fun v0 h1 =>
  aCall Try.prog (.p (.func cmp_isNaN_int64_i [])) [x1] h1 fun v2 h3 =>
  aGuard v0
  (aGuard v2
  (K (.p (.int .i64 0)) h3)
  (K (.p (.int .i64 (-1))) h3))
  (aGuard v2
  (K (.p (.int .i64 1)) h3)
  (aBin false false .lss x0 x1 fun v4 =>
  aGuard v4
  (K (.p (.int .i64 (-1))) h3)
  (aBin false false .gtr x0 x1 fun v5 =>
  aGuard v5
  (K (.p (.int .i64 1)) h3)
  (K (.p (.int .i64 0)) h3))))

def cmp_Compare_int64_ann : Nat → List Nat := fun _ => []

theorem cmp_Compare_int64_eq (x0 x1 : AV) (H : List Ob) (r : AV) (Ho : List Ob) : aBody Try.prog cmp_Compare_int64_ann Try.f76 H [x0, x1] r Ho = cmp_Compare_int64 x0 x1 H (fun v H' => Gives H.length v H' r Ho) := by kernel_rfl

theorem cmp_Compare_int64_fnH {x0 x1 : AV} {Hin : List Ob} {r : AV} {Ho : List Ob} (h : cmp_Compare_int64 x0 x1 Hin (fun v H' => Gives Hin.length v H' r Ho)) : Abs.Fn Try.prog cmp_Compare_int64_i Hin [x0, x1] r Ho :=
  fn_intro mixed cmp_Compare_int64_ann (fn := Try.f76) (by kernel_rfl) (by kernel_rfl) (by rw [cmp_Compare_int64_eq]; exact h)

theorem cmp_Compare_int64_fn {x0 x1 : AV} {r : AV} {Ho : List Ob} (h : cmp_Compare_int64 x0 x1 [] (fun v H' => Gives 0 v H' r Ho)) : Abs.Fn Try.prog cmp_Compare_int64_i [] [x0, x1] r Ho := cmp_Compare_int64_fnH (Hin := []) h

/- runnel/val.truth -/
def val_truth (x0 : AV) (H : List Ob) (K : AV → List Ob → Prop) : Prop :=
  aGuard x0
  (K (.p (.int .i64 1)) H)
  (K (.p (.int .i64 0)) H)

def val_truth_ann : Nat → List Nat := fun _ => []

theorem val_truth_eq (x0 : AV) (H : List Ob) (r : AV) (Ho : List Ob) : aBody Try.prog val_truth_ann Try.f77 H [x0] r Ho = val_truth x0 H (fun v H' => Gives H.length v H' r Ho) := by kernel_rfl

theorem val_truth_fnH {x0 : AV} {Hin : List Ob} {r : AV} {Ho : List Ob} (h : val_truth x0 Hin (fun v H' => Gives Hin.length v H' r Ho)) : Abs.Fn Try.prog val_truth_i Hin [x0] r Ho :=
  fn_intro mixed val_truth_ann (fn := Try.f77) (by kernel_rfl) (by kernel_rfl) (by rw [val_truth_eq]; exact h)

theorem val_truth_fn {x0 : AV} {r : AV} {Ho : List Ob} (h : val_truth x0 [] (fun v H' => Gives 0 v H' r Ho)) : Abs.Fn Try.prog val_truth_i [] [x0] r Ho := val_truth_fnH (Hin := []) h

/- strings.Compare -/
def strings_Compare (x0 x1 : AV) (H : List Ob) (K : AV → List Ob → Prop) : Prop :=
  aCall Try.prog (.p (.func internal_bytealg_CompareString_i [])) [x0, x1] H fun v0 h1 =>
  K v0 h1

def strings_Compare_ann : Nat → List Nat := fun _ => []

theorem strings_Compare_eq (x0 x1 : AV) (H : List Ob) (r : AV) (Ho : List Ob) : aBody Try.prog strings_Compare_ann Try.f78 H [x0, x1] r Ho = strings_Compare x0 x1 H (fun v H' => Gives H.length v H' r Ho) := by kernel_rfl

theorem strings_Compare_fnH {x0 x1 : AV} {Hin : List Ob} {r : AV} {Ho : List Ob} (h : strings_Compare x0 x1 Hin (fun v H' => Gives Hin.length v H' r Ho)) : Abs.Fn Try.prog strings_Compare_i Hin [x0, x1] r Ho :=
  fn_intro mixed strings_Compare_ann (fn := Try.f78) (by kernel_rfl) (by kernel_rfl) (by rw [strings_Compare_eq]; exact h)

theorem strings_Compare_fn {x0 x1 : AV} {r : AV} {Ho : List Ob} (h : strings_Compare x0 x1 [] (fun v H' => Gives 0 v H' r Ho)) : Abs.Fn Try.prog strings_Compare_i [] [x0, x1] r Ho := strings_Compare_fnH (Hin := []) h

/- runnel/val.rows[runnel/val.Value] -/
def val_rows_val_Value (x0 x1 x2 : AV) (H : List Ob) (K : AV → List Ob → Prop) : Prop :=
  aCall Try.prog (.p (.func slices_CompareFunc_val_Value_val_Value_val_Value_val_Value_i [])) [x0, x1, x2] H fun v0 h1 =>
  K v0 h1

def val_rows_val_Value_ann : Nat → List Nat := fun _ => []

theorem val_rows_val_Value_eq (x0 x1 x2 : AV) (H : List Ob) (r : AV) (Ho : List Ob) : aBody Try.prog val_rows_val_Value_ann Try.f79 H [x0, x1, x2] r Ho = val_rows_val_Value x0 x1 x2 H (fun v H' => Gives H.length v H' r Ho) := by kernel_rfl

theorem val_rows_val_Value_fnH {x0 x1 x2 : AV} {Hin : List Ob} {r : AV} {Ho : List Ob} (h : val_rows_val_Value x0 x1 x2 Hin (fun v H' => Gives Hin.length v H' r Ho)) : Abs.Fn Try.prog val_rows_val_Value_i Hin [x0, x1, x2] r Ho :=
  fn_intro mixed val_rows_val_Value_ann (fn := Try.f79) (by kernel_rfl) (by kernel_rfl) (by rw [val_rows_val_Value_eq]; exact h)

theorem val_rows_val_Value_fn {x0 x1 x2 : AV} {r : AV} {Ho : List Ob} (h : val_rows_val_Value x0 x1 x2 [] (fun v H' => Gives 0 v H' r Ho)) : Abs.Fn Try.prog val_rows_val_Value_i [] [x0, x1, x2] r Ho := val_rows_val_Value_fnH (Hin := []) h

/- runnel/val.Str -/
def val_Str (x0 : AV) (H : List Ob) (K : AV → List Ob → Prop) : Prop :=
  aAlloc [(.p (.int .i64 0)), (.p (.int .i64 0)), (.p (.bool false)), (.p (.str [])), (.full [])] H fun v0 h1 =>
  aBuild [(.p (.int .i64 0)), (.p (.int .i64 0)), (.p (.bool false)), (.p (.str [])), (.full [])] [(0, 1, (.p (.int .i64 3))), (3, 1, x0)] fun v2 =>
  aStore 5 v0 v2 h1 fun _ h4 =>
  aLoad true 5 v0 h4 fun v5 =>
  K v5 h4

def val_Str_ann : Nat → List Nat := fun _ => []

theorem val_Str_eq (x0 : AV) (H : List Ob) (r : AV) (Ho : List Ob) : aBody Try.prog val_Str_ann Try.f80 H [x0] r Ho = val_Str x0 H (fun v H' => Gives H.length v H' r Ho) := by kernel_rfl

theorem val_Str_fnH {x0 : AV} {Hin : List Ob} {r : AV} {Ho : List Ob} (h : val_Str x0 Hin (fun v H' => Gives Hin.length v H' r Ho)) : Abs.Fn Try.prog val_Str_i Hin [x0] r Ho :=
  fn_intro mixed val_Str_ann (fn := Try.f80) (by kernel_rfl) (by kernel_rfl) (by rw [val_Str_eq]; exact h)

theorem val_Str_fn {x0 : AV} {r : AV} {Ho : List Ob} (h : val_Str x0 [] (fun v H' => Gives 0 v H' r Ho)) : Abs.Fn Try.prog val_Str_i [] [x0] r Ho := val_Str_fnH (Hin := []) h

/- cmp.isNaN[int] -/
def cmp_isNaN_int (x0 : AV) (H : List Ob) (K : AV → List Ob → Prop) : Prop :=
  aBin false false .neq x0 x0 fun v0 =>
  K v0 H

def cmp_isNaN_int_ann : Nat → List Nat := fun _ => []

theorem cmp_isNaN_int_eq (x0 : AV) (H : List Ob) (r : AV) (Ho : List Ob) : aBody Try.prog cmp_isNaN_int_ann Try.f81 H [x0] r Ho = cmp_isNaN_int x0 H (fun v H' => Gives H.length v H' r Ho) := by kernel_rfl

theorem cmp_isNaN_int_fnH {x0 : AV} {Hin : List Ob} {r : AV} {Ho : List Ob} (h : cmp_isNaN_int x0 Hin (fun v H' => Gives Hin.length v H' r Ho)) : Abs.Fn Try.prog cmp_isNaN_int_i Hin [x0] r Ho :=
  fn_intro mixed cmp_isNaN_int_ann (fn := Try.f81) (by kernel_rfl) (by kernel_rfl) (by rw [cmp_isNaN_int_eq]; exact h)

theorem cmp_isNaN_int_fn {x0 : AV} {r : AV} {Ho : List Ob} (h : cmp_isNaN_int x0 [] (fun v H' => Gives 0 v H' r Ho)) : Abs.Fn Try.prog cmp_isNaN_int_i [] [x0] r Ho := cmp_isNaN_int_fnH (Hin := []) h

/- cmp.isNaN[int64] -/
def cmp_isNaN_int64 (x0 : AV) (H : List Ob) (K : AV → List Ob → Prop) : Prop :=
  aBin false false .neq x0 x0 fun v0 =>
  K v0 H

def cmp_isNaN_int64_ann : Nat → List Nat := fun _ => []

theorem cmp_isNaN_int64_eq (x0 : AV) (H : List Ob) (r : AV) (Ho : List Ob) : aBody Try.prog cmp_isNaN_int64_ann Try.f82 H [x0] r Ho = cmp_isNaN_int64 x0 H (fun v H' => Gives H.length v H' r Ho) := by kernel_rfl

theorem cmp_isNaN_int64_fnH {x0 : AV} {Hin : List Ob} {r : AV} {Ho : List Ob} (h : cmp_isNaN_int64 x0 Hin (fun v H' => Gives Hin.length v H' r Ho)) : Abs.Fn Try.prog cmp_isNaN_int64_i Hin [x0] r Ho :=
  fn_intro mixed cmp_isNaN_int64_ann (fn := Try.f82) (by kernel_rfl) (by kernel_rfl) (by rw [cmp_isNaN_int64_eq]; exact h)

theorem cmp_isNaN_int64_fn {x0 : AV} {r : AV} {Ho : List Ob} (h : cmp_isNaN_int64 x0 [] (fun v H' => Gives 0 v H' r Ho)) : Abs.Fn Try.prog cmp_isNaN_int64_i [] [x0] r Ho := cmp_isNaN_int64_fnH (Hin := []) h

/- slices.CompareFunc[[]runnel/val.Value,[]runnel/val.Value,runnel/val.Value,runnel/val.Value] -/
def slices_CompareFunc_val_Value_val_Value_val_Value_val_Value_L1 (q1s0 q1s1 q1s2 q1s11 q1s12 y0 : AV) (H : List Ob) (B1 : List AV → List Ob → Prop) (K : AV → List Ob → Prop) : Prop :=
  aBin false false .lss y0 q1s12 fun v1 =>
  aGuard v1
  (aIndexAddr 5 q1s11 y0 fun v2 =>
  aLoad true 5 v2 H fun v3 =>
  aAlloc [(.p (.int .i64 0)), (.p (.int .i64 0)), (.p (.bool false)), (.p (.str [])), (.full [])] H fun v4 h5 =>
  aStore 5 v4 v3 h5 fun _ h7 =>
  aLen false false q1s1 fun v8 =>
  aBin false false .geq y0 v8 fun v9 =>
  aGuard v9
  (K (.p (.int .i64 1)) h7)
  (aIndexAddr 5 q1s1 y0 fun v10 =>
  aLoad true 5 v10 h7 fun v11 =>
  aAlloc [(.p (.int .i64 0)), (.p (.int .i64 0)), (.p (.bool false)), (.p (.str [])), (.full [])] h7 fun v12 h13 =>
  aStore 5 v12 v11 h13 fun _ h15 =>
  aLoad true 5 v4 h15 fun v16 =>
  aLoad true 5 v12 h15 fun v17 =>
  aCall Try.prog q1s2 [v16, v17] h15 fun v18 h19 =>
  aBin false false .neq v18 (.p (.int .i64 0)) fun v20 =>
  aGuard v20
  (K v18 h19)
  (aBin false false .add y0 (.p (.int .i64 1)) fun v21 =>
  B1 [v21] h19)))
  (aLen false false q1s0 fun v22 =>
  aLen false false q1s1 fun v23 =>
  aBin false false .lss v22 v23 fun v24 =>
  aGuard v24
  (K (.p (.int .i64 (-1))) H)
  (K (.p (.int .i64 0)) H))

def slices_CompareFunc_val_Value_val_Value_val_Value_val_Value (x0 x1 x2 : AV) (H : List Ob) (K : AV → List Ob → Prop) : Prop :=
  aLen false false x0 fun v0 =>
  aLoopN 1 [(.p (.int .i64 0))] H fun xs H B1 => slices_CompareFunc_val_Value_val_Value_val_Value_val_Value_L1 x0 x1 x2 x0 v0 (xs.getD 0 .top) H B1 K

def slices_CompareFunc_val_Value_val_Value_val_Value_val_Value_ann : Nat → List Nat := fun k => match k with | 2 => [13] | _ => []

theorem slices_CompareFunc_val_Value_val_Value_val_Value_val_Value_eq (x0 x1 x2 : AV) (H : List Ob) (r : AV) (Ho : List Ob) : aBody Try.prog slices_CompareFunc_val_Value_val_Value_val_Value_val_Value_ann Try.f84 H [x0, x1, x2] r Ho = slices_CompareFunc_val_Value_val_Value_val_Value_val_Value x0 x1 x2 H (fun v H' => Gives H.length v H' r Ho) := by kernel_rfl

theorem slices_CompareFunc_val_Value_val_Value_val_Value_val_Value_fnH {x0 x1 x2 : AV} {Hin : List Ob} {r : AV} {Ho : List Ob} (h : slices_CompareFunc_val_Value_val_Value_val_Value_val_Value x0 x1 x2 Hin (fun v H' => Gives Hin.length v H' r Ho)) : Abs.Fn Try.prog slices_CompareFunc_val_Value_val_Value_val_Value_val_Value_i Hin [x0, x1, x2] r Ho :=
  fn_intro mixed slices_CompareFunc_val_Value_val_Value_val_Value_val_Value_ann (fn := Try.f84) (by kernel_rfl) (by kernel_rfl) (by rw [slices_CompareFunc_val_Value_val_Value_val_Value_val_Value_eq]; exact h)

theorem slices_CompareFunc_val_Value_val_Value_val_Value_val_Value_fn {x0 x1 x2 : AV} {r : AV} {Ho : List Ob} (h : slices_CompareFunc_val_Value_val_Value_val_Value_val_Value x0 x1 x2 [] (fun v H' => Gives 0 v H' r Ho)) : Abs.Fn Try.prog slices_CompareFunc_val_Value_val_Value_val_Value_val_Value_i [] [x0, x1, x2] r Ho := slices_CompareFunc_val_Value_val_Value_val_Value_val_Value_fnH (Hin := []) h

end Go.Proofs.Ytondmcnmdooonaa
end

section
/- Made by program (Gen.lean): functions of the dump, over trees. -/
set_option maxRecDepth 4000
set_option linter.unusedVariables false
namespace Go.Proofs.Ytondmcnmdooonaa
open Go Go.Abs

/- runnel/runnelref6.OpType -/
def runnelref6_OpType_L1 (q1s2 q1s6 q1s8 q1s9 y0 : AV) (H : List Ob) (B1 : List AV → List Ob → Prop) (K : AV → List Ob → Prop) : Prop :=
  aLen false false q1s2 fun v2 =>
  aBin false false .lss y0 v2 fun v3 =>
  aGuard v3
  (aIndexAddr 2 q1s2 y0 fun v4 =>
  aFieldAddr 0 v4 fun v5 =>
  aLoad false 1 v5 H fun v6 =>
  aBin false false .neq v6 q1s8 fun v7 =>
  aGuard v7
  (aBuild [(.p (.int .i64 0)), (.full [])] [] fun v8 =>
  aStore 2 q1s6 v8 H fun _ h10 =>
  aLoad true 2 q1s6 h10 fun v11 =>
  K (.tup [v11, (.p (.int .i64 5))]) h10)
  (aBin false false .add y0 (.p (.int .i64 1)) fun v12 =>
  B1 [v12] H))
  (aCall Try.prog (.p (.func runnelref6_Plain_i [])) [q1s9] H fun v13 h14 =>
  aStore 2 q1s6 v13 h14 fun _ h16 =>
  aLoad true 2 q1s6 h16 fun v17 =>
  K (.tup [v17, (.p (.int .i64 0))]) h16)

def runnelref6_OpType_J1 (j1s2 j1s6 j1s8 j1s9 : AV) (H : List Ob) (K : AV → List Ob → Prop) : Prop :=
  aLoopN 1 [(.p (.int .i64 0))] H fun xs H B1 => runnelref6_OpType_L1 j1s2 j1s6 j1s8 j1s9 (xs.getD 0 .top) H B1 K

def runnelref6_OpType (x0 x1 x2 : AV) (H : List Ob) (K : AV → List Ob → Prop) : Prop :=
  aAlloc [(.p (.int .i64 0)), (.full [])] H fun v0 h1 =>
  aBin false false .eql x0 (.p (.str [97, 116])) fun v18 =>
  aGuard v18
  (aIndexAddr 2 x2 (.p (.int .i64 0)) fun v19 =>
  aFieldAddr 0 v19 fun v20 =>
  aLoad false 1 v20 h1 fun v21 =>
  aBin false false .neq v21 (.p (.int .i64 4)) fun v22 =>
  aGuard v22
  (aBuild [(.p (.int .i64 0)), (.full [])] [] fun v23 =>
  aStore 2 v0 v23 h1 fun _ h25 =>
  aLoad true 2 v0 h25 fun v26 =>
  K (.tup [v26, (.p (.int .i64 5))]) h25)
  (aBin false false .lss x1 (.p (.int .i64 0)) fun v27 =>
  aMerge false v27 (fun Q28 =>
  aIndexAddr 2 x2 (.p (.int .i64 0)) fun v29 =>
  aFieldAddr 1 v29 fun v30 =>
  aLoad false 1 v30 h1 fun v31 =>
  aLenS false v31 fun v32 =>
  aBin false false .geq x1 v32 fun v33 =>
  (h1 = h1 ∧ Q28 v33)) fun v34 =>
  aGuard v34
  (aBuild [(.p (.int .i64 0)), (.full [])] [] fun v35 =>
  aStore 2 v0 v35 h1 fun _ h37 =>
  aLoad true 2 v0 h37 fun v38 =>
  K (.tup [v38, (.p (.int .i64 1))]) h37)
  (aIndexAddr 2 x2 (.p (.int .i64 0)) fun v39 =>
  aFieldAddr 1 v39 fun v40 =>
  aLoad false 1 v40 h1 fun v41 =>
  aIndexAddr 2 v41 x1 fun v42 =>
  aLoad true 2 v42 h1 fun v43 =>
  aStore 2 v0 v43 h1 fun _ h45 =>
  aLoad true 2 v0 h45 fun v46 =>
  K (.tup [v46, (.p (.int .i64 0))]) h45)))
  (aBin false false .eql x0 (.p (.str [116, 117, 112])) fun v47 =>
  aGuard v47
  (aBuild [(.p (.int .i64 0)), (.full [])] [(0, 1, (.p (.int .i64 4))), (1, 1, x2)] fun v48 =>
  aAlloc [(.p (.int .i64 0)), (.full [])] h1 fun v49 h50 =>
  aStore 2 v49 v48 h50 fun _ h52 =>
  aLoad true 2 v49 h52 fun v53 =>
  aCall Try.prog (.p (.func runnelref6_CheckType_i [])) [v53] h52 fun v54 h55 =>
  aBin false false .neq v54 (.p (.int .i64 0)) fun v56 =>
  aGuard v56
  (aBuild [(.p (.int .i64 0)), (.full [])] [] fun v57 =>
  aStore 2 v0 v57 h55 fun _ h59 =>
  aLoad true 2 v0 h59 fun v60 =>
  K (.tup [v60, (.p (.int .i64 9))]) h59)
  (aLoad true 2 v49 h55 fun v61 =>
  aStore 2 v0 v61 h55 fun _ h63 =>
  aLoad true 2 v0 h63 fun v64 =>
  K (.tup [v64, (.p (.int .i64 0))]) h63))
  (aBin false false .eql x0 (.p (.str [101, 113])) fun v65 =>
  aMerge false v65 (fun Q66 =>
  aBin false false .eql x0 (.p (.str [108, 116])) fun v67 =>
  (h1 = h1 ∧ Q66 v67)) fun v68 =>
  aGuard v68
  (aIndexAddr 2 x2 (.p (.int .i64 0)) fun v69 =>
  aLoad true 2 v69 h1 fun v70 =>
  aIndexAddr 2 x2 (.p (.int .i64 1)) fun v71 =>
  aLoad true 2 v71 h1 fun v72 =>
  aCallT Try.prog (.p (.func runnelref6_SameType_i [])) [v70, v72] fun v73 =>
  aUn .not v73 fun v74 =>
  aGuard v74
  (aBuild [(.p (.int .i64 0)), (.full [])] [] fun v75 =>
  aStore 2 v0 v75 h1 fun _ h77 =>
  aLoad true 2 v0 h77 fun v78 =>
  K (.tup [v78, (.p (.int .i64 5))]) h77)
  (aCall Try.prog (.p (.func runnelref6_Plain_i [])) [(.p (.int .i64 2))] h1 fun v79 h80 =>
  aStore 2 v0 v79 h80 fun _ h82 =>
  aLoad true 2 v0 h82 fun v83 =>
  K (.tup [v83, (.p (.int .i64 0))]) h82))
  (aBin false false .eql x0 (.p (.str [105, 102])) fun v84 =>
  aGuard v84
  (aIndexAddr 2 x2 (.p (.int .i64 0)) fun v85 =>
  aFieldAddr 0 v85 fun v86 =>
  aLoad false 1 v86 h1 fun v87 =>
  aBin false false .neq v87 (.p (.int .i64 2)) fun v88 =>
  aGuard v88
  (aBuild [(.p (.int .i64 0)), (.full [])] [] fun v89 =>
  aStore 2 v0 v89 h1 fun _ h91 =>
  aLoad true 2 v0 h91 fun v92 =>
  K (.tup [v92, (.p (.int .i64 5))]) h91)
  (aIndexAddr 2 x2 (.p (.int .i64 1)) fun v93 =>
  aLoad true 2 v93 h1 fun v94 =>
  aIndexAddr 2 x2 (.p (.int .i64 2)) fun v95 =>
  aLoad true 2 v95 h1 fun v96 =>
  aCallT Try.prog (.p (.func runnelref6_SameType_i [])) [v94, v96] fun v97 =>
  aUn .not v97 fun v98 =>
  aGuard v98
  (aBuild [(.p (.int .i64 0)), (.full [])] [] fun v99 =>
  aStore 2 v0 v99 h1 fun _ h101 =>
  aLoad true 2 v0 h101 fun v102 =>
  K (.tup [v102, (.p (.int .i64 5))]) h101)
  (aIndexAddr 2 x2 (.p (.int .i64 1)) fun v103 =>
  aLoad true 2 v103 h1 fun v104 =>
  aStore 2 v0 v104 h1 fun _ h106 =>
  aLoad true 2 v0 h106 fun v107 =>
  K (.tup [v107, (.p (.int .i64 0))]) h106)))
  (aBin false false .eql x0 (.p (.str [110, 101, 103])) fun v108 =>
  aMerge false v108 (fun Q109 =>
  aBin false false .eql x0 (.p (.str [97, 100, 100])) fun v110 =>
  aMerge false v110 (fun Q111 =>
  aBin false false .eql x0 (.p (.str [115, 117, 98])) fun v112 =>
  aMerge false v112 (fun Q113 =>
  aBin false false .eql x0 (.p (.str [109, 117, 108])) fun v114 =>
  aMerge false v114 (fun Q115 =>
  aBin false false .eql x0 (.p (.str [100, 105, 118])) fun v116 =>
  aMerge false v116 (fun Q117 =>
  aBin false false .eql x0 (.p (.str [114, 101, 109])) fun v118 =>
  (h1 = h1 ∧ Q117 v118)) fun v119 =>
  (h1 = h1 ∧ Q115 v119)) fun v120 =>
  (h1 = h1 ∧ Q113 v120)) fun v121 =>
  (h1 = h1 ∧ Q111 v121)) fun v122 =>
  (h1 = h1 ∧ Q109 v122)) fun v123 =>
  aGuard v123
  (runnelref6_OpType_J1 x2 v0 (.p (.int .i64 1)) (.p (.int .i64 1)) h1 K)
  (aBin false false .eql x0 (.p (.str [110, 111, 116])) fun v124 =>
  aMerge false v124 (fun Q125 =>
  aBin false false .eql x0 (.p (.str [97, 110, 100])) fun v126 =>
  aMerge false v126 (fun Q127 =>
  aBin false false .eql x0 (.p (.str [111, 114])) fun v128 =>
  (h1 = h1 ∧ Q127 v128)) fun v129 =>
  (h1 = h1 ∧ Q125 v129)) fun v130 =>
  aGuard v130
  (runnelref6_OpType_J1 x2 v0 (.p (.int .i64 2)) (.p (.int .i64 2)) h1 K)
  (aBin false false .eql x0 (.p (.str [99, 97, 116])) fun v131 =>
  aGuard v131
  (runnelref6_OpType_J1 x2 v0 (.p (.int .i64 3)) (.p (.int .i64 3)) h1 K)
  (aBin false false .eql x0 (.p (.str [108, 101, 110])) fun v132 =>
  aGuard v132
  (runnelref6_OpType_J1 x2 v0 (.p (.int .i64 3)) (.p (.int .i64 1)) h1 K)
  (runnelref6_OpType_J1 x2 v0 (.p (.int .i64 0)) (.p (.int .i64 0)) h1 K))))))))

def runnelref6_OpType_ann : Nat → List Nat := fun k => match k with | 44 => [11] | 1000016 => [1] | 1000029 => [1] | 1000028 => [1] | 1000027 => [1] | 1000026 => [1] | 1000025 => [1] | 1000034 => [1] | 1000033 => [1] | _ => []

theorem runnelref6_OpType_eq (x0 x1 x2 : AV) (H : List Ob) (r : AV) (Ho : List Ob) : aBody Try.prog runnelref6_OpType_ann Try.f45 H [x0, x1, x2] r Ho = runnelref6_OpType x0 x1 x2 H (fun v H' => Gives H.length v H' r Ho) := by kernel_rfl

theorem runnelref6_OpType_fnH {x0 x1 x2 : AV} {Hin : List Ob} {r : AV} {Ho : List Ob} (h : runnelref6_OpType x0 x1 x2 Hin (fun v H' => Gives Hin.length v H' r Ho)) : Abs.Fn Try.prog runnelref6_OpType_i Hin [x0, x1, x2] r Ho :=
  fn_intro mixed runnelref6_OpType_ann (fn := Try.f45) (by kernel_rfl) (by kernel_rfl) (by rw [runnelref6_OpType_eq]; exact h)

theorem runnelref6_OpType_fn {x0 x1 x2 : AV} {r : AV} {Ho : List Ob} (h : runnelref6_OpType x0 x1 x2 [] (fun v H' => Gives 0 v H' r Ho)) : Abs.Fn Try.prog runnelref6_OpType_i [] [x0, x1, x2] r Ho := runnelref6_OpType_fnH (Hin := []) h

/- runnel/runnelref6.Plain -/
def runnelref6_Plain (x0 : AV) (H : List Ob) (K : AV → List Ob → Prop) : Prop :=
  aAlloc [(.p (.int .i64 0)), (.full [])] H fun v0 h1 =>
  aBuild [(.p (.int .i64 0)), (.full [])] [(0, 1, x0)] fun v2 =>
  aStore 2 v0 v2 h1 fun _ h4 =>
  aLoad true 2 v0 h4 fun v5 =>
  K v5 h4

def runnelref6_Plain_ann : Nat → List Nat := fun _ => []

theorem runnelref6_Plain_eq (x0 : AV) (H : List Ob) (r : AV) (Ho : List Ob) : aBody Try.prog runnelref6_Plain_ann Try.f55 H [x0] r Ho = runnelref6_Plain x0 H (fun v H' => Gives H.length v H' r Ho) := by kernel_rfl

theorem runnelref6_Plain_fnH {x0 : AV} {Hin : List Ob} {r : AV} {Ho : List Ob} (h : runnelref6_Plain x0 Hin (fun v H' => Gives Hin.length v H' r Ho)) : Abs.Fn Try.prog runnelref6_Plain_i Hin [x0] r Ho :=
  fn_intro mixed runnelref6_Plain_ann (fn := Try.f55) (by kernel_rfl) (by kernel_rfl) (by rw [runnelref6_Plain_eq]; exact h)

theorem runnelref6_Plain_fn {x0 : AV} {r : AV} {Ho : List Ob} (h : runnelref6_Plain x0 [] (fun v H' => Gives 0 v H' r Ho)) : Abs.Fn Try.prog runnelref6_Plain_i [] [x0] r Ho := runnelref6_Plain_fnH (Hin := []) h

end Go.Proofs.Ytondmcnmdooonaa
end

section
/- Made by program (Gen.lean): functions of the dump, over trees. -/
set_option maxRecDepth 4000
set_option linter.unusedVariables false
namespace Go.Proofs.Ytondmcnmdooonaa
open Go Go.Abs

/- runnel/runnelref6.Make -/
def runnelref6_Make (x0 x1 x2 : AV) (H : List Ob) (K : AV → List Ob → Prop) : Prop :=
  aAlloc [(.p (.int .i64 0)), (.p (.int .i64 0)), (.p (.bool false)), (.p (.str [])), (.full [])] H fun v0 h1 =>
  aBin false false .eql x0 (.p (.str [97, 116])) fun v2 =>
  aGuard v2
  (aIndexAddr 5 x2 (.p (.int .i64 0)) fun v3 =>
  aFieldAddr 4 v3 fun v4 =>
  aLoad false 1 v4 h1 fun v5 =>
  aIndexAddr 5 v5 x1 fun v6 =>
  aLoad true 5 v6 h1 fun v7 =>
  aStore 5 v0 v7 h1 fun _ h9 =>
  aLoad true 5 v0 h9 fun v10 =>
  K (.tup [v10, (.p (.int .i64 0))]) h9)
  (aBin false false .eql x0 (.p (.str [116, 117, 112])) fun v11 =>
  aGuard v11
  (aBuildSlice 5 [] fun v12 =>
  aAppend false 5 64 v12 x2 h1 fun v13 h14 =>
  aBuild [(.p (.int .i64 0)), (.p (.int .i64 0)), (.p (.bool false)), (.p (.str [])), (.full [])] [(0, 1, (.p (.int .i64 4))), (4, 1, v13)] fun v15 =>
  aStore 5 v0 v15 h14 fun _ h17 =>
  aLoad true 5 v0 h17 fun v18 =>
  K (.tup [v18, (.p (.int .i64 0))]) h17)
  (aBin false false .eql x0 (.p (.str [110, 101, 103])) fun v19 =>
  aGuard v19
  (aIndexAddr 5 x2 (.p (.int .i64 0)) fun v20 =>
  aFieldAddr 1 v20 fun v21 =>
  aLoad false 1 v21 h1 fun v22 =>
  aBin false false .sub (.p (.int .i64 0)) v22 fun v23 =>
  aCall Try.prog (.p (.func runnelref6_V_i [])) [v23] h1 fun v24 h25 =>
  aStore 5 v0 v24 h25 fun _ h27 =>
  aLoad true 5 v0 h27 fun v28 =>
  K (.tup [v28, (.p (.int .i64 0))]) h27)
  (aBin false false .eql x0 (.p (.str [110, 111, 116])) fun v29 =>
  aGuard v29
  (aIndexAddr 5 x2 (.p (.int .i64 0)) fun v30 =>
  aFieldAddr 2 v30 fun v31 =>
  aLoad false 1 v31 h1 fun v32 =>
  aUn .not v32 fun v33 =>
  aCall Try.prog (.p (.func runnelref6_Yes_i [])) [v33] h1 fun v34 h35 =>
  aStore 5 v0 v34 h35 fun _ h37 =>
  aLoad true 5 v0 h37 fun v38 =>
  K (.tup [v38, (.p (.int .i64 0))]) h37)
  (aBin false false .eql x0 (.p (.str [108, 101, 110])) fun v39 =>
  aGuard v39
  (aIndexAddr 5 x2 (.p (.int .i64 0)) fun v40 =>
  aFieldAddr 3 v40 fun v41 =>
  aLoad false 1 v41 h1 fun v42 =>
  aLen false true v42 fun v43 =>
  aCall Try.prog (.p (.func runnelref6_V_i [])) [v43] h1 fun v44 h45 =>
  aStore 5 v0 v44 h45 fun _ h47 =>
  aLoad true 5 v0 h47 fun v48 =>
  K (.tup [v48, (.p (.int .i64 0))]) h47)
  (aBin false false .eql x0 (.p (.str [97, 100, 100])) fun v49 =>
  aGuard v49
  (aIndexAddr 5 x2 (.p (.int .i64 0)) fun v50 =>
  aFieldAddr 1 v50 fun v51 =>
  aLoad false 1 v51 h1 fun v52 =>
  aIndexAddr 5 x2 (.p (.int .i64 1)) fun v53 =>
  aFieldAddr 1 v53 fun v54 =>
  aLoad false 1 v54 h1 fun v55 =>
  aBin false false .add v52 v55 fun v56 =>
  aCallT Try.prog (.p (.func runnelref6_V_i [])) [v56] fun v57 =>
  aStore 5 v0 v57 h1 fun _ h59 =>
  aLoad true 5 v0 h59 fun v60 =>
  K (.tup [v60, (.p (.int .i64 0))]) h59)
  (aBin false false .eql x0 (.p (.str [115, 117, 98])) fun v61 =>
  aGuard v61
  (aIndexAddr 5 x2 (.p (.int .i64 0)) fun v62 =>
  aFieldAddr 1 v62 fun v63 =>
  aLoad false 1 v63 h1 fun v64 =>
  aIndexAddr 5 x2 (.p (.int .i64 1)) fun v65 =>
  aFieldAddr 1 v65 fun v66 =>
  aLoad false 1 v66 h1 fun v67 =>
  aBin false false .sub v64 v67 fun v68 =>
  aCallT Try.prog (.p (.func runnelref6_V_i [])) [v68] fun v69 =>
  aStore 5 v0 v69 h1 fun _ h71 =>
  aLoad true 5 v0 h71 fun v72 =>
  K (.tup [v72, (.p (.int .i64 0))]) h71)
  (aBin false false .eql x0 (.p (.str [109, 117, 108])) fun v73 =>
  aGuard v73
  (aIndexAddr 5 x2 (.p (.int .i64 0)) fun v74 =>
  aFieldAddr 1 v74 fun v75 =>
  aLoad false 1 v75 h1 fun v76 =>
  aIndexAddr 5 x2 (.p (.int .i64 1)) fun v77 =>
  aFieldAddr 1 v77 fun v78 =>
  aLoad false 1 v78 h1 fun v79 =>
  aBin false false .mul v76 v79 fun v80 =>
  aCallT Try.prog (.p (.func runnelref6_V_i [])) [v80] fun v81 =>
  aStore 5 v0 v81 h1 fun _ h83 =>
  aLoad true 5 v0 h83 fun v84 =>
  K (.tup [v84, (.p (.int .i64 0))]) h83)
  (aBin false false .eql x0 (.p (.str [101, 113])) fun v85 =>
  aGuard v85
  (aIndexAddr 5 x2 (.p (.int .i64 0)) fun v86 =>
  aLoad true 5 v86 h1 fun v87 =>
  aIndexAddr 5 x2 (.p (.int .i64 1)) fun v88 =>
  aLoad true 5 v88 h1 fun v89 =>
  aCallT Try.prog (.p (.func runnelref6_Same_i [])) [v87, v89] fun v90 =>
  aCallT Try.prog (.p (.func runnelref6_Yes_i [])) [v90] fun v91 =>
  aStore 5 v0 v91 h1 fun _ h93 =>
  aLoad true 5 v0 h93 fun v94 =>
  K (.tup [v94, (.p (.int .i64 0))]) h93)
  (aBin false false .eql x0 (.p (.str [108, 116])) fun v95 =>
  aGuard v95
  (aIndexAddr 5 x2 (.p (.int .i64 0)) fun v96 =>
  aLoad true 5 v96 h1 fun v97 =>
  aIndexAddr 5 x2 (.p (.int .i64 1)) fun v98 =>
  aLoad true 5 v98 h1 fun v99 =>
  aCallT Try.prog (.p (.func runnelref6_Compare_i [])) [v97, v99] fun v100 =>
  aBin false false .lss v100 (.p (.int .i64 0)) fun v101 =>
  aCallT Try.prog (.p (.func runnelref6_Yes_i [])) [v101] fun v102 =>
  aStore 5 v0 v102 h1 fun _ h104 =>
  aLoad true 5 v0 h104 fun v105 =>
  K (.tup [v105, (.p (.int .i64 0))]) h104)
  (aBin false false .eql x0 (.p (.str [99, 97, 116])) fun v106 =>
  aGuard v106
  (aIndexAddr 5 x2 (.p (.int .i64 0)) fun v107 =>
  aFieldAddr 3 v107 fun v108 =>
  aLoad false 1 v108 h1 fun v109 =>
  aIndexAddr 5 x2 (.p (.int .i64 1)) fun v110 =>
  aFieldAddr 3 v110 fun v111 =>
  aLoad false 1 v111 h1 fun v112 =>
  aBin false false .add v109 v112 fun v113 =>
  aLen false true v113 fun v114 =>
  aBin false false .gtr v114 (.p (.int .i64 255)) fun v115 =>
  aGuard v115
  (aBuild [(.p (.int .i64 0)), (.p (.int .i64 0)), (.p (.bool false)), (.p (.str [])), (.full [])] [] fun v116 =>
  aStore 5 v0 v116 h1 fun _ h118 =>
  aLoad true 5 v0 h118 fun v119 =>
  K (.tup [v119, (.p (.int .i64 4))]) h118)
  (aBuild [(.p (.int .i64 0)), (.p (.int .i64 0)), (.p (.bool false)), (.p (.str [])), (.full [])] [(0, 1, (.p (.int .i64 3))), (3, 1, v113)] fun v120 =>
  aStore 5 v0 v120 h1 fun _ h122 =>
  aLoad true 5 v0 h122 fun v123 =>
  K (.tup [v123, (.p (.int .i64 0))]) h122))
  (aIndexAddr 5 x2 (.p (.int .i64 1)) fun v124 =>
  aFieldAddr 1 v124 fun v125 =>
  aLoad false 1 v125 h1 fun v126 =>
  aBin false false .eql v126 (.p (.int .i64 0)) fun v127 =>
  aGuard v127
  (aBuild [(.p (.int .i64 0)), (.p (.int .i64 0)), (.p (.bool false)), (.p (.str [])), (.full [])] [] fun v128 =>
  aStore 5 v0 v128 h1 fun _ h130 =>
  aLoad true 5 v0 h130 fun v131 =>
  K (.tup [v131, (.p (.int .i64 8))]) h130)
  (aIndexAddr 5 x2 (.p (.int .i64 1)) fun v132 =>
  aFieldAddr 1 v132 fun v133 =>
  aLoad false 1 v133 h1 fun v134 =>
  aBin false false .eql v134 (.p (.int .i64 (-1))) fun v135 =>
  aGuard v135
  (aBin false false .eql x0 (.p (.str [100, 105, 118])) fun v136 =>
  aGuard v136
  (aIndexAddr 5 x2 (.p (.int .i64 0)) fun v137 =>
  aFieldAddr 1 v137 fun v138 =>
  aLoad false 1 v138 h1 fun v139 =>
  aBin false false .sub (.p (.int .i64 0)) v139 fun v140 =>
  aCall Try.prog (.p (.func runnelref6_V_i [])) [v140] h1 fun v141 h142 =>
  aStore 5 v0 v141 h142 fun _ h144 =>
  aLoad true 5 v0 h144 fun v145 =>
  K (.tup [v145, (.p (.int .i64 0))]) h144)
  (aCall Try.prog (.p (.func runnelref6_V_i [])) [(.p (.int .i64 0))] h1 fun v146 h147 =>
  aStore 5 v0 v146 h147 fun _ h149 =>
  aLoad true 5 v0 h149 fun v150 =>
  K (.tup [v150, (.p (.int .i64 0))]) h149))
  (aBin false false .eql x0 (.p (.str [100, 105, 118])) fun v151 =>
  aGuard v151
  (aIndexAddr 5 x2 (.p (.int .i64 0)) fun v152 =>
  aFieldAddr 1 v152 fun v153 =>
  aLoad false 1 v153 h1 fun v154 =>
  aIndexAddr 5 x2 (.p (.int .i64 1)) fun v155 =>
  aFieldAddr 1 v155 fun v156 =>
  aLoad false 1 v156 h1 fun v157 =>
  aBin false false .quo v154 v157 fun v158 =>
  aCallT Try.prog (.p (.func runnelref6_V_i [])) [v158] fun v159 =>
  aStore 5 v0 v159 h1 fun _ h161 =>
  aLoad true 5 v0 h161 fun v162 =>
  K (.tup [v162, (.p (.int .i64 0))]) h161)
  (aIndexAddr 5 x2 (.p (.int .i64 0)) fun v163 =>
  aFieldAddr 1 v163 fun v164 =>
  aLoad false 1 v164 h1 fun v165 =>
  aIndexAddr 5 x2 (.p (.int .i64 1)) fun v166 =>
  aFieldAddr 1 v166 fun v167 =>
  aLoad false 1 v167 h1 fun v168 =>
  aBin false false .rem v165 v168 fun v169 =>
  aCallT Try.prog (.p (.func runnelref6_V_i [])) [v169] fun v170 =>
  aStore 5 v0 v170 h1 fun _ h172 =>
  aLoad true 5 v0 h172 fun v173 =>
  K (.tup [v173, (.p (.int .i64 0))]) h172))))))))))))))

def runnelref6_Make_ann : Nat → List Nat := fun _ => []

theorem runnelref6_Make_eq (x0 x1 x2 : AV) (H : List Ob) (r : AV) (Ho : List Ob) : aBody Try.prog runnelref6_Make_ann Try.f24 H [x0, x1, x2] r Ho = runnelref6_Make x0 x1 x2 H (fun v H' => Gives H.length v H' r Ho) := by kernel_rfl

theorem runnelref6_Make_fnH {x0 x1 x2 : AV} {Hin : List Ob} {r : AV} {Ho : List Ob} (h : runnelref6_Make x0 x1 x2 Hin (fun v H' => Gives Hin.length v H' r Ho)) : Abs.Fn Try.prog runnelref6_Make_i Hin [x0, x1, x2] r Ho :=
  fn_intro mixed runnelref6_Make_ann (fn := Try.f24) (by kernel_rfl) (by kernel_rfl) (by rw [runnelref6_Make_eq]; exact h)

theorem runnelref6_Make_fn {x0 x1 x2 : AV} {r : AV} {Ho : List Ob} (h : runnelref6_Make x0 x1 x2 [] (fun v H' => Gives 0 v H' r Ho)) : Abs.Fn Try.prog runnelref6_Make_i [] [x0, x1, x2] r Ho := runnelref6_Make_fnH (Hin := []) h

/- runnel/eval.One -/
def eval_One (x0 x1 : AV) (H : List Ob) (K : AV → List Ob → Prop) : Prop :=
  aBox x1 H fun v0 h1 =>
  aAlloc [(.p (.int .i64 0)), (.p (.int .i64 0)), (.p (.bool false)), (.p (.str [])), (.full [])] h1 fun v2 h3 =>
  aCall Try.prog (.p (.func eval_ones_i [])) [] h3 fun v4 h5 =>
  aCall Try.prog (.p (.func eval_table_func_a_val_Value_val_Value_find_i [])) [v4, x0] h5 fun v6 h7 =>
  aExtract v6 0 fun v8 =>
  aExtract v6 1 fun v9 =>
  aUn .not v9 fun v10 =>
  aGuard v10
  (aBuild [(.p (.int .i64 0)), (.p (.int .i64 0)), (.p (.bool false)), (.p (.str [])), (.full [])] [] fun v11 =>
  aStore 5 v2 v11 h7 fun _ h13 =>
  aLoad true 5 v2 h13 fun v14 =>
  K (.tup [v14, (.p (.bool false))]) h13)
  (aLoad true 5 v0 h7 fun v15 =>
  aCall Try.prog v8 [v15] h7 fun v16 h17 =>
  aStore 5 v2 v16 h17 fun _ h19 =>
  aLoad true 5 v2 h19 fun v20 =>
  K (.tup [v20, (.p (.bool true))]) h19)

def eval_One_ann : Nat → List Nat := fun _ => []

theorem eval_One_eq (x0 x1 : AV) (H : List Ob) (r : AV) (Ho : List Ob) : aBody Try.prog eval_One_ann Try.f36 H [x0, x1] r Ho = eval_One x0 x1 H (fun v H' => Gives H.length v H' r Ho) := by kernel_rfl

theorem eval_One_fnH {x0 x1 : AV} {Hin : List Ob} {r : AV} {Ho : List Ob} (h : eval_One x0 x1 Hin (fun v H' => Gives Hin.length v H' r Ho)) : Abs.Fn Try.prog eval_One_i Hin [x0, x1] r Ho :=
  fn_intro mixed eval_One_ann (fn := Try.f36) (by kernel_rfl) (by kernel_rfl) (by rw [eval_One_eq]; exact h)

theorem eval_One_fn {x0 x1 : AV} {r : AV} {Ho : List Ob} (h : eval_One x0 x1 [] (fun v H' => Gives 0 v H' r Ho)) : Abs.Fn Try.prog eval_One_i [] [x0, x1] r Ho := eval_One_fnH (Hin := []) h

/- runnel/eval.Both -/
def eval_Both (x0 x1 x2 : AV) (H : List Ob) (K : AV → List Ob → Prop) : Prop :=
  aBox x1 H fun v0 h1 =>
  aBox x2 h1 fun v2 h3 =>
  aAlloc [(.p (.int .i64 0)), (.p (.int .i64 0)), (.p (.bool false)), (.p (.str [])), (.full [])] h3 fun v4 h5 =>
  aCall Try.prog (.p (.func eval_twos_i [])) [] h5 fun v6 h7 =>
  aCall Try.prog (.p (.func eval_table_eval_Two_find_i [])) [v6, x0] h7 fun v8 h9 =>
  aExtract v8 0 fun v10 =>
  aExtract v8 1 fun v11 =>
  aUn .not v11 fun v12 =>
  aGuard v12
  (aBuild [(.p (.int .i64 0)), (.p (.int .i64 0)), (.p (.bool false)), (.p (.str [])), (.full [])] [] fun v13 =>
  aStore 5 v4 v13 h9 fun _ h15 =>
  aLoad true 5 v4 h15 fun v16 =>
  K (.tup [v16, (.p (.int .i64 0)), (.p (.bool false))]) h15)
  (aLoad true 5 v0 h9 fun v17 =>
  aLoad true 5 v2 h9 fun v18 =>
  aCall Try.prog v10 [v17, v18] h9 fun v19 h20 =>
  aExtract v19 0 fun v21 =>
  aExtract v19 1 fun v22 =>
  aAlloc [(.p (.int .i64 0)), (.p (.int .i64 0)), (.p (.bool false)), (.p (.str [])), (.full [])] h20 fun v23 h24 =>
  aStore 5 v23 v21 h24 fun _ h26 =>
  aLoad true 5 v23 h26 fun v27 =>
  aStore 5 v4 v27 h26 fun _ h29 =>
  aLoad true 5 v4 h29 fun v30 =>
  K (.tup [v30, v22, (.p (.bool true))]) h29)

def eval_Both_ann : Nat → List Nat := fun _ => []

theorem eval_Both_eq (x0 x1 x2 : AV) (H : List Ob) (r : AV) (Ho : List Ob) : aBody Try.prog eval_Both_ann Try.f37 H [x0, x1, x2] r Ho = eval_Both x0 x1 x2 H (fun v H' => Gives H.length v H' r Ho) := by kernel_rfl

theorem eval_Both_fnH {x0 x1 x2 : AV} {Hin : List Ob} {r : AV} {Ho : List Ob} (h : eval_Both x0 x1 x2 Hin (fun v H' => Gives Hin.length v H' r Ho)) : Abs.Fn Try.prog eval_Both_i Hin [x0, x1, x2] r Ho :=
  fn_intro mixed eval_Both_ann (fn := Try.f37) (by kernel_rfl) (by kernel_rfl) (by rw [eval_Both_eq]; exact h)

theorem eval_Both_fn {x0 x1 x2 : AV} {r : AV} {Ho : List Ob} (h : eval_Both x0 x1 x2 [] (fun v H' => Gives 0 v H' r Ho)) : Abs.Fn Try.prog eval_Both_i [] [x0, x1, x2] r Ho := eval_Both_fnH (Hin := []) h

/- runnel/runnelref6.V -/
def runnelref6_V (x0 : AV) (H : List Ob) (K : AV → List Ob → Prop) : Prop :=
  aAlloc [(.p (.int .i64 0)), (.p (.int .i64 0)), (.p (.bool false)), (.p (.str [])), (.full [])] H fun v0 h1 =>
  aBuild [(.p (.int .i64 0)), (.p (.int .i64 0)), (.p (.bool false)), (.p (.str [])), (.full [])] [(0, 1, (.p (.int .i64 1))), (1, 1, x0)] fun v2 =>
  aStore 5 v0 v2 h1 fun _ h4 =>
  aLoad true 5 v0 h4 fun v5 =>
  K v5 h4

def runnelref6_V_ann : Nat → List Nat := fun _ => []

theorem runnelref6_V_eq (x0 : AV) (H : List Ob) (r : AV) (Ho : List Ob) : aBody Try.prog runnelref6_V_ann Try.f38 H [x0] r Ho = runnelref6_V x0 H (fun v H' => Gives H.length v H' r Ho) := by kernel_rfl

theorem runnelref6_V_fnH {x0 : AV} {Hin : List Ob} {r : AV} {Ho : List Ob} (h : runnelref6_V x0 Hin (fun v H' => Gives Hin.length v H' r Ho)) : Abs.Fn Try.prog runnelref6_V_i Hin [x0] r Ho :=
  fn_intro mixed runnelref6_V_ann (fn := Try.f38) (by kernel_rfl) (by kernel_rfl) (by rw [runnelref6_V_eq]; exact h)

theorem runnelref6_V_fn {x0 : AV} {r : AV} {Ho : List Ob} (h : runnelref6_V x0 [] (fun v H' => Gives 0 v H' r Ho)) : Abs.Fn Try.prog runnelref6_V_i [] [x0] r Ho := runnelref6_V_fnH (Hin := []) h

/- runnel/runnelref6.Yes -/
def runnelref6_Yes (x0 : AV) (H : List Ob) (K : AV → List Ob → Prop) : Prop :=
  aAlloc [(.p (.int .i64 0)), (.p (.int .i64 0)), (.p (.bool false)), (.p (.str [])), (.full [])] H fun v0 h1 =>
  aBuild [(.p (.int .i64 0)), (.p (.int .i64 0)), (.p (.bool false)), (.p (.str [])), (.full [])] [(0, 1, (.p (.int .i64 2))), (2, 1, x0)] fun v2 =>
  aStore 5 v0 v2 h1 fun _ h4 =>
  aLoad true 5 v0 h4 fun v5 =>
  K v5 h4

def runnelref6_Yes_ann : Nat → List Nat := fun _ => []

theorem runnelref6_Yes_eq (x0 : AV) (H : List Ob) (r : AV) (Ho : List Ob) : aBody Try.prog runnelref6_Yes_ann Try.f39 H [x0] r Ho = runnelref6_Yes x0 H (fun v H' => Gives H.length v H' r Ho) := by kernel_rfl

theorem runnelref6_Yes_fnH {x0 : AV} {Hin : List Ob} {r : AV} {Ho : List Ob} (h : runnelref6_Yes x0 Hin (fun v H' => Gives Hin.length v H' r Ho)) : Abs.Fn Try.prog runnelref6_Yes_i Hin [x0] r Ho :=
  fn_intro mixed runnelref6_Yes_ann (fn := Try.f39) (by kernel_rfl) (by kernel_rfl) (by rw [runnelref6_Yes_eq]; exact h)

theorem runnelref6_Yes_fn {x0 : AV} {r : AV} {Ho : List Ob} (h : runnelref6_Yes x0 [] (fun v H' => Gives 0 v H' r Ho)) : Abs.Fn Try.prog runnelref6_Yes_i [] [x0] r Ho := runnelref6_Yes_fnH (Hin := []) h

/- runnel/eval.ones -/
def eval_ones (H : List Ob) (K : AV → List Ob → Prop) : Prop :=
  aBuild [(.p (.str [])), (.p (.raw .nilFunc))] [(0, 1, (.p (.str [110, 101, 103]))), (1, 1, (.p (.func eval_ones_1_i [])))] fun v0 =>
  aBuild [(.p (.str [])), (.p (.raw .nilFunc))] [(0, 1, (.p (.str [110, 111, 116]))), (1, 1, (.p (.func eval_ones_2_i [])))] fun v1 =>
  aBuild [(.p (.str [])), (.p (.raw .nilFunc))] [(0, 1, (.p (.str [108, 101, 110]))), (1, 1, (.p (.func eval_ones_3_i [])))] fun v2 =>
  aBuildSlice 2 [v0, v1, v2] fun v3 =>
  K v3 H

def eval_ones_ann : Nat → List Nat := fun _ => []

theorem eval_ones_eq (H : List Ob) (r : AV) (Ho : List Ob) : aBody Try.prog eval_ones_ann Try.f49 H [] r Ho = eval_ones H (fun v H' => Gives H.length v H' r Ho) := by kernel_rfl

theorem eval_ones_fnH {Hin : List Ob} {r : AV} {Ho : List Ob} (h : eval_ones Hin (fun v H' => Gives Hin.length v H' r Ho)) : Abs.Fn Try.prog eval_ones_i Hin [] r Ho :=
  fn_intro mixed eval_ones_ann (fn := Try.f49) (by kernel_rfl) (by kernel_rfl) (by rw [eval_ones_eq]; exact h)

theorem eval_ones_fn {r : AV} {Ho : List Ob} (h : eval_ones [] (fun v H' => Gives 0 v H' r Ho)) : Abs.Fn Try.prog eval_ones_i [] [] r Ho := eval_ones_fnH (Hin := []) h

/- (runnel/eval.table[func(a runnel/val.Value) runnel/val.Value]).find -/
def eval_table_func_a_val_Value_val_Value_find_L1 (q1s1 q1s9 q1s10 y0 : AV) (H : List Ob) (B1 : List AV → List Ob → Prop) (K : AV → List Ob → Prop) : Prop :=
  aBin false false .lss y0 q1s10 fun v1 =>
  aGuard v1
  (aIndexAddr 2 q1s9 y0 fun v2 =>
  aLoad true 2 v2 H fun v3 =>
  aAlloc [(.p (.str [])), (.p (.raw .nilFunc))] H fun v4 h5 =>
  aStore 2 v4 v3 h5 fun _ h7 =>
  aFieldAddr 0 v4 fun v8 =>
  aLoad false 1 v8 h7 fun v9 =>
  aBin false false .eql v9 q1s1 fun v10 =>
  aGuard v10
  (aFieldAddr 1 v4 fun v11 =>
  aLoad false 1 v11 h7 fun v12 =>
  K (.tup [v12, (.p (.bool true))]) h7)
  (aBin false false .add y0 (.p (.int .i64 1)) fun v13 =>
  B1 [v13] h7))
  (K (.tup [(.p (.raw .nilFunc)), (.p (.bool false))]) H)

def eval_table_func_a_val_Value_val_Value_find (x0 x1 : AV) (H : List Ob) (K : AV → List Ob → Prop) : Prop :=
  aLen false false x0 fun v0 =>
  aLoopN 1 [(.p (.int .i64 0))] H fun xs H B1 => eval_table_func_a_val_Value_val_Value_find_L1 x1 x0 v0 (xs.getD 0 .top) H B1 K

def eval_table_func_a_val_Value_val_Value_find_ann : Nat → List Nat := fun k => match k with | 2 => [11] | _ => []

theorem eval_table_func_a_val_Value_val_Value_find_eq (x0 x1 : AV) (H : List Ob) (r : AV) (Ho : List Ob) : aBody Try.prog eval_table_func_a_val_Value_val_Value_find_ann Try.f50 H [x0, x1] r Ho = eval_table_func_a_val_Value_val_Value_find x0 x1 H (fun v H' => Gives H.length v H' r Ho) := by kernel_rfl

theorem eval_table_func_a_val_Value_val_Value_find_fnH {x0 x1 : AV} {Hin : List Ob} {r : AV} {Ho : List Ob} (h : eval_table_func_a_val_Value_val_Value_find x0 x1 Hin (fun v H' => Gives Hin.length v H' r Ho)) : Abs.Fn Try.prog eval_table_func_a_val_Value_val_Value_find_i Hin [x0, x1] r Ho :=
  fn_intro mixed eval_table_func_a_val_Value_val_Value_find_ann (fn := Try.f50) (by kernel_rfl) (by kernel_rfl) (by rw [eval_table_func_a_val_Value_val_Value_find_eq]; exact h)

theorem eval_table_func_a_val_Value_val_Value_find_fn {x0 x1 : AV} {r : AV} {Ho : List Ob} (h : eval_table_func_a_val_Value_val_Value_find x0 x1 [] (fun v H' => Gives 0 v H' r Ho)) : Abs.Fn Try.prog eval_table_func_a_val_Value_val_Value_find_i [] [x0, x1] r Ho := eval_table_func_a_val_Value_val_Value_find_fnH (Hin := []) h

/- runnel/eval.twos -/
def eval_twos (H : List Ob) (K : AV → List Ob → Prop) : Prop :=
  aCall Try.prog (.p (.func eval_number_i [])) [(.p (.func eval_twos_1_i []))] H fun v0 h1 =>
  aBuild [(.p (.str [])), (.p (.raw .nilFunc))] [(0, 1, (.p (.str [97, 100, 100]))), (1, 1, v0)] fun v2 =>
  aCall Try.prog (.p (.func eval_number_i [])) [(.p (.func eval_twos_2_i []))] h1 fun v3 h4 =>
  aBuild [(.p (.str [])), (.p (.raw .nilFunc))] [(0, 1, (.p (.str [115, 117, 98]))), (1, 1, v3)] fun v5 =>
  aCall Try.prog (.p (.func eval_number_i [])) [(.p (.func eval_twos_3_i []))] h4 fun v6 h7 =>
  aBuild [(.p (.str [])), (.p (.raw .nilFunc))] [(0, 1, (.p (.str [109, 117, 108]))), (1, 1, v6)] fun v8 =>
  aCall Try.prog (.p (.func eval_divided_i [])) [(.p (.func eval_twos_4_i []))] h7 fun v9 h10 =>
  aBuild [(.p (.str [])), (.p (.raw .nilFunc))] [(0, 1, (.p (.str [100, 105, 118]))), (1, 1, v9)] fun v11 =>
  aCall Try.prog (.p (.func eval_divided_i [])) [(.p (.func eval_twos_5_i []))] h10 fun v12 h13 =>
  aBuild [(.p (.str [])), (.p (.raw .nilFunc))] [(0, 1, (.p (.str [114, 101, 109]))), (1, 1, v12)] fun v14 =>
  aBuild [(.p (.str [])), (.p (.raw .nilFunc))] [(0, 1, (.p (.str [101, 113]))), (1, 1, (.p (.func eval_twos_6_i [])))] fun v15 =>
  aBuild [(.p (.str [])), (.p (.raw .nilFunc))] [(0, 1, (.p (.str [108, 116]))), (1, 1, (.p (.func eval_twos_7_i [])))] fun v16 =>
  aBuild [(.p (.str [])), (.p (.raw .nilFunc))] [(0, 1, (.p (.str [99, 97, 116]))), (1, 1, (.p (.func eval_cat_i [])))] fun v17 =>
  aBuildSlice 2 [v2, v5, v8, v11, v14, v15, v16, v17] fun v18 =>
  K v18 h13

def eval_twos_ann : Nat → List Nat := fun _ => []

theorem eval_twos_eq (H : List Ob) (r : AV) (Ho : List Ob) : aBody Try.prog eval_twos_ann Try.f51 H [] r Ho = eval_twos H (fun v H' => Gives H.length v H' r Ho) := by kernel_rfl

theorem eval_twos_fnH {Hin : List Ob} {r : AV} {Ho : List Ob} (h : eval_twos Hin (fun v H' => Gives Hin.length v H' r Ho)) : Abs.Fn Try.prog eval_twos_i Hin [] r Ho :=
  fn_intro mixed eval_twos_ann (fn := Try.f51) (by kernel_rfl) (by kernel_rfl) (by rw [eval_twos_eq]; exact h)

theorem eval_twos_fn {r : AV} {Ho : List Ob} (h : eval_twos [] (fun v H' => Gives 0 v H' r Ho)) : Abs.Fn Try.prog eval_twos_i [] [] r Ho := eval_twos_fnH (Hin := []) h

/- (runnel/eval.table[runnel/eval.Two]).find -/
def eval_table_eval_Two_find_L1 (q1s1 q1s9 q1s10 y0 : AV) (H : List Ob) (B1 : List AV → List Ob → Prop) (K : AV → List Ob → Prop) : Prop :=
  aBin false false .lss y0 q1s10 fun v1 =>
  aGuard v1
  (aIndexAddr 2 q1s9 y0 fun v2 =>
  aLoad true 2 v2 H fun v3 =>
  aAlloc [(.p (.str [])), (.p (.raw .nilFunc))] H fun v4 h5 =>
  aStore 2 v4 v3 h5 fun _ h7 =>
  aFieldAddr 0 v4 fun v8 =>
  aLoad false 1 v8 h7 fun v9 =>
  aBin false false .eql v9 q1s1 fun v10 =>
  aGuard v10
  (aFieldAddr 1 v4 fun v11 =>
  aLoad false 1 v11 h7 fun v12 =>
  K (.tup [v12, (.p (.bool true))]) h7)
  (aBin false false .add y0 (.p (.int .i64 1)) fun v13 =>
  B1 [v13] h7))
  (K (.tup [(.p (.raw .nilFunc)), (.p (.bool false))]) H)

def eval_table_eval_Two_find (x0 x1 : AV) (H : List Ob) (K : AV → List Ob → Prop) : Prop :=
  aLen false false x0 fun v0 =>
  aLoopN 1 [(.p (.int .i64 0))] H fun xs H B1 => eval_table_eval_Two_find_L1 x1 x0 v0 (xs.getD 0 .top) H B1 K

def eval_table_eval_Two_find_ann : Nat → List Nat := fun k => match k with | 2 => [11] | _ => []

theorem eval_table_eval_Two_find_eq (x0 x1 : AV) (H : List Ob) (r : AV) (Ho : List Ob) : aBody Try.prog eval_table_eval_Two_find_ann Try.f52 H [x0, x1] r Ho = eval_table_eval_Two_find x0 x1 H (fun v H' => Gives H.length v H' r Ho) := by kernel_rfl

theorem eval_table_eval_Two_find_fnH {x0 x1 : AV} {Hin : List Ob} {r : AV} {Ho : List Ob} (h : eval_table_eval_Two_find x0 x1 Hin (fun v H' => Gives Hin.length v H' r Ho)) : Abs.Fn Try.prog eval_table_eval_Two_find_i Hin [x0, x1] r Ho :=
  fn_intro mixed eval_table_eval_Two_find_ann (fn := Try.f52) (by kernel_rfl) (by kernel_rfl) (by rw [eval_table_eval_Two_find_eq]; exact h)

theorem eval_table_eval_Two_find_fn {x0 x1 : AV} {r : AV} {Ho : List Ob} (h : eval_table_eval_Two_find x0 x1 [] (fun v H' => Gives 0 v H' r Ho)) : Abs.Fn Try.prog eval_table_eval_Two_find_i [] [x0, x1] r Ho := eval_table_eval_Two_find_fnH (Hin := []) h

/- runnel/eval.ones$1 -/
def eval_ones_1 (x0 : AV) (H : List Ob) (K : AV → List Ob → Prop) : Prop :=
  aBox x0 H fun v0 h1 =>
  aAlloc [(.p (.int .i64 0)), (.p (.int .i64 0)), (.p (.bool false)), (.p (.str [])), (.full [])] h1 fun v2 h3 =>
  aFieldAddr 1 v0 fun v4 =>
  aLoad false 1 v4 h3 fun v5 =>
  aUn .neg v5 fun v6 =>
  aCall Try.prog (.p (.func val_Int_i [])) [v6] h3 fun v7 h8 =>
  aStore 5 v2 v7 h8 fun _ h10 =>
  aLoad true 5 v2 h10 fun v11 =>
  K v11 h10

def eval_ones_1_ann : Nat → List Nat := fun _ => []

theorem eval_ones_1_eq (x0 : AV) (H : List Ob) (r : AV) (Ho : List Ob) : aBody Try.prog eval_ones_1_ann Try.f56 H [x0] r Ho = eval_ones_1 x0 H (fun v H' => Gives H.length v H' r Ho) := by kernel_rfl

theorem eval_ones_1_fnH {x0 : AV} {Hin : List Ob} {r : AV} {Ho : List Ob} (h : eval_ones_1 x0 Hin (fun v H' => Gives Hin.length v H' r Ho)) : Abs.Fn Try.prog eval_ones_1_i Hin [x0] r Ho :=
  fn_intro mixed eval_ones_1_ann (fn := Try.f56) (by kernel_rfl) (by kernel_rfl) (by rw [eval_ones_1_eq]; exact h)

theorem eval_ones_1_fn {x0 : AV} {r : AV} {Ho : List Ob} (h : eval_ones_1 x0 [] (fun v H' => Gives 0 v H' r Ho)) : Abs.Fn Try.prog eval_ones_1_i [] [x0] r Ho := eval_ones_1_fnH (Hin := []) h

/- runnel/eval.ones$2 -/
def eval_ones_2 (x0 : AV) (H : List Ob) (K : AV → List Ob → Prop) : Prop :=
  aBox x0 H fun v0 h1 =>
  aAlloc [(.p (.int .i64 0)), (.p (.int .i64 0)), (.p (.bool false)), (.p (.str [])), (.full [])] h1 fun v2 h3 =>
  aFieldAddr 2 v0 fun v4 =>
  aLoad false 1 v4 h3 fun v5 =>
  aUn .not v5 fun v6 =>
  aCall Try.prog (.p (.func val_Bool_i [])) [v6] h3 fun v7 h8 =>
  aStore 5 v2 v7 h8 fun _ h10 =>
  aLoad true 5 v2 h10 fun v11 =>
  K v11 h10

def eval_ones_2_ann : Nat → List Nat := fun _ => []

theorem eval_ones_2_eq (x0 : AV) (H : List Ob) (r : AV) (Ho : List Ob) : aBody Try.prog eval_ones_2_ann Try.f57 H [x0] r Ho = eval_ones_2 x0 H (fun v H' => Gives H.length v H' r Ho) := by kernel_rfl

theorem eval_ones_2_fnH {x0 : AV} {Hin : List Ob} {r : AV} {Ho : List Ob} (h : eval_ones_2 x0 Hin (fun v H' => Gives Hin.length v H' r Ho)) : Abs.Fn Try.prog eval_ones_2_i Hin [x0] r Ho :=
  fn_intro mixed eval_ones_2_ann (fn := Try.f57) (by kernel_rfl) (by kernel_rfl) (by rw [eval_ones_2_eq]; exact h)

theorem eval_ones_2_fn {x0 : AV} {r : AV} {Ho : List Ob} (h : eval_ones_2 x0 [] (fun v H' => Gives 0 v H' r Ho)) : Abs.Fn Try.prog eval_ones_2_i [] [x0] r Ho := eval_ones_2_fnH (Hin := []) h

/- runnel/eval.ones$3 -/
def eval_ones_3 (x0 : AV) (H : List Ob) (K : AV → List Ob → Prop) : Prop :=
  aBox x0 H fun v0 h1 =>
  aAlloc [(.p (.int .i64 0)), (.p (.int .i64 0)), (.p (.bool false)), (.p (.str [])), (.full [])] h1 fun v2 h3 =>
  aFieldAddr 3 v0 fun v4 =>
  aLoad false 1 v4 h3 fun v5 =>
  aLen false true v5 fun v6 =>
  aCall Try.prog (.p (.func val_Int_i [])) [v6] h3 fun v7 h8 =>
  aStore 5 v2 v7 h8 fun _ h10 =>
  aLoad true 5 v2 h10 fun v11 =>
  K v11 h10

def eval_ones_3_ann : Nat → List Nat := fun _ => []

theorem eval_ones_3_eq (x0 : AV) (H : List Ob) (r : AV) (Ho : List Ob) : aBody Try.prog eval_ones_3_ann Try.f59 H [x0] r Ho = eval_ones_3 x0 H (fun v H' => Gives H.length v H' r Ho) := by kernel_rfl

theorem eval_ones_3_fnH {x0 : AV} {Hin : List Ob} {r : AV} {Ho : List Ob} (h : eval_ones_3 x0 Hin (fun v H' => Gives Hin.length v H' r Ho)) : Abs.Fn Try.prog eval_ones_3_i Hin [x0] r Ho :=
  fn_intro mixed eval_ones_3_ann (fn := Try.f59) (by kernel_rfl) (by kernel_rfl) (by rw [eval_ones_3_eq]; exact h)

theorem eval_ones_3_fn {x0 : AV} {r : AV} {Ho : List Ob} (h : eval_ones_3 x0 [] (fun v H' => Gives 0 v H' r Ho)) : Abs.Fn Try.prog eval_ones_3_i [] [x0] r Ho := eval_ones_3_fnH (Hin := []) h

/- runnel/eval.number -/
def eval_number (x0 : AV) (H : List Ob) (K : AV → List Ob → Prop) : Prop :=
  aBox x0 H fun v0 h1 =>
  aMakeFunc eval_number_1_i [v0] h1 fun v2 h3 =>
  K v2 h3

def eval_number_ann : Nat → List Nat := fun _ => []

theorem eval_number_eq (x0 : AV) (H : List Ob) (r : AV) (Ho : List Ob) : aBody Try.prog eval_number_ann Try.f60 H [x0] r Ho = eval_number x0 H (fun v H' => Gives H.length v H' r Ho) := by kernel_rfl

theorem eval_number_fnH {x0 : AV} {Hin : List Ob} {r : AV} {Ho : List Ob} (h : eval_number x0 Hin (fun v H' => Gives Hin.length v H' r Ho)) : Abs.Fn Try.prog eval_number_i Hin [x0] r Ho :=
  fn_intro mixed eval_number_ann (fn := Try.f60) (by kernel_rfl) (by kernel_rfl) (by rw [eval_number_eq]; exact h)

theorem eval_number_fn {x0 : AV} {r : AV} {Ho : List Ob} (h : eval_number x0 [] (fun v H' => Gives 0 v H' r Ho)) : Abs.Fn Try.prog eval_number_i [] [x0] r Ho := eval_number_fnH (Hin := []) h

/- runnel/eval.twos$1 -/
def eval_twos_1 (x0 x1 : AV) (H : List Ob) (K : AV → List Ob → Prop) : Prop :=
  aBin false false .add x0 x1 fun v0 =>
  K v0 H

def eval_twos_1_ann : Nat → List Nat := fun _ => []

theorem eval_twos_1_eq (x0 x1 : AV) (H : List Ob) (r : AV) (Ho : List Ob) : aBody Try.prog eval_twos_1_ann Try.f61 H [x0, x1] r Ho = eval_twos_1 x0 x1 H (fun v H' => Gives H.length v H' r Ho) := by kernel_rfl

theorem eval_twos_1_fnH {x0 x1 : AV} {Hin : List Ob} {r : AV} {Ho : List Ob} (h : eval_twos_1 x0 x1 Hin (fun v H' => Gives Hin.length v H' r Ho)) : Abs.Fn Try.prog eval_twos_1_i Hin [x0, x1] r Ho :=
  fn_intro mixed eval_twos_1_ann (fn := Try.f61) (by kernel_rfl) (by kernel_rfl) (by rw [eval_twos_1_eq]; exact h)

theorem eval_twos_1_fn {x0 x1 : AV} {r : AV} {Ho : List Ob} (h : eval_twos_1 x0 x1 [] (fun v H' => Gives 0 v H' r Ho)) : Abs.Fn Try.prog eval_twos_1_i [] [x0, x1] r Ho := eval_twos_1_fnH (Hin := []) h

/- runnel/eval.twos$2 -/
def eval_twos_2 (x0 x1 : AV) (H : List Ob) (K : AV → List Ob → Prop) : Prop :=
  aBin false false .sub x0 x1 fun v0 =>
  K v0 H

def eval_twos_2_ann : Nat → List Nat := fun _ => []

theorem eval_twos_2_eq (x0 x1 : AV) (H : List Ob) (r : AV) (Ho : List Ob) : aBody Try.prog eval_twos_2_ann Try.f62 H [x0, x1] r Ho = eval_twos_2 x0 x1 H (fun v H' => Gives H.length v H' r Ho) := by kernel_rfl

theorem eval_twos_2_fnH {x0 x1 : AV} {Hin : List Ob} {r : AV} {Ho : List Ob} (h : eval_twos_2 x0 x1 Hin (fun v H' => Gives Hin.length v H' r Ho)) : Abs.Fn Try.prog eval_twos_2_i Hin [x0, x1] r Ho :=
  fn_intro mixed eval_twos_2_ann (fn := Try.f62) (by kernel_rfl) (by kernel_rfl) (by rw [eval_twos_2_eq]; exact h)

theorem eval_twos_2_fn {x0 x1 : AV} {r : AV} {Ho : List Ob} (h : eval_twos_2 x0 x1 [] (fun v H' => Gives 0 v H' r Ho)) : Abs.Fn Try.prog eval_twos_2_i [] [x0, x1] r Ho := eval_twos_2_fnH (Hin := []) h

/- runnel/eval.twos$3 -/
def eval_twos_3 (x0 x1 : AV) (H : List Ob) (K : AV → List Ob → Prop) : Prop :=
  aBin false false .mul x0 x1 fun v0 =>
  K v0 H

def eval_twos_3_ann : Nat → List Nat := fun _ => []

theorem eval_twos_3_eq (x0 x1 : AV) (H : List Ob) (r : AV) (Ho : List Ob) : aBody Try.prog eval_twos_3_ann Try.f63 H [x0, x1] r Ho = eval_twos_3 x0 x1 H (fun v H' => Gives H.length v H' r Ho) := by kernel_rfl

theorem eval_twos_3_fnH {x0 x1 : AV} {Hin : List Ob} {r : AV} {Ho : List Ob} (h : eval_twos_3 x0 x1 Hin (fun v H' => Gives Hin.length v H' r Ho)) : Abs.Fn Try.prog eval_twos_3_i Hin [x0, x1] r Ho :=
  fn_intro mixed eval_twos_3_ann (fn := Try.f63) (by kernel_rfl) (by kernel_rfl) (by rw [eval_twos_3_eq]; exact h)

theorem eval_twos_3_fn {x0 x1 : AV} {r : AV} {Ho : List Ob} (h : eval_twos_3 x0 x1 [] (fun v H' => Gives 0 v H' r Ho)) : Abs.Fn Try.prog eval_twos_3_i [] [x0, x1] r Ho := eval_twos_3_fnH (Hin := []) h

/- runnel/eval.divided -/
def eval_divided (x0 : AV) (H : List Ob) (K : AV → List Ob → Prop) : Prop :=
  aBox x0 H fun v0 h1 =>
  aMakeFunc eval_divided_1_i [v0] h1 fun v2 h3 =>
  K v2 h3

def eval_divided_ann : Nat → List Nat := fun _ => []

theorem eval_divided_eq (x0 : AV) (H : List Ob) (r : AV) (Ho : List Ob) : aBody Try.prog eval_divided_ann Try.f64 H [x0] r Ho = eval_divided x0 H (fun v H' => Gives H.length v H' r Ho) := by kernel_rfl

theorem eval_divided_fnH {x0 : AV} {Hin : List Ob} {r : AV} {Ho : List Ob} (h : eval_divided x0 Hin (fun v H' => Gives Hin.length v H' r Ho)) : Abs.Fn Try.prog eval_divided_i Hin [x0] r Ho :=
  fn_intro mixed eval_divided_ann (fn := Try.f64) (by kernel_rfl) (by kernel_rfl) (by rw [eval_divided_eq]; exact h)

theorem eval_divided_fn {x0 : AV} {r : AV} {Ho : List Ob} (h : eval_divided x0 [] (fun v H' => Gives 0 v H' r Ho)) : Abs.Fn Try.prog eval_divided_i [] [x0] r Ho := eval_divided_fnH (Hin := []) h

/- runnel/eval.twos$4 -/
def eval_twos_4 (x0 x1 : AV) (H : List Ob) (K : AV → List Ob → Prop) : Prop :=
  aBin false false .quo x0 x1 fun v0 =>
  K v0 H

def eval_twos_4_ann : Nat → List Nat := fun _ => []

theorem eval_twos_4_eq (x0 x1 : AV) (H : List Ob) (r : AV) (Ho : List Ob) : aBody Try.prog eval_twos_4_ann Try.f65 H [x0, x1] r Ho = eval_twos_4 x0 x1 H (fun v H' => Gives H.length v H' r Ho) := by kernel_rfl

theorem eval_twos_4_fnH {x0 x1 : AV} {Hin : List Ob} {r : AV} {Ho : List Ob} (h : eval_twos_4 x0 x1 Hin (fun v H' => Gives Hin.length v H' r Ho)) : Abs.Fn Try.prog eval_twos_4_i Hin [x0, x1] r Ho :=
  fn_intro mixed eval_twos_4_ann (fn := Try.f65) (by kernel_rfl) (by kernel_rfl) (by rw [eval_twos_4_eq]; exact h)

theorem eval_twos_4_fn {x0 x1 : AV} {r : AV} {Ho : List Ob} (h : eval_twos_4 x0 x1 [] (fun v H' => Gives 0 v H' r Ho)) : Abs.Fn Try.prog eval_twos_4_i [] [x0, x1] r Ho := eval_twos_4_fnH (Hin := []) h

/- runnel/eval.twos$5 -/
def eval_twos_5 (x0 x1 : AV) (H : List Ob) (K : AV → List Ob → Prop) : Prop :=
  aBin false false .rem x0 x1 fun v0 =>
  K v0 H

def eval_twos_5_ann : Nat → List Nat := fun _ => []

theorem eval_twos_5_eq (x0 x1 : AV) (H : List Ob) (r : AV) (Ho : List Ob) : aBody Try.prog eval_twos_5_ann Try.f66 H [x0, x1] r Ho = eval_twos_5 x0 x1 H (fun v H' => Gives H.length v H' r Ho) := by kernel_rfl

theorem eval_twos_5_fnH {x0 x1 : AV} {Hin : List Ob} {r : AV} {Ho : List Ob} (h : eval_twos_5 x0 x1 Hin (fun v H' => Gives Hin.length v H' r Ho)) : Abs.Fn Try.prog eval_twos_5_i Hin [x0, x1] r Ho :=
  fn_intro mixed eval_twos_5_ann (fn := Try.f66) (by kernel_rfl) (by kernel_rfl) (by rw [eval_twos_5_eq]; exact h)

theorem eval_twos_5_fn {x0 x1 : AV} {r : AV} {Ho : List Ob} (h : eval_twos_5 x0 x1 [] (fun v H' => Gives 0 v H' r Ho)) : Abs.Fn Try.prog eval_twos_5_i [] [x0, x1] r Ho := eval_twos_5_fnH (Hin := []) h

/- runnel/eval.twos$6 -/
def eval_twos_6 (x0 x1 : AV) (H : List Ob) (K : AV → List Ob → Prop) : Prop :=
  aBox x0 H fun v0 h1 =>
  aBox x1 h1 fun v2 h3 =>
  aAlloc [(.p (.int .i64 0)), (.p (.int .i64 0)), (.p (.bool false)), (.p (.str [])), (.full [])] h3 fun v4 h5 =>
  aLoad true 5 v0 h5 fun v6 =>
  aLoad true 5 v2 h5 fun v7 =>
  aCall Try.prog (.p (.func val_Same_i [])) [v6, v7] h5 fun v8 h9 =>
  aCall Try.prog (.p (.func val_Bool_i [])) [v8] h9 fun v10 h11 =>
  aStore 5 v4 v10 h11 fun _ h13 =>
  aLoad true 5 v4 h13 fun v14 =>
  K (.tup [v14, (.p (.int .i64 0))]) h13

def eval_twos_6_ann : Nat → List Nat := fun _ => []

theorem eval_twos_6_eq (x0 x1 : AV) (H : List Ob) (r : AV) (Ho : List Ob) : aBody Try.prog eval_twos_6_ann Try.f67 H [x0, x1] r Ho = eval_twos_6 x0 x1 H (fun v H' => Gives H.length v H' r Ho) := by kernel_rfl

theorem eval_twos_6_fnH {x0 x1 : AV} {Hin : List Ob} {r : AV} {Ho : List Ob} (h : eval_twos_6 x0 x1 Hin (fun v H' => Gives Hin.length v H' r Ho)) : Abs.Fn Try.prog eval_twos_6_i Hin [x0, x1] r Ho :=
  fn_intro mixed eval_twos_6_ann (fn := Try.f67) (by kernel_rfl) (by kernel_rfl) (by rw [eval_twos_6_eq]; exact h)

theorem eval_twos_6_fn {x0 x1 : AV} {r : AV} {Ho : List Ob} (h : eval_twos_6 x0 x1 [] (fun v H' => Gives 0 v H' r Ho)) : Abs.Fn Try.prog eval_twos_6_i [] [x0, x1] r Ho := eval_twos_6_fnH (Hin := []) h

/- runnel/eval.twos$7 -/
def eval_twos_7 (x0 x1 : AV) (H : List Ob) (K : AV → List Ob → Prop) : Prop :=
  aBox x0 H fun v0 h1 =>
  aBox x1 h1 fun v2 h3 =>
  aAlloc [(.p (.int .i64 0)), (.p (.int .i64 0)), (.p (.bool false)), (.p (.str [])), (.full [])] h3 fun v4 h5 =>
  aLoad true 5 v0 h5 fun v6 =>
  aLoad true 5 v2 h5 fun v7 =>
  aCall Try.prog (.p (.func val_Compare_i [])) [v6, v7] h5 fun v8 h9 =>
  aBin false false .lss v8 (.p (.int .i64 0)) fun v10 =>
  aCall Try.prog (.p (.func val_Bool_i [])) [v10] h9 fun v11 h12 =>
  aStore 5 v4 v11 h12 fun _ h14 =>
  aLoad true 5 v4 h14 fun v15 =>
  K (.tup [v15, (.p (.int .i64 0))]) h14

def eval_twos_7_ann : Nat → List Nat := fun _ => []

theorem eval_twos_7_eq (x0 x1 : AV) (H : List Ob) (r : AV) (Ho : List Ob) : aBody Try.prog eval_twos_7_ann Try.f69 H [x0, x1] r Ho = eval_twos_7 x0 x1 H (fun v H' => Gives H.length v H' r Ho) := by kernel_rfl

theorem eval_twos_7_fnH {x0 x1 : AV} {Hin : List Ob} {r : AV} {Ho : List Ob} (h : eval_twos_7 x0 x1 Hin (fun v H' => Gives Hin.length v H' r Ho)) : Abs.Fn Try.prog eval_twos_7_i Hin [x0, x1] r Ho :=
  fn_intro mixed eval_twos_7_ann (fn := Try.f69) (by kernel_rfl) (by kernel_rfl) (by rw [eval_twos_7_eq]; exact h)

theorem eval_twos_7_fn {x0 x1 : AV} {r : AV} {Ho : List Ob} (h : eval_twos_7 x0 x1 [] (fun v H' => Gives 0 v H' r Ho)) : Abs.Fn Try.prog eval_twos_7_i [] [x0, x1] r Ho := eval_twos_7_fnH (Hin := []) h

/- runnel/eval.cat -/
def eval_cat (x0 x1 : AV) (H : List Ob) (K : AV → List Ob → Prop) : Prop :=
  aBox x0 H fun v0 h1 =>
  aBox x1 h1 fun v2 h3 =>
  aAlloc [(.p (.int .i64 0)), (.p (.int .i64 0)), (.p (.bool false)), (.p (.str [])), (.full [])] h3 fun v4 h5 =>
  aFieldAddr 3 v0 fun v6 =>
  aLoad false 1 v6 h5 fun v7 =>
  aLen false true v7 fun v8 =>
  aFieldAddr 3 v2 fun v9 =>
  aLoad false 1 v9 h5 fun v10 =>
  aLen false true v10 fun v11 =>
  aBin false false .add v8 v11 fun v12 =>
  aBin false false .gtr v12 (.p (.int .i64 255)) fun v13 =>
  aGuard v13
  (aBuild [(.p (.int .i64 0)), (.p (.int .i64 0)), (.p (.bool false)), (.p (.str [])), (.full [])] [] fun v14 =>
  aStore 5 v4 v14 h5 fun _ h16 =>
  aLoad true 5 v4 h16 fun v17 =>
  K (.tup [v17, (.p (.int .i64 4))]) h16)
  (aFieldAddr 3 v0 fun v18 =>
  aLoad false 1 v18 h5 fun v19 =>
  aFieldAddr 3 v2 fun v20 =>
  aLoad false 1 v20 h5 fun v21 =>
  aBin false false .add v19 v21 fun v22 =>
  aCall Try.prog (.p (.func val_Str_i [])) [v22] h5 fun v23 h24 =>
  aStore 5 v4 v23 h24 fun _ h26 =>
  aLoad true 5 v4 h26 fun v27 =>
  K (.tup [v27, (.p (.int .i64 0))]) h26)

def eval_cat_ann : Nat → List Nat := fun _ => []

theorem eval_cat_eq (x0 x1 : AV) (H : List Ob) (r : AV) (Ho : List Ob) : aBody Try.prog eval_cat_ann Try.f71 H [x0, x1] r Ho = eval_cat x0 x1 H (fun v H' => Gives H.length v H' r Ho) := by kernel_rfl

theorem eval_cat_fnH {x0 x1 : AV} {Hin : List Ob} {r : AV} {Ho : List Ob} (h : eval_cat x0 x1 Hin (fun v H' => Gives Hin.length v H' r Ho)) : Abs.Fn Try.prog eval_cat_i Hin [x0, x1] r Ho :=
  fn_intro mixed eval_cat_ann (fn := Try.f71) (by kernel_rfl) (by kernel_rfl) (by rw [eval_cat_eq]; exact h)

theorem eval_cat_fn {x0 x1 : AV} {r : AV} {Ho : List Ob} (h : eval_cat x0 x1 [] (fun v H' => Gives 0 v H' r Ho)) : Abs.Fn Try.prog eval_cat_i [] [x0, x1] r Ho := eval_cat_fnH (Hin := []) h

/- runnel/eval.number$1 -/
def eval_number_1 (x0 x1 x2 : AV) (H : List Ob) (K : AV → List Ob → Prop) : Prop :=
  aBox x0 H fun v0 h1 =>
  aBox x1 h1 fun v2 h3 =>
  aAlloc [(.p (.int .i64 0)), (.p (.int .i64 0)), (.p (.bool false)), (.p (.str [])), (.full [])] h3 fun v4 h5 =>
  aLoad false 1 x2 h5 fun v6 =>
  aFieldAddr 1 v0 fun v7 =>
  aLoad false 1 v7 h5 fun v8 =>
  aFieldAddr 1 v2 fun v9 =>
  aLoad false 1 v9 h5 fun v10 =>
  aCall Try.prog v6 [v8, v10] h5 fun v11 h12 =>
  aCall Try.prog (.p (.func val_Int_i [])) [v11] h12 fun v13 h14 =>
  aStore 5 v4 v13 h14 fun _ h16 =>
  aLoad true 5 v4 h16 fun v17 =>
  K (.tup [v17, (.p (.int .i64 0))]) h16

def eval_number_1_ann : Nat → List Nat := fun _ => []

theorem eval_number_1_eq (x0 x1 x2 : AV) (H : List Ob) (r : AV) (Ho : List Ob) : aBody Try.prog eval_number_1_ann Try.f72 H [x0, x1, x2] r Ho = eval_number_1 x0 x1 x2 H (fun v H' => Gives H.length v H' r Ho) := by kernel_rfl

theorem eval_number_1_fnH {x0 x1 x2 : AV} {Hin : List Ob} {r : AV} {Ho : List Ob} (h : eval_number_1 x0 x1 x2 Hin (fun v H' => Gives Hin.length v H' r Ho)) : Abs.Fn Try.prog eval_number_1_i Hin [x0, x1, x2] r Ho :=
  fn_intro mixed eval_number_1_ann (fn := Try.f72) (by kernel_rfl) (by kernel_rfl) (by rw [eval_number_1_eq]; exact h)

theorem eval_number_1_fn {x0 x1 x2 : AV} {r : AV} {Ho : List Ob} (h : eval_number_1 x0 x1 x2 [] (fun v H' => Gives 0 v H' r Ho)) : Abs.Fn Try.prog eval_number_1_i [] [x0, x1, x2] r Ho := eval_number_1_fnH (Hin := []) h

/- runnel/eval.divided$1 -/
def eval_divided_1 (x0 x1 x2 : AV) (H : List Ob) (K : AV → List Ob → Prop) : Prop :=
  aBox x0 H fun v0 h1 =>
  aBox x1 h1 fun v2 h3 =>
  aAlloc [(.p (.int .i64 0)), (.p (.int .i64 0)), (.p (.bool false)), (.p (.str [])), (.full [])] h3 fun v4 h5 =>
  aFieldAddr 1 v2 fun v6 =>
  aLoad false 1 v6 h5 fun v7 =>
  aBin false false .eql v7 (.p (.int .i64 0)) fun v8 =>
  aGuard v8
  (aBuild [(.p (.int .i64 0)), (.p (.int .i64 0)), (.p (.bool false)), (.p (.str [])), (.full [])] [] fun v9 =>
  aStore 5 v4 v9 h5 fun _ h11 =>
  aLoad true 5 v4 h11 fun v12 =>
  K (.tup [v12, (.p (.int .i64 8))]) h11)
  (aLoad false 1 x2 h5 fun v13 =>
  aFieldAddr 1 v0 fun v14 =>
  aLoad false 1 v14 h5 fun v15 =>
  aFieldAddr 1 v2 fun v16 =>
  aLoad false 1 v16 h5 fun v17 =>
  aCall Try.prog v13 [v15, v17] h5 fun v18 h19 =>
  aCall Try.prog (.p (.func val_Int_i [])) [v18] h19 fun v20 h21 =>
  aStore 5 v4 v20 h21 fun _ h23 =>
  aLoad true 5 v4 h23 fun v24 =>
  K (.tup [v24, (.p (.int .i64 0))]) h23)

def eval_divided_1_ann : Nat → List Nat := fun _ => []

theorem eval_divided_1_eq (x0 x1 x2 : AV) (H : List Ob) (r : AV) (Ho : List Ob) : aBody Try.prog eval_divided_1_ann Try.f73 H [x0, x1, x2] r Ho = eval_divided_1 x0 x1 x2 H (fun v H' => Gives H.length v H' r Ho) := by kernel_rfl

theorem eval_divided_1_fnH {x0 x1 x2 : AV} {Hin : List Ob} {r : AV} {Ho : List Ob} (h : eval_divided_1 x0 x1 x2 Hin (fun v H' => Gives Hin.length v H' r Ho)) : Abs.Fn Try.prog eval_divided_1_i Hin [x0, x1, x2] r Ho :=
  fn_intro mixed eval_divided_1_ann (fn := Try.f73) (by kernel_rfl) (by kernel_rfl) (by rw [eval_divided_1_eq]; exact h)

theorem eval_divided_1_fn {x0 x1 x2 : AV} {r : AV} {Ho : List Ob} (h : eval_divided_1 x0 x1 x2 [] (fun v H' => Gives 0 v H' r Ho)) : Abs.Fn Try.prog eval_divided_1_i [] [x0, x1, x2] r Ho := eval_divided_1_fnH (Hin := []) h

end Go.Proofs.Ytondmcnmdooonaa
end

section
/- Made by program (Gen.lean): functions of the dump, over trees. -/
set_option maxRecDepth 4000
set_option linter.unusedVariables false
namespace Go.Proofs.Ytondmcnmdooonaa
open Go Go.Abs

/- runnel/runnelref14.Run -/
def runnelref14_Run_L1 (q1s0 q1s3 y0 y1 y2 : AV) (H : List Ob) (B1 : List AV → List Ob → Prop) (K : AV → List Ob → Prop) : Prop :=
  aLen false false q1s0 fun v2 =>
  aBin false false .lss y2 v2 fun v3 =>
  aGuard v3
  (aIndexAddr 7 q1s0 y2 fun v4 =>
  aLoad true 7 v4 H fun v5 =>
  aCall Try.prog (.p (.func runnelref14_takes_i [])) [v5] H fun v6 h7 =>
  aBuildSlice 5 [] fun v8 =>
  aLen false false y0 fun v9 =>
  aBin false false .sub v9 v6 fun v10 =>
  aSlice false 5 y0 (some v10) none none fun v11 =>
  aAppend false 5 64 v8 v11 h7 fun v12 h13 =>
  aBuildSlice 5 [] fun v14 =>
  aLen false false y0 fun v15 =>
  aBin false false .sub v15 v6 fun v16 =>
  aSlice false 5 y0 none (some v16) none fun v17 =>
  aAppend false 5 64 v14 v17 h13 fun v18 h19 =>
  aBin false false .add y2 (.p (.int .i64 1)) fun v20 =>
  aIndexAddr 7 q1s0 y2 fun v21 =>
  aFieldAddr 0 v21 fun v22 =>
  aLoad false 1 v22 h19 fun v23 =>
  aBin false false .eql v23 (.p (.str [112, 117, 115, 104])) fun v24 =>
  aGuard v24
  (aIndexAddr 7 q1s0 y2 fun v25 =>
  aFieldAddr 1 v25 fun v26 =>
  aLoad true 5 v26 h19 fun v27 =>
  aBuildSlice 5 [v27] fun v28 =>
  aAppend false 5 64 v18 v28 h19 fun v29 h30 =>
  B1 [v29, y1, v20] h30)
  (aBin false false .eql v23 (.p (.str [120])) fun v31 =>
  aGuard v31
  (aLoad true 5 q1s3 h19 fun v32 =>
  aBuildSlice 5 [v32] fun v33 =>
  aAppend false 5 64 v18 v33 h19 fun v34 h35 =>
  B1 [v34, y1, v20] h35)
  (aBin false false .eql v23 (.p (.str [106, 109, 112])) fun v36 =>
  aGuard v36
  (aIndexAddr 7 q1s0 y2 fun v37 =>
  aFieldAddr 6 v37 fun v38 =>
  aLoad false 1 v38 h19 fun v39 =>
  B1 [v18, y1, v39] h19)
  (aBin false false .eql v23 (.p (.str [106, 102])) fun v40 =>
  aGuard v40
  (aIndexAddr 5 v12 (.p (.int .i64 0)) fun v41 =>
  aFieldAddr 2 v41 fun v42 =>
  aLoad false 1 v42 h19 fun v43 =>
  aUn .not v43 fun v44 =>
  aGuard v44
  (aIndexAddr 7 q1s0 y2 fun v45 =>
  aFieldAddr 6 v45 fun v46 =>
  aLoad false 1 v46 h19 fun v47 =>
  B1 [v18, y1, v47] h19)
  (B1 [v18, y1, v20] h19))
  (aBin false false .eql v23 (.p (.str [101, 109, 105, 116])) fun v48 =>
  aGuard v48
  (aAppend false 5 64 y1 v12 h19 fun v49 h50 =>
  B1 [v18, v49, v20] h50)
  (aBin false false .eql v23 (.p (.str [114, 101, 116])) fun v51 =>
  aGuard v51
  (K (.tup [y1, (.p (.int .i64 0))]) h19)
  (aAlloc [(.p (.int .i64 0)), (.p (.int .i64 0)), (.p (.bool false)), (.p (.str [])), (.full [])] h19 fun v52 h53 =>
  aIndexAddr 7 q1s0 y2 fun v54 =>
  aFieldAddr 0 v54 fun v55 =>
  aLoad false 1 v55 h53 fun v56 =>
  aIndexAddr 7 q1s0 y2 fun v57 =>
  aFieldAddr 6 v57 fun v58 =>
  aLoad false 1 v58 h53 fun v59 =>
  aCallT Try.prog (.p (.func runnelref6_Make_i [])) [v56, v59, v12] fun v60 =>
  aExtract v60 0 fun v61 =>
  aExtract v60 1 fun v62 =>
  aStore 5 v52 v61 h53 fun _ h64 =>
  aBin false false .neq v62 (.p (.int .i64 0)) fun v65 =>
  aGuard v65
  (K (.tup [(.full []), v62]) h64)
  (aLoad true 5 v52 h64 fun v66 =>
  aBuildSlice 5 [v66] fun v67 =>
  aAppend false 5 64 v18 v67 h64 fun v68 h69 =>
  B1 [v68, y1, v20] h69))))))))
  (K (.tup [y1, (.p (.int .i64 0))]) H)

def runnelref14_Run (x0 x1 : AV) (H : List Ob) (K : AV → List Ob → Prop) : Prop :=
  aBox x1 H fun v0 h1 =>
  aLoopN 3 [(.full []), (.full []), (.p (.int .i64 0))] h1 fun xs H B1 => runnelref14_Run_L1 x0 v0 (xs.getD 0 .top) (xs.getD 1 .top) (xs.getD 2 .top) H B1 K

def runnelref14_Run_ann : Nat → List Nat := fun k => match k with | 4 => [6, 7, 8] | _ => []

theorem runnelref14_Run_eq (x0 x1 : AV) (H : List Ob) (r : AV) (Ho : List Ob) : aBody Try.prog runnelref14_Run_ann Try.f12 H [x0, x1] r Ho = runnelref14_Run x0 x1 H (fun v H' => Gives H.length v H' r Ho) := by kernel_rfl

theorem runnelref14_Run_fnH {x0 x1 : AV} {Hin : List Ob} {r : AV} {Ho : List Ob} (h : runnelref14_Run x0 x1 Hin (fun v H' => Gives Hin.length v H' r Ho)) : Abs.Fn Try.prog runnelref14_Run_i Hin [x0, x1] r Ho :=
  fn_intro mixed runnelref14_Run_ann (fn := Try.f12) (by kernel_rfl) (by kernel_rfl) (by rw [runnelref14_Run_eq]; exact h)

theorem runnelref14_Run_fn {x0 x1 : AV} {r : AV} {Ho : List Ob} (h : runnelref14_Run x0 x1 [] (fun v H' => Gives 0 v H' r Ho)) : Abs.Fn Try.prog runnelref14_Run_i [] [x0, x1] r Ho := runnelref14_Run_fnH (Hin := []) h

/- runnel/runnelref14.Check -/
def runnelref14_Check_L1 (q1s0 y0 : AV) (H : List Ob) (B1 : List AV → List Ob → Prop) (K : AV → List Ob → Prop) : Prop :=
  aLen false false q1s0 fun v4 =>
  aBin false false .lss y0 v4 fun v5 =>
  aGuard v5
  (aCall Try.prog (.p (.func runnelref14_inst_i [])) [q1s0, y0] H fun v6 h7 =>
  aBin false false .neq v6 (.p (.int .i64 0)) fun v8 =>
  aGuard v8
  (K (.tup [y0, v6]) h7)
  (aBin false false .add y0 (.p (.int .i64 1)) fun v9 =>
  B1 [v9] h7))
  (K (.tup [(.p (.int .i64 0)), (.p (.int .i64 0))]) H)

def runnelref14_Check (x0 : AV) (H : List Ob) (K : AV → List Ob → Prop) : Prop :=
  aLen false false x0 fun v0 =>
  aBin false false .eql v0 (.p (.int .i64 0)) fun v1 =>
  aGuard v1
  (K (.tup [(.p (.int .i64 0)), (.p (.int .i64 3))]) H)
  (aLen false false x0 fun v2 =>
  aBin false false .gtr v2 (.p (.int .i64 4096)) fun v3 =>
  aGuard v3
  (K (.tup [(.p (.int .i64 0)), (.p (.int .i64 10))]) H)
  (aLoopN 1 [(.p (.int .i64 0))] H fun xs H B1 => runnelref14_Check_L1 x0 (xs.getD 0 .top) H B1 K))

def runnelref14_Check_ann : Nat → List Nat := fun k => match k with | 6 => [4] | _ => []

theorem runnelref14_Check_eq (x0 : AV) (H : List Ob) (r : AV) (Ho : List Ob) : aBody Try.prog runnelref14_Check_ann Try.f18 H [x0] r Ho = runnelref14_Check x0 H (fun v H' => Gives H.length v H' r Ho) := by kernel_rfl

theorem runnelref14_Check_fnH {x0 : AV} {Hin : List Ob} {r : AV} {Ho : List Ob} (h : runnelref14_Check x0 Hin (fun v H' => Gives Hin.length v H' r Ho)) : Abs.Fn Try.prog runnelref14_Check_i Hin [x0] r Ho :=
  fn_intro mixed runnelref14_Check_ann (fn := Try.f18) (by kernel_rfl) (by kernel_rfl) (by rw [runnelref14_Check_eq]; exact h)

theorem runnelref14_Check_fn {x0 : AV} {r : AV} {Ho : List Ob} (h : runnelref14_Check x0 [] (fun v H' => Gives 0 v H' r Ho)) : Abs.Fn Try.prog runnelref14_Check_i [] [x0] r Ho := runnelref14_Check_fnH (Hin := []) h

/- (*runnel/runnelref14.Look).step -/
def runnelref14_Look_step_J1 (j1s0 j1s1 j1s2 j1s9 j1s10 : AV) (H : List Ob) (K : AV → List Ob → Prop) : Prop :=
  aLen false false j1s10 fun v42 =>
  aBin false false .gtr v42 (.p (.int .i64 128)) fun v43 =>
  aMerge false v43 (fun Q44 =>
  aFieldAddr 0 j1s9 fun v45 =>
  aLoad false 1 v45 H fun v46 =>
  aBin false false .eql v46 (.p (.str [114, 101, 116])) fun v47 =>
  aMerge true v47 (fun Q48 =>
  aLenS false j1s10 fun v49 =>
  aBin false false .gtr v49 (.p (.int .i64 0)) fun v50 =>
  (H = H ∧ Q48 v50)) fun v51 =>
  (H = H ∧ Q44 v51)) fun v52 =>
  aGuard v52
  (K (.p (.int .i64 12)) H)
  (aFieldAddr 0 j1s9 fun v53 =>
  aLoad false 1 v53 H fun v54 =>
  aBin false false .eql v54 (.p (.str [114, 101, 116])) fun v55 =>
  aGuard v55
  (K (.p (.int .i64 0)) H)
  (aFieldAddr 0 j1s9 fun v56 =>
  aLoad false 1 v56 H fun v57 =>
  aBin false false .neq v57 (.p (.str [106, 109, 112])) fun v58 =>
  aMerge true v58 (fun Q59 =>
  aLenS false j1s1 fun v60 =>
  aBin false false .sub v60 (.p (.int .i64 1)) fun v61 =>
  aBin false false .eql j1s2 v61 fun v62 =>
  (H = H ∧ Q59 v62)) fun v63 =>
  aGuard v63
  (K (.p (.int .i64 12)) H)
  (aFieldAddr 0 j1s9 fun v64 =>
  aLoad false 1 v64 H fun v65 =>
  aBin false false .eql v65 (.p (.str [106, 109, 112])) fun v66 =>
  aMerge false v66 (fun Q67 =>
  aFieldAddr 0 j1s9 fun v68 =>
  aLoad false 1 v68 H fun v69 =>
  aBin false false .eql v69 (.p (.str [106, 102])) fun v70 =>
  (H = H ∧ Q67 v70)) fun v71 =>
  aGuard v71
  (aFieldAddr 6 j1s9 fun v72 =>
  aLoad false 1 v72 H fun v73 =>
  aCall Try.prog (.p (.func runnelref14_Look_lead_i [])) [j1s0, v73, j1s10] H fun v74 h75 =>
  aBin false false .neq v74 (.p (.int .i64 0)) fun v76 =>
  aGuard v76
  (K v74 h75)
  (aFieldAddr 0 j1s9 fun v77 =>
  aLoad false 1 v77 h75 fun v78 =>
  aBin false false .neq v78 (.p (.str [106, 109, 112])) fun v79 =>
  aGuard v79
  (aBin false false .add j1s2 (.p (.int .i64 1)) fun v80 =>
  aCall Try.prog (.p (.func runnelref14_Look_lead_i [])) [j1s0, v80, j1s10] h75 fun v81 h82 =>
  K v81 h82)
  (K (.p (.int .i64 0)) h75)))
  (aFieldAddr 0 j1s9 fun v83 =>
  aLoad false 1 v83 H fun v84 =>
  aBin false false .neq v84 (.p (.str [106, 109, 112])) fun v85 =>
  aGuard v85
  (aBin false false .add j1s2 (.p (.int .i64 1)) fun v86 =>
  aCall Try.prog (.p (.func runnelref14_Look_lead_i [])) [j1s0, v86, j1s10] H fun v87 h88 =>
  K v87 h88)
  (K (.p (.int .i64 0)) H)))))

def runnelref14_Look_step (x0 x1 x2 x3 : AV) (H : List Ob) (K : AV → List Ob → Prop) : Prop :=
  aBox x3 H fun v0 h1 =>
  aIndexAddr 7 x1 x2 fun v2 =>
  aLoad true 7 v2 h1 fun v3 =>
  aAlloc [(.p (.str [])), (.p (.int .i64 0)), (.p (.int .i64 0)), (.p (.bool false)), (.p (.str [])), (.full []), (.p (.int .i64 0))] h1 fun v4 h5 =>
  aStore 7 v4 v3 h5 fun _ h7 =>
  aNilCheck x0 fun v8 =>
  aFieldAddr 0 v8 fun v9 =>
  aLoad false 1 v9 h7 fun v10 =>
  aIndexAddr 1 v10 x2 fun v11 =>
  aLoad false 1 v11 h7 fun v12 =>
  aLoad true 7 v4 h7 fun v13 =>
  aCall Try.prog (.p (.func runnelref14_takes_i [])) [v13] h7 fun v14 h15 =>
  aLen false false v12 fun v16 =>
  aBin false false .lss v16 v14 fun v17 =>
  aGuard v17
  (K (.p (.int .i64 12)) h15)
  (aBuildSlice 2 [] fun v18 =>
  aLen false false v12 fun v19 =>
  aBin false false .sub v19 v14 fun v20 =>
  aSlice false 2 v12 (some v20) none none fun v21 =>
  aAppend false 2 32 v18 v21 h15 fun v22 h23 =>
  aBuildSlice 2 [] fun v24 =>
  aLen false false v12 fun v25 =>
  aBin false false .sub v25 v14 fun v26 =>
  aSlice false 2 v12 none (some v26) none fun v27 =>
  aAppend false 2 32 v24 v27 h23 fun v28 h29 =>
  aLoad true 7 v4 h29 fun v30 =>
  aLoad true 2 v0 h29 fun v31 =>
  aCall Try.prog (.p (.func runnelref14_Look_made_i [])) [x0, v30, v31, v22] h29 fun v32 h33 =>
  aExtract v32 0 fun v34 =>
  aExtract v32 1 fun v35 =>
  aExtract v32 2 fun v36 =>
  aAlloc [(.p (.int .i64 0)), (.full [])] h33 fun v37 h38 =>
  aStore 2 v37 v34 h38 fun _ h40 =>
  aBin false false .neq v36 (.p (.int .i64 0)) fun v41 =>
  aGuard v41
  (K v36 h40)
  (aGuard v35
  (aLoad true 2 v37 h40 fun v89 =>
  aBuildSlice 2 [v89] fun v90 =>
  aAppend false 2 32 v28 v90 h40 fun v91 h92 =>
  runnelref14_Look_step_J1 x0 x1 x2 v4 v91 h92 K)
  (runnelref14_Look_step_J1 x0 x1 x2 v4 v28 h40 K)))

def runnelref14_Look_step_ann : Nat → List Nat := fun _ => []

theorem runnelref14_Look_step_eq (x0 x1 x2 x3 : AV) (H : List Ob) (r : AV) (Ho : List Ob) : aBody Try.prog runnelref14_Look_step_ann Try.f20 H [x0, x1, x2, x3] r Ho = runnelref14_Look_step x0 x1 x2 x3 H (fun v H' => Gives H.length v H' r Ho) := by kernel_rfl

theorem runnelref14_Look_step_fnH {x0 x1 x2 x3 : AV} {Hin : List Ob} {r : AV} {Ho : List Ob} (h : runnelref14_Look_step x0 x1 x2 x3 Hin (fun v H' => Gives Hin.length v H' r Ho)) : Abs.Fn Try.prog runnelref14_Look_step_i Hin [x0, x1, x2, x3] r Ho :=
  fn_intro mixed runnelref14_Look_step_ann (fn := Try.f20) (by kernel_rfl) (by kernel_rfl) (by rw [runnelref14_Look_step_eq]; exact h)

theorem runnelref14_Look_step_fn {x0 x1 x2 x3 : AV} {r : AV} {Ho : List Ob} (h : runnelref14_Look_step x0 x1 x2 x3 [] (fun v H' => Gives 0 v H' r Ho)) : Abs.Fn Try.prog runnelref14_Look_step_i [] [x0, x1, x2, x3] r Ho := runnelref14_Look_step_fnH (Hin := []) h

/- runnel/runnelref14.takes -/
def runnelref14_takes (x0 : AV) (H : List Ob) (K : AV → List Ob → Prop) : Prop :=
  aBox x0 H fun v0 h1 =>
  aFieldAddr 0 v0 fun v2 =>
  aLoad false 1 v2 h1 fun v3 =>
  aBin false false .eql v3 (.p (.str [112, 117, 115, 104])) fun v4 =>
  aMerge false v4 (fun Q5 =>
  aBin false false .eql v3 (.p (.str [120])) fun v6 =>
  aMerge false v6 (fun Q7 =>
  aBin false false .eql v3 (.p (.str [106, 109, 112])) fun v8 =>
  aMerge false v8 (fun Q9 =>
  aBin false false .eql v3 (.p (.str [114, 101, 116])) fun v10 =>
  (h1 = h1 ∧ Q9 v10)) fun v11 =>
  (h1 = h1 ∧ Q7 v11)) fun v12 =>
  (h1 = h1 ∧ Q5 v12)) fun v13 =>
  aGuard v13
  (K (.p (.int .i64 0)) h1)
  (aBin false false .eql v3 (.p (.str [116, 117, 112])) fun v14 =>
  aMerge false v14 (fun Q15 =>
  aBin false false .eql v3 (.p (.str [101, 109, 105, 116])) fun v16 =>
  (h1 = h1 ∧ Q15 v16)) fun v17 =>
  aGuard v17
  (aFieldAddr 6 v0 fun v18 =>
  aLoad false 1 v18 h1 fun v19 =>
  K v19 h1)
  (aBin false false .eql v3 (.p (.str [97, 116])) fun v20 =>
  aMerge false v20 (fun Q21 =>
  aBin false false .eql v3 (.p (.str [110, 101, 103])) fun v22 =>
  aMerge false v22 (fun Q23 =>
  aBin false false .eql v3 (.p (.str [110, 111, 116])) fun v24 =>
  aMerge false v24 (fun Q25 =>
  aBin false false .eql v3 (.p (.str [108, 101, 110])) fun v26 =>
  aMerge false v26 (fun Q27 =>
  aBin false false .eql v3 (.p (.str [106, 102])) fun v28 =>
  (h1 = h1 ∧ Q27 v28)) fun v29 =>
  (h1 = h1 ∧ Q25 v29)) fun v30 =>
  (h1 = h1 ∧ Q23 v30)) fun v31 =>
  (h1 = h1 ∧ Q21 v31)) fun v32 =>
  aGuard v32
  (K (.p (.int .i64 1)) h1)
  (K (.p (.int .i64 2)) h1)))

def runnelref14_takes_ann : Nat → List Nat := fun k => match k with | 1000005 => [1] | 1000004 => [1] | 1000003 => [1] | 1000008 => [1] | 1000014 => [1] | 1000013 => [1] | 1000012 => [1] | 1000011 => [1] | _ => []

theorem runnelref14_takes_eq (x0 : AV) (H : List Ob) (r : AV) (Ho : List Ob) : aBody Try.prog runnelref14_takes_ann Try.f23 H [x0] r Ho = runnelref14_takes x0 H (fun v H' => Gives H.length v H' r Ho) := by kernel_rfl

theorem runnelref14_takes_fnH {x0 : AV} {Hin : List Ob} {r : AV} {Ho : List Ob} (h : runnelref14_takes x0 Hin (fun v H' => Gives Hin.length v H' r Ho)) : Abs.Fn Try.prog runnelref14_takes_i Hin [x0] r Ho :=
  fn_intro mixed runnelref14_takes_ann (fn := Try.f23) (by kernel_rfl) (by kernel_rfl) (by rw [runnelref14_takes_eq]; exact h)

theorem runnelref14_takes_fn {x0 : AV} {r : AV} {Ho : List Ob} (h : runnelref14_takes x0 [] (fun v H' => Gives 0 v H' r Ho)) : Abs.Fn Try.prog runnelref14_takes_i [] [x0] r Ho := runnelref14_takes_fnH (Hin := []) h

/- runnel/runnelref14.inst -/
def runnelref14_inst (x0 x1 : AV) (H : List Ob) (K : AV → List Ob → Prop) : Prop :=
  aIndexAddr 7 x0 x1 fun v0 =>
  aLoad true 7 v0 H fun v1 =>
  aAlloc [(.p (.str [])), (.p (.int .i64 0)), (.p (.int .i64 0)), (.p (.bool false)), (.p (.str [])), (.full []), (.p (.int .i64 0))] H fun v2 h3 =>
  aStore 7 v2 v1 h3 fun _ h5 =>
  aFieldAddr 0 v2 fun v6 =>
  aLoad false 1 v6 h5 fun v7 =>
  aCall Try.prog (.p (.func runnelref14_number_i [])) [v7] h5 fun v8 h9 =>
  aBin false false .eql v8 (.p (.int .i64 0)) fun v10 =>
  aGuard v10
  (K (.p (.int .i64 6)) h9)
  (aFieldAddr 0 v2 fun v11 =>
  aLoad false 1 v11 h9 fun v12 =>
  aCall Try.prog (.p (.func runnelref14_counted_i [])) [v12] h9 fun v13 h14 =>
  aUn .not v13 fun v15 =>
  aMerge true v15 (fun Q16 =>
  aFieldAddr 6 v2 fun v17 =>
  aLoad false 1 v17 h14 fun v18 =>
  aBin false false .neq v18 (.p (.int .i64 0)) fun v19 =>
  (h14 = h14 ∧ Q16 v19)) fun v20 =>
  aMerge false v20 (fun Q21 =>
  aFieldAddr 0 v2 fun v22 =>
  aLoad false 1 v22 h14 fun v23 =>
  aBin false false .neq v23 (.p (.str [112, 117, 115, 104])) fun v24 =>
  aMerge true v24 (fun Q25 =>
  aFieldAddr 1 v2 fun v26 =>
  aLoad true 5 v26 h14 fun v27 =>
  aCall Try.prog (.p (.func runnelref14_nought_i [])) [v27] h14 fun v28 h29 =>
  aUn .not v28 fun v30 =>
  (h29 = h14 ∧ Q25 v30)) fun v31 =>
  (h14 = h14 ∧ Q21 v31)) fun v32 =>
  aGuard v32
  (K (.p (.int .i64 1)) h14)
  (aFieldAddr 0 v2 fun v33 =>
  aLoad false 1 v33 h14 fun v34 =>
  aBin false false .eql v34 (.p (.str [112, 117, 115, 104])) fun v35 =>
  aGuard v35
  (aFieldAddr 1 v2 fun v36 =>
  aLoad true 5 v36 h14 fun v37 =>
  aCall Try.prog (.p (.func runnelref6_CheckValue_i [])) [v37] h14 fun v38 h39 =>
  K v38 h39)
  (aBin false false .eql v34 (.p (.str [97, 116])) fun v40 =>
  aGuard v40
  (aFieldAddr 6 v2 fun v41 =>
  aLoad false 1 v41 h14 fun v42 =>
  aBin false false .lss v42 (.p (.int .i64 0)) fun v43 =>
  aGuard v43
  (K (.p (.int .i64 1)) h14)
  (K (.p (.int .i64 0)) h14))
  (aBin false false .eql v34 (.p (.str [116, 117, 112])) fun v44 =>
  aGuard v44
  (aFieldAddr 6 v2 fun v45 =>
  aLoad false 1 v45 h14 fun v46 =>
  aBin false false .lss v46 (.p (.int .i64 1)) fun v47 =>
  aMerge false v47 (fun Q48 =>
  aFieldAddr 6 v2 fun v49 =>
  aLoad false 1 v49 h14 fun v50 =>
  aBin false false .gtr v50 (.p (.int .i64 8)) fun v51 =>
  (h14 = h14 ∧ Q48 v51)) fun v52 =>
  aGuard v52
  (K (.p (.int .i64 1)) h14)
  (K (.p (.int .i64 0)) h14))
  (aBin false false .eql v34 (.p (.str [101, 109, 105, 116])) fun v53 =>
  aGuard v53
  (aFieldAddr 6 v2 fun v54 =>
  aLoad false 1 v54 h14 fun v55 =>
  aBin false false .lss v55 (.p (.int .i64 0)) fun v56 =>
  aMerge false v56 (fun Q57 =>
  aFieldAddr 6 v2 fun v58 =>
  aLoad false 1 v58 h14 fun v59 =>
  aBin false false .gtr v59 (.p (.int .i64 4)) fun v60 =>
  (h14 = h14 ∧ Q57 v60)) fun v61 =>
  aGuard v61
  (K (.p (.int .i64 1)) h14)
  (K (.p (.int .i64 0)) h14))
  (aBin false false .eql v34 (.p (.str [106, 109, 112])) fun v62 =>
  aMerge false v62 (fun Q63 =>
  aBin false false .eql v34 (.p (.str [106, 102])) fun v64 =>
  (h14 = h14 ∧ Q63 v64)) fun v65 =>
  aGuard v65
  (aFieldAddr 6 v2 fun v66 =>
  aLoad false 1 v66 h14 fun v67 =>
  aBin false false .leq v67 x1 fun v68 =>
  aMerge false v68 (fun Q69 =>
  aFieldAddr 6 v2 fun v70 =>
  aLoad false 1 v70 h14 fun v71 =>
  aLenS false x0 fun v72 =>
  aBin false false .geq v71 v72 fun v73 =>
  (h14 = h14 ∧ Q69 v73)) fun v74 =>
  aGuard v74
  (K (.p (.int .i64 1)) h14)
  (K (.p (.int .i64 0)) h14))
  (K (.p (.int .i64 0)) h14)))))))

def runnelref14_inst_ann : Nat → List Nat := fun k => match k with | 1000019 => [1] | _ => []

theorem runnelref14_inst_eq (x0 x1 : AV) (H : List Ob) (r : AV) (Ho : List Ob) : aBody Try.prog runnelref14_inst_ann Try.f29 H [x0, x1] r Ho = runnelref14_inst x0 x1 H (fun v H' => Gives H.length v H' r Ho) := by kernel_rfl

theorem runnelref14_inst_fnH {x0 x1 : AV} {Hin : List Ob} {r : AV} {Ho : List Ob} (h : runnelref14_inst x0 x1 Hin (fun v H' => Gives Hin.length v H' r Ho)) : Abs.Fn Try.prog runnelref14_inst_i Hin [x0, x1] r Ho :=
  fn_intro mixed runnelref14_inst_ann (fn := Try.f29) (by kernel_rfl) (by kernel_rfl) (by rw [runnelref14_inst_eq]; exact h)

theorem runnelref14_inst_fn {x0 x1 : AV} {r : AV} {Ho : List Ob} (h : runnelref14_inst x0 x1 [] (fun v H' => Gives 0 v H' r Ho)) : Abs.Fn Try.prog runnelref14_inst_i [] [x0, x1] r Ho := runnelref14_inst_fnH (Hin := []) h

/- (*runnel/runnelref14.Look).made -/
def runnelref14_Look_made_L1 (q1s0 q1s3 q1s8 y0 : AV) (H : List Ob) (B1 : List AV → List Ob → Prop) (K : AV → List Ob → Prop) : Prop :=
  aLen false false q1s3 fun v35 =>
  aBin false false .lss y0 v35 fun v36 =>
  aGuard v36
  (aNilCheck q1s0 fun v37 =>
  aFieldAddr 2 v37 fun v38 =>
  aFieldAddr 0 v38 fun v39 =>
  aLoad false 1 v39 H fun v40 =>
  aBin false false .neq v40 (.p (.int .i64 0)) fun v41 =>
  aGuard v41
  (aNilCheck q1s0 fun v42 =>
  aFieldAddr 2 v42 fun v43 =>
  aLoad true 2 v43 H fun v44 =>
  aIndexAddr 2 q1s3 y0 fun v45 =>
  aLoad true 2 v45 H fun v46 =>
  aCallT Try.prog (.p (.func runnelref6_SameType_i [])) [v44, v46] fun v47 =>
  aUn .not v47 fun v48 =>
  aGuard v48
  (aBuild [(.p (.int .i64 0)), (.full [])] [] fun v49 =>
  aStore 2 q1s8 v49 H fun _ h51 =>
  aLoad true 2 q1s8 h51 fun v52 =>
  K (.tup [v52, (.p (.bool false)), (.p (.int .i64 5))]) h51)
  (aIndexAddr 2 q1s3 y0 fun v53 =>
  aLoad true 2 v53 H fun v54 =>
  aNilCheck q1s0 fun v55 =>
  aFieldAddr 2 v55 fun v56 =>
  aStore 2 v56 v54 H fun _ h58 =>
  aBin false false .add y0 (.p (.int .i64 1)) fun v59 =>
  B1 [v59] h58))
  (aIndexAddr 2 q1s3 y0 fun v60 =>
  aLoad true 2 v60 H fun v61 =>
  aNilCheck q1s0 fun v62 =>
  aFieldAddr 2 v62 fun v63 =>
  aStore 2 v63 v61 H fun _ h65 =>
  aBin false false .add y0 (.p (.int .i64 1)) fun v66 =>
  B1 [v66] h65))
  (aBuild [(.p (.int .i64 0)), (.full [])] [] fun v67 =>
  aStore 2 q1s8 v67 H fun _ h69 =>
  aLoad true 2 q1s8 h69 fun v70 =>
  K (.tup [v70, (.p (.bool false)), (.p (.int .i64 0))]) h69)

def runnelref14_Look_made (x0 x1 x2 x3 : AV) (H : List Ob) (K : AV → List Ob → Prop) : Prop :=
  aBox x1 H fun v0 h1 =>
  aBox x2 h1 fun v2 h3 =>
  aAlloc [(.p (.int .i64 0)), (.full [])] h3 fun v4 h5 =>
  aFieldAddr 0 v0 fun v6 =>
  aLoad false 1 v6 h5 fun v7 =>
  aBin false false .eql v7 (.p (.str [112, 117, 115, 104])) fun v8 =>
  aGuard v8
  (aFieldAddr 1 v0 fun v9 =>
  aLoad true 5 v9 h5 fun v10 =>
  aCall Try.prog (.p (.func runnelref6_TypeOf_i [])) [v10] h5 fun v11 h12 =>
  aStore 2 v4 v11 h12 fun _ h14 =>
  aLoad true 2 v4 h14 fun v15 =>
  K (.tup [v15, (.p (.bool true)), (.p (.int .i64 0))]) h14)
  (aBin false false .eql v7 (.p (.str [120])) fun v16 =>
  aGuard v16
  (aLoad true 2 v2 h5 fun v17 =>
  aStore 2 v4 v17 h5 fun _ h19 =>
  aLoad true 2 v4 h19 fun v20 =>
  K (.tup [v20, (.p (.bool true)), (.p (.int .i64 0))]) h19)
  (aBin false false .eql v7 (.p (.str [106, 102])) fun v21 =>
  aGuard v21
  (aIndexAddr 2 x3 (.p (.int .i64 0)) fun v22 =>
  aFieldAddr 0 v22 fun v23 =>
  aLoad false 1 v23 h5 fun v24 =>
  aBin false false .neq v24 (.p (.int .i64 2)) fun v25 =>
  aGuard v25
  (aBuild [(.p (.int .i64 0)), (.full [])] [] fun v26 =>
  aStore 2 v4 v26 h5 fun _ h28 =>
  aLoad true 2 v4 h28 fun v29 =>
  K (.tup [v29, (.p (.bool false)), (.p (.int .i64 5))]) h28)
  (aBuild [(.p (.int .i64 0)), (.full [])] [] fun v30 =>
  aStore 2 v4 v30 h5 fun _ h32 =>
  aLoad true 2 v4 h32 fun v33 =>
  K (.tup [v33, (.p (.bool false)), (.p (.int .i64 0))]) h32))
  (aBin false false .eql v7 (.p (.str [101, 109, 105, 116])) fun v34 =>
  aGuard v34
  (aLoopN 1 [(.p (.int .i64 0))] h5 fun xs H B1 => runnelref14_Look_made_L1 x0 x3 v4 (xs.getD 0 .top) H B1 K)
  (aBin false false .eql v7 (.p (.str [106, 109, 112])) fun v71 =>
  aMerge false v71 (fun Q72 =>
  aBin false false .eql v7 (.p (.str [114, 101, 116])) fun v73 =>
  (h5 = h5 ∧ Q72 v73)) fun v74 =>
  aGuard v74
  (aBuild [(.p (.int .i64 0)), (.full [])] [] fun v75 =>
  aStore 2 v4 v75 h5 fun _ h77 =>
  aLoad true 2 v4 h77 fun v78 =>
  K (.tup [v78, (.p (.bool false)), (.p (.int .i64 0))]) h77)
  (aFieldAddr 0 v0 fun v79 =>
  aLoad false 1 v79 h5 fun v80 =>
  aFieldAddr 6 v0 fun v81 =>
  aLoad false 1 v81 h5 fun v82 =>
  aCall Try.prog (.p (.func runnelref6_OpType_i [])) [v80, v82, x3] h5 fun v83 h84 =>
  aExtract v83 0 fun v85 =>
  aExtract v83 1 fun v86 =>
  aAlloc [(.p (.int .i64 0)), (.full [])] h84 fun v87 h88 =>
  aStore 2 v87 v85 h88 fun _ h90 =>
  aLoad true 2 v87 h90 fun v91 =>
  aStore 2 v4 v91 h90 fun _ h93 =>
  aLoad true 2 v4 h93 fun v94 =>
  K (.tup [v94, (.p (.bool true)), v86]) h93)))))

def runnelref14_Look_made_ann : Nat → List Nat := fun k => match k with | 12 => [11] | 1000019 => [1] | _ => []

theorem runnelref14_Look_made_eq (x0 x1 x2 x3 : AV) (H : List Ob) (r : AV) (Ho : List Ob) : aBody Try.prog runnelref14_Look_made_ann Try.f31 H [x0, x1, x2, x3] r Ho = runnelref14_Look_made x0 x1 x2 x3 H (fun v H' => Gives H.length v H' r Ho) := by kernel_rfl

theorem runnelref14_Look_made_fnH {x0 x1 x2 x3 : AV} {Hin : List Ob} {r : AV} {Ho : List Ob} (h : runnelref14_Look_made x0 x1 x2 x3 Hin (fun v H' => Gives Hin.length v H' r Ho)) : Abs.Fn Try.prog runnelref14_Look_made_i Hin [x0, x1, x2, x3] r Ho :=
  fn_intro mixed runnelref14_Look_made_ann (fn := Try.f31) (by kernel_rfl) (by kernel_rfl) (by rw [runnelref14_Look_made_eq]; exact h)

theorem runnelref14_Look_made_fn {x0 x1 x2 x3 : AV} {r : AV} {Ho : List Ob} (h : runnelref14_Look_made x0 x1 x2 x3 [] (fun v H' => Gives 0 v H' r Ho)) : Abs.Fn Try.prog runnelref14_Look_made_i [] [x0, x1, x2, x3] r Ho := runnelref14_Look_made_fnH (Hin := []) h

/- (*runnel/runnelref14.Look).lead -/
def runnelref14_Look_lead (x0 x1 x2 : AV) (H : List Ob) (K : AV → List Ob → Prop) : Prop :=
  aNilCheck x0 fun v0 =>
  aFieldAddr 1 v0 fun v1 =>
  aLoad false 1 v1 H fun v2 =>
  aIndexAddr 1 v2 x1 fun v3 =>
  aLoad false 1 v3 H fun v4 =>
  aUn .not v4 fun v5 =>
  aGuard v5
  (aNilCheck x0 fun v6 =>
  aFieldAddr 1 v6 fun v7 =>
  aLoad false 1 v7 H fun v8 =>
  aIndexAddr 1 v8 x1 fun v9 =>
  aStore 1 v9 (.p (.bool true)) H fun _ h11 =>
  aNilCheck x0 fun v12 =>
  aFieldAddr 0 v12 fun v13 =>
  aLoad false 1 v13 h11 fun v14 =>
  aBuildSlice 2 [] fun v15 =>
  aCalm [v15, x2] <|
  aAppend false 2 32 v15 x2 h11 fun v16 h17 =>
  aIndexAddr 1 v14 x1 fun v18 =>
  aStore 1 v18 v16 h17 fun _ h20 =>
  K (.p (.int .i64 0)) h20)
  (aNilCheck x0 fun v21 =>
  aFieldAddr 0 v21 fun v22 =>
  aLoad false 1 v22 H fun v23 =>
  aIndexAddr 1 v23 x1 fun v24 =>
  aLoad false 1 v24 H fun v25 =>
  aCall Try.prog (.p (.func runnelref14_sameStack_i [])) [v25, x2] H fun v26 h27 =>
  aUn .not v26 fun v28 =>
  aGuard v28
  (K (.p (.int .i64 14)) h27)
  (K (.p (.int .i64 0)) h27))

def runnelref14_Look_lead_ann : Nat → List Nat := fun _ => []

theorem runnelref14_Look_lead_eq (x0 x1 x2 : AV) (H : List Ob) (r : AV) (Ho : List Ob) : aBody Try.prog runnelref14_Look_lead_ann Try.f32 H [x0, x1, x2] r Ho = runnelref14_Look_lead x0 x1 x2 H (fun v H' => Gives H.length v H' r Ho) := by kernel_rfl

theorem runnelref14_Look_lead_fnH {x0 x1 x2 : AV} {Hin : List Ob} {r : AV} {Ho : List Ob} (h : runnelref14_Look_lead x0 x1 x2 Hin (fun v H' => Gives Hin.length v H' r Ho)) : Abs.Fn Try.prog runnelref14_Look_lead_i Hin [x0, x1, x2] r Ho :=
  fn_intro mixed runnelref14_Look_lead_ann (fn := Try.f32) (by kernel_rfl) (by kernel_rfl) (by rw [runnelref14_Look_lead_eq]; exact h)

theorem runnelref14_Look_lead_fn {x0 x1 x2 : AV} {r : AV} {Ho : List Ob} (h : runnelref14_Look_lead x0 x1 x2 [] (fun v H' => Gives 0 v H' r Ho)) : Abs.Fn Try.prog runnelref14_Look_lead_i [] [x0, x1, x2] r Ho := runnelref14_Look_lead_fnH (Hin := []) h

/- runnel/runnelref14.number -/
def runnelref14_number_L1 (q1s0 q1s3 y0 : AV) (H : List Ob) (B1 : List AV → List Ob → Prop) (K : AV → List Ob → Prop) : Prop :=
  aLen false false q1s3 fun v2 =>
  aBin false false .lss y0 v2 fun v3 =>
  aGuard v3
  (aIndexAddr 1 q1s3 y0 fun v4 =>
  aLoad false 1 v4 H fun v5 =>
  aBin false false .eql v5 q1s0 fun v6 =>
  aGuard v6
  (aBin false false .add y0 (.p (.int .i64 1)) fun v7 =>
  K v7 H)
  (aBin false false .add y0 (.p (.int .i64 1)) fun v8 =>
  B1 [v8] H))
  (K (.p (.int .i64 0)) H)

def runnelref14_number (x0 : AV) (H : List Ob) (K : AV → List Ob → Prop) : Prop :=
  aCall Try.prog (.p (.func runnelref14_Ops_i [])) [] H fun v0 h1 =>
  aLoopN 1 [(.p (.int .i64 0))] h1 fun xs H B1 => runnelref14_number_L1 x0 v0 (xs.getD 0 .top) H B1 K

def runnelref14_number_ann : Nat → List Nat := fun k => match k with | 3 => [4] | _ => []

theorem runnelref14_number_eq (x0 : AV) (H : List Ob) (r : AV) (Ho : List Ob) : aBody Try.prog runnelref14_number_ann Try.f41 H [x0] r Ho = runnelref14_number x0 H (fun v H' => Gives H.length v H' r Ho) := by kernel_rfl

theorem runnelref14_number_fnH {x0 : AV} {Hin : List Ob} {r : AV} {Ho : List Ob} (h : runnelref14_number x0 Hin (fun v H' => Gives Hin.length v H' r Ho)) : Abs.Fn Try.prog runnelref14_number_i Hin [x0] r Ho :=
  fn_intro mixed runnelref14_number_ann (fn := Try.f41) (by kernel_rfl) (by kernel_rfl) (by rw [runnelref14_number_eq]; exact h)

theorem runnelref14_number_fn {x0 : AV} {r : AV} {Ho : List Ob} (h : runnelref14_number x0 [] (fun v H' => Gives 0 v H' r Ho)) : Abs.Fn Try.prog runnelref14_number_i [] [x0] r Ho := runnelref14_number_fnH (Hin := []) h

/- runnel/runnelref14.counted -/
def runnelref14_counted (x0 : AV) (H : List Ob) (K : AV → List Ob → Prop) : Prop :=
  aBin false false .eql x0 (.p (.str [97, 116])) fun v0 =>
  aMerge false v0 (fun Q1 =>
  aBin false false .eql x0 (.p (.str [116, 117, 112])) fun v2 =>
  (H = H ∧ Q1 v2)) fun v3 =>
  aMerge false v3 (fun Q4 =>
  aBin false false .eql x0 (.p (.str [106, 109, 112])) fun v5 =>
  (H = H ∧ Q4 v5)) fun v6 =>
  aMerge false v6 (fun Q7 =>
  aBin false false .eql x0 (.p (.str [106, 102])) fun v8 =>
  (H = H ∧ Q7 v8)) fun v9 =>
  aMerge false v9 (fun Q10 =>
  aBin false false .eql x0 (.p (.str [101, 109, 105, 116])) fun v11 =>
  (H = H ∧ Q10 v11)) fun v12 =>
  K v12 H

def runnelref14_counted_ann : Nat → List Nat := fun _ => []

theorem runnelref14_counted_eq (x0 : AV) (H : List Ob) (r : AV) (Ho : List Ob) : aBody Try.prog runnelref14_counted_ann Try.f42 H [x0] r Ho = runnelref14_counted x0 H (fun v H' => Gives H.length v H' r Ho) := by kernel_rfl

theorem runnelref14_counted_fnH {x0 : AV} {Hin : List Ob} {r : AV} {Ho : List Ob} (h : runnelref14_counted x0 Hin (fun v H' => Gives Hin.length v H' r Ho)) : Abs.Fn Try.prog runnelref14_counted_i Hin [x0] r Ho :=
  fn_intro mixed runnelref14_counted_ann (fn := Try.f42) (by kernel_rfl) (by kernel_rfl) (by rw [runnelref14_counted_eq]; exact h)

theorem runnelref14_counted_fn {x0 : AV} {r : AV} {Ho : List Ob} (h : runnelref14_counted x0 [] (fun v H' => Gives 0 v H' r Ho)) : Abs.Fn Try.prog runnelref14_counted_i [] [x0] r Ho := runnelref14_counted_fnH (Hin := []) h

/- runnel/runnelref14.nought -/
def runnelref14_nought (x0 : AV) (H : List Ob) (K : AV → List Ob → Prop) : Prop :=
  aBox x0 H fun v0 h1 =>
  aFieldAddr 0 v0 fun v2 =>
  aLoad false 1 v2 h1 fun v3 =>
  aBin false false .eql v3 (.p (.int .i64 0)) fun v4 =>
  aMerge true v4 (fun Q5 =>
  aFieldAddr 1 v0 fun v6 =>
  aLoad false 1 v6 h1 fun v7 =>
  aBin false false .eql v7 (.p (.int .i64 0)) fun v8 =>
  (h1 = h1 ∧ Q5 v8)) fun v9 =>
  aMerge true v9 (fun Q10 =>
  aFieldAddr 2 v0 fun v11 =>
  aLoad false 1 v11 h1 fun v12 =>
  aUn .not v12 fun v13 =>
  (h1 = h1 ∧ Q10 v13)) fun v14 =>
  aMerge true v14 (fun Q15 =>
  aFieldAddr 3 v0 fun v16 =>
  aLoad false 1 v16 h1 fun v17 =>
  aBin false false .eql v17 (.p (.str [])) fun v18 =>
  (h1 = h1 ∧ Q15 v18)) fun v19 =>
  aMerge true v19 (fun Q20 =>
  aFieldAddr 4 v0 fun v21 =>
  aLoad false 1 v21 h1 fun v22 =>
  aLenS false v22 fun v23 =>
  aBin false false .eql v23 (.p (.int .i64 0)) fun v24 =>
  (h1 = h1 ∧ Q20 v24)) fun v25 =>
  K v25 h1

def runnelref14_nought_ann : Nat → List Nat := fun _ => []

theorem runnelref14_nought_eq (x0 : AV) (H : List Ob) (r : AV) (Ho : List Ob) : aBody Try.prog runnelref14_nought_ann Try.f43 H [x0] r Ho = runnelref14_nought x0 H (fun v H' => Gives H.length v H' r Ho) := by kernel_rfl

theorem runnelref14_nought_fnH {x0 : AV} {Hin : List Ob} {r : AV} {Ho : List Ob} (h : runnelref14_nought x0 Hin (fun v H' => Gives Hin.length v H' r Ho)) : Abs.Fn Try.prog runnelref14_nought_i Hin [x0] r Ho :=
  fn_intro mixed runnelref14_nought_ann (fn := Try.f43) (by kernel_rfl) (by kernel_rfl) (by rw [runnelref14_nought_eq]; exact h)

theorem runnelref14_nought_fn {x0 : AV} {r : AV} {Ho : List Ob} (h : runnelref14_nought x0 [] (fun v H' => Gives 0 v H' r Ho)) : Abs.Fn Try.prog runnelref14_nought_i [] [x0] r Ho := runnelref14_nought_fnH (Hin := []) h

/- runnel/runnelref14.sameStack -/
def runnelref14_sameStack_L1 (q1s0 q1s1 y0 : AV) (H : List Ob) (B1 : List AV → List Ob → Prop) (K : AV → List Ob → Prop) : Prop :=
  aLen false false q1s0 fun v3 =>
  aBin false false .lss y0 v3 fun v4 =>
  aGuard v4
  (aIndexAddr 2 q1s0 y0 fun v5 =>
  aLoad true 2 v5 H fun v6 =>
  aIndexAddr 2 q1s1 y0 fun v7 =>
  aLoad true 2 v7 H fun v8 =>
  aCallT Try.prog (.p (.func runnelref6_SameType_i [])) [v6, v8] fun v9 =>
  aUn .not v9 fun v10 =>
  aGuard v10
  (K (.p (.bool false)) H)
  (aBin false false .add y0 (.p (.int .i64 1)) fun v11 =>
  B1 [v11] H))
  (K (.p (.bool true)) H)

def runnelref14_sameStack (x0 x1 : AV) (H : List Ob) (K : AV → List Ob → Prop) : Prop :=
  aLen false false x0 fun v0 =>
  aLen false false x1 fun v1 =>
  aBin false false .neq v0 v1 fun v2 =>
  aGuard v2
  (K (.p (.bool false)) H)
  (aLoopN 1 [(.p (.int .i64 0))] H fun xs H B1 => runnelref14_sameStack_L1 x0 x1 (xs.getD 0 .top) H B1 K)

def runnelref14_sameStack_ann : Nat → List Nat := fun k => match k with | 4 => [5] | _ => []

theorem runnelref14_sameStack_eq (x0 x1 : AV) (H : List Ob) (r : AV) (Ho : List Ob) : aBody Try.prog runnelref14_sameStack_ann Try.f46 H [x0, x1] r Ho = runnelref14_sameStack x0 x1 H (fun v H' => Gives H.length v H' r Ho) := by kernel_rfl

theorem runnelref14_sameStack_fnH {x0 x1 : AV} {Hin : List Ob} {r : AV} {Ho : List Ob} (h : runnelref14_sameStack x0 x1 Hin (fun v H' => Gives Hin.length v H' r Ho)) : Abs.Fn Try.prog runnelref14_sameStack_i Hin [x0, x1] r Ho :=
  fn_intro mixed runnelref14_sameStack_ann (fn := Try.f46) (by kernel_rfl) (by kernel_rfl) (by rw [runnelref14_sameStack_eq]; exact h)

theorem runnelref14_sameStack_fn {x0 x1 : AV} {r : AV} {Ho : List Ob} (h : runnelref14_sameStack x0 x1 [] (fun v H' => Gives 0 v H' r Ho)) : Abs.Fn Try.prog runnelref14_sameStack_i [] [x0, x1] r Ho := runnelref14_sameStack_fnH (Hin := []) h

/- runnel/runnelref14.Ops -/
def runnelref14_Ops (H : List Ob) (K : AV → List Ob → Prop) : Prop :=
  aBuildSlice 1 [(.p (.str [112, 117, 115, 104])), (.p (.str [120])), (.p (.str [97, 116])), (.p (.str [116, 117, 112])), (.p (.str [110, 101, 103])), (.p (.str [110, 111, 116])), (.p (.str [108, 101, 110])), (.p (.str [97, 100, 100])), (.p (.str [115, 117, 98])), (.p (.str [109, 117, 108])), (.p (.str [100, 105, 118])), (.p (.str [114, 101, 109])), (.p (.str [101, 113])), (.p (.str [108, 116])), (.p (.str [99, 97, 116])), (.p (.str [106, 109, 112])), (.p (.str [106, 102])), (.p (.str [101, 109, 105, 116])), (.p (.str [114, 101, 116]))] fun v0 =>
  K v0 H

def runnelref14_Ops_ann : Nat → List Nat := fun _ => []

theorem runnelref14_Ops_eq (H : List Ob) (r : AV) (Ho : List Ob) : aBody Try.prog runnelref14_Ops_ann Try.f54 H [] r Ho = runnelref14_Ops H (fun v H' => Gives H.length v H' r Ho) := by kernel_rfl

theorem runnelref14_Ops_fnH {Hin : List Ob} {r : AV} {Ho : List Ob} (h : runnelref14_Ops Hin (fun v H' => Gives Hin.length v H' r Ho)) : Abs.Fn Try.prog runnelref14_Ops_i Hin [] r Ho :=
  fn_intro mixed runnelref14_Ops_ann (fn := Try.f54) (by kernel_rfl) (by kernel_rfl) (by rw [runnelref14_Ops_eq]; exact h)

theorem runnelref14_Ops_fn {r : AV} {Ho : List Ob} (h : runnelref14_Ops [] (fun v H' => Gives 0 v H' r Ho)) : Abs.Fn Try.prog runnelref14_Ops_i [] [] r Ho := runnelref14_Ops_fnH (Hin := []) h

end Go.Proofs.Ytondmcnmdooonaa
end

section
/- Made by program (Gen.lean): functions of the dump, over trees. -/
set_option maxRecDepth 4000
set_option linter.unusedVariables false
namespace Go.Proofs.Ytondmcnmdooonaa
open Go Go.Abs

/- runnel/runnelref14.Verify -/
def runnelref14_Verify_L1 (q1s0 q1s3 q1s4 q1s9 y0 : AV) (H : List Ob) (B1 : List AV → List Ob → Prop) (K : AV → List Ob → Prop) : Prop :=
  aLen false false q1s0 fun v36 =>
  aBin false false .lss y0 v36 fun v37 =>
  aGuard v37
  (aNilCheck q1s9 fun v38 =>
  aFieldAddr 1 v38 fun v39 =>
  aLoad false 1 v39 H fun v40 =>
  aIndexAddr 1 v40 y0 fun v41 =>
  aLoad false 1 v41 H fun v42 =>
  aUn .not v42 fun v43 =>
  aGuard v43
  (aBin false false .add y0 (.p (.int .i64 1)) fun v44 =>
  B1 [v44] H)
  (aLoad true 2 q1s3 H fun v45 =>
  aCall Try.prog (.p (.func runnelref14_Look_step_i [])) [q1s9, q1s0, y0, v45] H fun v46 h47 =>
  aBin false false .neq v46 (.p (.int .i64 0)) fun v48 =>
  aGuard v48
  (aBuild [(.p (.int .i64 0)), (.full [])] [] fun v49 =>
  aStore 2 q1s4 v49 h47 fun _ h51 =>
  aLoad true 2 q1s4 h51 fun v52 =>
  K (.tup [v52, y0, v46]) h51)
  (aBin false false .add y0 (.p (.int .i64 1)) fun v53 =>
  B1 [v53] h47)))
  (aNilCheck q1s9 fun v54 =>
  aFieldAddr 2 v54 fun v55 =>
  aLoad true 2 v55 H fun v56 =>
  aStore 2 q1s4 v56 H fun _ h58 =>
  aLoad true 2 q1s4 h58 fun v59 =>
  K (.tup [v59, (.p (.int .i64 0)), (.p (.int .i64 0))]) h58)

def runnelref14_Verify_L2 (q2s0 q2s3 q2s4 q2s9 y0 : AV) (H : List Ob) (B2 : List AV → List Ob → Prop) (K : AV → List Ob → Prop) : Prop :=
  aLen false false q2s0 fun v73 =>
  aBin false false .lss y0 v73 fun v74 =>
  aGuard v74
  (aNilCheck q2s9 fun v75 =>
  aFieldAddr 1 v75 fun v76 =>
  aLoad false 1 v76 H fun v77 =>
  aIndexAddr 1 v77 y0 fun v78 =>
  aLoad false 1 v78 H fun v79 =>
  aUn .not v79 fun v80 =>
  aGuard v80
  (aBin false false .add y0 (.p (.int .i64 1)) fun v81 =>
  B2 [v81] H)
  (aLoad true 2 q2s3 H fun v82 =>
  aCall Try.prog (.p (.func runnelref14_Look_step_i [])) [q2s9, q2s0, y0, v82] H fun v83 h84 =>
  aBin false false .neq v83 (.p (.int .i64 0)) fun v85 =>
  aGuard v85
  (aBuild [(.p (.int .i64 0)), (.full [])] [] fun v86 =>
  aStore 2 q2s4 v86 h84 fun _ h88 =>
  aLoad true 2 q2s4 h88 fun v89 =>
  K (.tup [v89, y0, v83]) h88)
  (aBin false false .add y0 (.p (.int .i64 1)) fun v90 =>
  B2 [v90] h84)))
  (aNilCheck q2s9 fun v91 =>
  aFieldAddr 2 v91 fun v92 =>
  aLoad true 2 v92 H fun v93 =>
  aStore 2 q2s4 v93 H fun _ h95 =>
  aLoad true 2 q2s4 h95 fun v96 =>
  K (.tup [v96, (.p (.int .i64 0)), (.p (.int .i64 0))]) h95)

def runnelref14_Verify (x0 x1 : AV) (H : List Ob) (K : AV → List Ob → Prop) : Prop :=
  aBox x1 H fun v0 h1 =>
  aAlloc [(.p (.int .i64 0)), (.full [])] h1 fun v2 h3 =>
  aCall Try.prog (.p (.func runnelref14_Check_i [])) [x0] h3 fun v4 h5 =>
  aExtract v4 0 fun v6 =>
  aExtract v4 1 fun v7 =>
  aBin false false .neq v7 (.p (.int .i64 0)) fun v8 =>
  aGuard v8
  (aBuild [(.p (.int .i64 0)), (.full [])] [] fun v9 =>
  aStore 2 v2 v9 h5 fun _ h11 =>
  aLoad true 2 v2 h11 fun v12 =>
  K (.tup [v12, v6, v7]) h11)
  (aLoad true 2 v0 h5 fun v13 =>
  aCall Try.prog (.p (.func runnelref6_CheckType_i [])) [v13] h5 fun v14 h15 =>
  aBin false false .neq v14 (.p (.int .i64 0)) fun v16 =>
  aGuard v16
  (aBuild [(.p (.int .i64 0)), (.full [])] [] fun v17 =>
  aStore 2 v2 v17 h15 fun _ h19 =>
  aLoad true 2 v2 h19 fun v20 =>
  K (.tup [v20, (.p (.int .i64 0)), (.p (.int .i64 5))]) h19)
  (aLen true false x0 fun v21 =>
  aLen true false x0 fun v22 =>
  (aMake 1 [(.full [])] v21 v21 h15 fun v23 h24 =>
  aMake 1 [(.p (.bool false))] v22 v22 h24 fun v25 h26 =>
  aBuild [(.full []), (.full []), (.p (.int .i64 0)), (.full [])] [(0, 1, v23), (1, 1, v25)] fun v27 =>
  aBox v27 h26 fun v28 h29 =>
  aNilCheck v28 fun v30 =>
  aFieldAddr 1 v30 fun v31 =>
  aLoad false 1 v31 h29 fun v32 =>
  aIndexAddr 1 v32 (.p (.int .i64 0)) fun v33 =>
  aStore 1 v33 (.p (.bool true)) h29 fun _ h35 =>
  aLoopN 1 [(.p (.int .i64 0))] h35 fun xs H B1 => runnelref14_Verify_L1 x0 v0 v2 v28 (xs.getD 0 .top) H B1 K) ∧
  (aMake 1 [(.p (.bool false))] v22 v22 h15 fun v60 h61 =>
  aMake 1 [(.full [])] v21 v21 h61 fun v62 h63 =>
  aBuild [(.full []), (.full []), (.p (.int .i64 0)), (.full [])] [(0, 1, v62), (1, 1, v60)] fun v64 =>
  aBox v64 h63 fun v65 h66 =>
  aNilCheck v65 fun v67 =>
  aFieldAddr 1 v67 fun v68 =>
  aLoad false 1 v68 h66 fun v69 =>
  aIndexAddr 1 v69 (.p (.int .i64 0)) fun v70 =>
  aStore 1 v70 (.p (.bool true)) h66 fun _ h72 =>
  aLoopN 1 [(.p (.int .i64 0))] h72 fun xs H B2 => runnelref14_Verify_L2 x0 v0 v2 v65 (xs.getD 0 .top) H B2 K)))

def runnelref14_Verify_ann : Nat → List Nat := fun k => match k with | 9 => [10] | 3000006 => [1000] | _ => []

theorem runnelref14_Verify_eq (x0 x1 : AV) (H : List Ob) (r : AV) (Ho : List Ob) : aBody Try.prog runnelref14_Verify_ann Try.f8 H [x0, x1] r Ho = runnelref14_Verify x0 x1 H (fun v H' => Gives H.length v H' r Ho) := by kernel_rfl

theorem runnelref14_Verify_fnH {x0 x1 : AV} {Hin : List Ob} {r : AV} {Ho : List Ob} (h : runnelref14_Verify x0 x1 Hin (fun v H' => Gives Hin.length v H' r Ho)) : Abs.Fn Try.prog runnelref14_Verify_i Hin [x0, x1] r Ho :=
  fn_intro mixed runnelref14_Verify_ann (fn := Try.f8) (by kernel_rfl) (by kernel_rfl) (by rw [runnelref14_Verify_eq]; exact h)

theorem runnelref14_Verify_fn {x0 x1 : AV} {r : AV} {Ho : List Ob} (h : runnelref14_Verify x0 x1 [] (fun v H' => Gives 0 v H' r Ho)) : Abs.Fn Try.prog runnelref14_Verify_i [] [x0, x1] r Ho := runnelref14_Verify_fnH (Hin := []) h

end Go.Proofs.Ytondmcnmdooonaa
end

section
/- Made by program (Gen.lean): functions of the dump, over trees. -/
set_option maxRecDepth 4000
set_option linter.unusedVariables false
namespace Go.Proofs.Ytondmcnmdooonaa
open Go Go.Abs

/- runnel/runnellaw11.Few -/
def runnellaw11_Few_L1 (q1s0 y0 : AV) (H : List Ob) (B1 : List AV → List Ob → Prop) (K : AV → List Ob → Prop) : Prop :=
  aLen false false q1s0 fun v2 =>
  aBin false false .lss y0 v2 fun v3 =>
  aGuard v3
  (aIndexAddr 7 q1s0 y0 fun v4 =>
  aFieldAddr 0 v4 fun v5 =>
  aLoad false 1 v5 H fun v6 =>
  aLen false true v6 fun v7 =>
  aBin false false .gtr v7 (.p (.int .i64 20)) fun v8 =>
  aMerge false v8 (fun Q9 =>
  aIndexAddr 7 q1s0 y0 fun v10 =>
  aFieldAddr 1 v10 fun v11 =>
  aLoad true 5 v11 H fun v12 =>
  aCall Try.prog (.p (.func runnellaw2_Few_i [])) [v12] H fun v13 h14 =>
  aUn .not v13 fun v15 =>
  (h14 = H ∧ Q9 v15)) fun v16 =>
  aGuard v16
  (K (.p (.bool false)) H)
  (aBin false false .add y0 (.p (.int .i64 1)) fun v17 =>
  B1 [v17] H))
  (K (.p (.bool true)) H)

def runnellaw11_Few (x0 : AV) (H : List Ob) (K : AV → List Ob → Prop) : Prop :=
  aLen false false x0 fun v0 =>
  aBin false false .gtr v0 (.p (.int .i64 300)) fun v1 =>
  aGuard v1
  (K (.p (.bool false)) H)
  (aLoopN 1 [(.p (.int .i64 0))] H fun xs H B1 => runnellaw11_Few_L1 x0 (xs.getD 0 .top) H B1 K)

def runnellaw11_Few_ann : Nat → List Nat := fun k => match k with | 4 => [3] | _ => []

theorem runnellaw11_Few_eq (x0 : AV) (H : List Ob) (r : AV) (Ho : List Ob) : aBody Try.prog runnellaw11_Few_ann Try.f5 H [x0] r Ho = runnellaw11_Few x0 H (fun v H' => Gives H.length v H' r Ho) := by kernel_rfl

theorem runnellaw11_Few_fnH {x0 : AV} {Hin : List Ob} {r : AV} {Ho : List Ob} (h : runnellaw11_Few x0 Hin (fun v H' => Gives Hin.length v H' r Ho)) : Abs.Fn Try.prog runnellaw11_Few_i Hin [x0] r Ho :=
  fn_intro mixed runnellaw11_Few_ann (fn := Try.f5) (by kernel_rfl) (by kernel_rfl) (by rw [runnellaw11_Few_eq]; exact h)

theorem runnellaw11_Few_fn {x0 : AV} {r : AV} {Ho : List Ob} (h : runnellaw11_Few x0 [] (fun v H' => Gives 0 v H' r Ho)) : Abs.Fn Try.prog runnellaw11_Few_i [] [x0] r Ho := runnellaw11_Few_fnH (Hin := []) h

/- runnel/runnellaw11.Of -/
def runnellaw11_Of_L1 (q1s0 y0 y1 : AV) (H : List Ob) (B1 : List AV → List Ob → Prop) (K : AV → List Ob → Prop) : Prop :=
  aLen false false q1s0 fun v0 =>
  aBin false false .lss y1 v0 fun v1 =>
  aGuard v1
  (aIndexAddr 7 q1s0 y1 fun v2 =>
  aFieldAddr 0 v2 fun v3 =>
  aLoad false 1 v3 H fun v4 =>
  aIndexAddr 7 q1s0 y1 fun v5 =>
  aFieldAddr 1 v5 fun v6 =>
  aLoad true 5 v6 H fun v7 =>
  aCallT Try.prog (.p (.func runnellaw2_Of_i [])) [v7] fun v8 =>
  aIndexAddr 7 q1s0 y1 fun v9 =>
  aFieldAddr 6 v9 fun v10 =>
  aLoad false 1 v10 H fun v11 =>
  aBuild [(.p (.str [])), (.p (.int .i64 0)), (.p (.int .i64 0)), (.p (.bool false)), (.p (.str [])), (.full []), (.p (.int .i64 0))] [(0, 1, v4), (1, 5, v8), (6, 1, v11)] fun v12 =>
  aBuildSlice 7 [v12] fun v13 =>
  aCalm [y0, v13] <|
  aAppend false 7 88 y0 v13 H fun v14 h15 =>
  aBin false false .add y1 (.p (.int .i64 1)) fun v16 =>
  B1 [v14, v16] h15)
  (K y0 H)

def runnellaw11_Of (x0 : AV) (H : List Ob) (K : AV → List Ob → Prop) : Prop :=
  aLoopN 2 [(.full []), (.p (.int .i64 0))] H fun xs H B1 => runnellaw11_Of_L1 x0 (xs.getD 0 .top) (xs.getD 1 .top) H B1 K

def runnellaw11_Of_ann : Nat → List Nat := fun k => match k with | 3 => [3, 4] | _ => []

theorem runnellaw11_Of_eq (x0 : AV) (H : List Ob) (r : AV) (Ho : List Ob) : aBody Try.prog runnellaw11_Of_ann Try.f7 H [x0] r Ho = runnellaw11_Of x0 H (fun v H' => Gives H.length v H' r Ho) := by kernel_rfl

theorem runnellaw11_Of_fnH {x0 : AV} {Hin : List Ob} {r : AV} {Ho : List Ob} (h : runnellaw11_Of x0 Hin (fun v H' => Gives Hin.length v H' r Ho)) : Abs.Fn Try.prog runnellaw11_Of_i Hin [x0] r Ho :=
  fn_intro mixed runnellaw11_Of_ann (fn := Try.f7) (by kernel_rfl) (by kernel_rfl) (by rw [runnellaw11_Of_eq]; exact h)

theorem runnellaw11_Of_fn {x0 : AV} {r : AV} {Ho : List Ob} (h : runnellaw11_Of x0 [] (fun v H' => Gives 0 v H' r Ho)) : Abs.Fn Try.prog runnellaw11_Of_i [] [x0] r Ho := runnellaw11_Of_fnH (Hin := []) h

end Go.Proofs.Ytondmcnmdooonaa
end

section
/- Made by program (Gen.lean): functions of the dump, over trees. -/
set_option maxRecDepth 4000
set_option linter.unusedVariables false
namespace Go.Proofs.Ytondmcnmdooonaa
open Go Go.Abs

/- runnel/vm.Run -/
def vm_Run_J1 (j1s6 j1s7 j1s8 j1s37 : AV) (H : List Ob) (B1 : List AV → List Ob → Prop) (K : AV → List Ob → Prop) : Prop :=
  aGuard j1s37
  (aFieldAddr 6 j1s8 fun v20 =>
  aLoad false 1 v20 H fun v21 =>
  aBin false false .sub v21 (.p (.int .i64 1)) fun v22 =>
  aBin false false .add v22 (.p (.int .i64 1)) fun v23 =>
  B1 [v23] H)
  (aFieldAddr 0 j1s8 fun v24 =>
  aLoad false 1 v24 H fun v25 =>
  aBin false false .eql v25 (.p (.str [106, 102])) fun v26 =>
  aGuard v26
  (aBin false false .add j1s7 (.p (.int .i64 1)) fun v27 =>
  B1 [v27] H)
  (aLoad true 7 j1s8 H fun v28 =>
  aCall Try.prog (.p (.func vm_machine_does_i [])) [j1s6, v28] H fun v29 h30 =>
  aBin false false .neq v29 (.p (.int .i64 0)) fun v31 =>
  aGuard v31
  (K (.tup [(.full []), v29]) h30)
  (aBin false false .add j1s7 (.p (.int .i64 1)) fun v32 =>
  B1 [v32] h30)))

def vm_Run_L1 (q1s0 q1s6 y0 : AV) (H : List Ob) (B1 : List AV → List Ob → Prop) (K : AV → List Ob → Prop) : Prop :=
  aLen false false q1s0 fun v6 =>
  aBin false false .lss y0 v6 fun v7 =>
  aGuard v7
  (aIndexAddr 7 q1s0 y0 fun v8 =>
  aLoad true 7 v8 H fun v9 =>
  aAlloc [(.p (.str [])), (.p (.int .i64 0)), (.p (.int .i64 0)), (.p (.bool false)), (.p (.str [])), (.full []), (.p (.int .i64 0))] H fun v10 h11 =>
  aStore 7 v10 v9 h11 fun _ h13 =>
  aFieldAddr 0 v10 fun v14 =>
  aLoad false 1 v14 h13 fun v15 =>
  aBin false false .eql v15 (.p (.str [114, 101, 116])) fun v16 =>
  aGuard v16
  (aNilCheck q1s6 fun v17 =>
  aFieldAddr 6 v17 fun v18 =>
  aLoad false 1 v18 h13 fun v19 =>
  K (.tup [v19, (.p (.int .i64 0))]) h13)
  (aFieldAddr 0 v10 fun v33 =>
  aLoad false 1 v33 h13 fun v34 =>
  aBin false false .eql v34 (.p (.str [106, 109, 112])) fun v35 =>
  aGuard v35
  (vm_Run_J1 q1s6 y0 v10 (.p (.bool true)) h13 B1 K)
  (aFieldAddr 0 v10 fun v36 =>
  aLoad false 1 v36 h13 fun v37 =>
  aBin false false .eql v37 (.p (.str [106, 102])) fun v38 =>
  aGuard v38
  (aNilCheck q1s6 fun v39 =>
  aFieldAddr 5 v39 fun v40 =>
  aCall Try.prog (.p (.func vm_stack_val_Value_pop_i [])) [v40, (.p (.int .i64 1))] h13 fun v41 h42 =>
  aIndexAddr 5 v41 (.p (.int .i64 0)) fun v43 =>
  aFieldAddr 2 v43 fun v44 =>
  aLoad false 1 v44 h42 fun v45 =>
  aUn .not v45 fun v46 =>
  vm_Run_J1 q1s6 y0 v10 v46 h42 B1 K)
  (vm_Run_J1 q1s6 y0 v10 (.p (.bool false)) h13 B1 K))))
  (aNilCheck q1s6 fun v47 =>
  aFieldAddr 6 v47 fun v48 =>
  aLoad false 1 v48 H fun v49 =>
  K (.tup [v49, (.p (.int .i64 0))]) H)

def vm_Run (x0 x1 : AV) (H : List Ob) (K : AV → List Ob → Prop) : Prop :=
  aBox x1 H fun v0 h1 =>
  aLoad true 5 v0 h1 fun v2 =>
  aBuild [(.p (.int .i64 0)), (.p (.int .i64 0)), (.p (.bool false)), (.p (.str [])), (.full []), (.full []), (.full [])] [(0, 5, v2)] fun v3 =>
  aBox v3 h1 fun v4 h5 =>
  aLoopN 1 [(.p (.int .i64 0))] h5 fun xs H B1 => vm_Run_L1 x0 v4 (xs.getD 0 .top) H B1 K

def vm_Run_ann : Nat → List Nat := fun k => match k with | 3 => [7] | 3000012 => [1000] | _ => []

theorem vm_Run_eq (x0 x1 : AV) (H : List Ob) (r : AV) (Ho : List Ob) : aBody Try.prog vm_Run_ann Try.f11 H [x0, x1] r Ho = vm_Run x0 x1 H (fun v H' => Gives H.length v H' r Ho) := by kernel_rfl

theorem vm_Run_fnH {x0 x1 : AV} {Hin : List Ob} {r : AV} {Ho : List Ob} (h : vm_Run x0 x1 Hin (fun v H' => Gives Hin.length v H' r Ho)) : Abs.Fn Try.prog vm_Run_i Hin [x0, x1] r Ho :=
  fn_intro mixed vm_Run_ann (fn := Try.f11) (by kernel_rfl) (by kernel_rfl) (by rw [vm_Run_eq]; exact h)

theorem vm_Run_fn {x0 x1 : AV} {r : AV} {Ho : List Ob} (h : vm_Run x0 x1 [] (fun v H' => Gives 0 v H' r Ho)) : Abs.Fn Try.prog vm_Run_i [] [x0, x1] r Ho := vm_Run_fnH (Hin := []) h

/- (*runnel/vm.stack[runnel/val.Value]).pop -/
def vm_stack_val_Value_pop (x0 x1 : AV) (H : List Ob) (K : AV → List Ob → Prop) : Prop :=
  aNilCheck x0 fun v0 =>
  aLoad false 1 v0 H fun v1 =>
  aLen false false v1 fun v2 =>
  aBin false false .sub v2 x1 fun v3 =>
  aNilCheck x0 fun v4 =>
  aLoad false 1 v4 H fun v5 =>
  aSlice false 5 v5 (some v3) none none fun v6 =>
  aCall Try.prog (.p (.func slices_Clone_vm_stack_val_Value_val_Value_i [])) [v6] H fun v7 h8 =>
  aNilCheck x0 fun v9 =>
  aLoad false 1 v9 h8 fun v10 =>
  aSlice false 5 v10 none (some v3) none fun v11 =>
  aNilCheck x0 fun v12 =>
  aStore 1 v12 v11 h8 fun _ h14 =>
  K v7 h14

def vm_stack_val_Value_pop_ann : Nat → List Nat := fun _ => []

theorem vm_stack_val_Value_pop_eq (x0 x1 : AV) (H : List Ob) (r : AV) (Ho : List Ob) : aBody Try.prog vm_stack_val_Value_pop_ann Try.f21 H [x0, x1] r Ho = vm_stack_val_Value_pop x0 x1 H (fun v H' => Gives H.length v H' r Ho) := by kernel_rfl

theorem vm_stack_val_Value_pop_fnH {x0 x1 : AV} {Hin : List Ob} {r : AV} {Ho : List Ob} (h : vm_stack_val_Value_pop x0 x1 Hin (fun v H' => Gives Hin.length v H' r Ho)) : Abs.Fn Try.prog vm_stack_val_Value_pop_i Hin [x0, x1] r Ho :=
  fn_intro mixed vm_stack_val_Value_pop_ann (fn := Try.f21) (by kernel_rfl) (by kernel_rfl) (by rw [vm_stack_val_Value_pop_eq]; exact h)

theorem vm_stack_val_Value_pop_fn {x0 x1 : AV} {r : AV} {Ho : List Ob} (h : vm_stack_val_Value_pop x0 x1 [] (fun v H' => Gives 0 v H' r Ho)) : Abs.Fn Try.prog vm_stack_val_Value_pop_i [] [x0, x1] r Ho := vm_stack_val_Value_pop_fnH (Hin := []) h

/- (*runnel/vm.machine).does -/
def vm_machine_does (x0 x1 : AV) (H : List Ob) (K : AV → List Ob → Prop) : Prop :=
  aBox x1 H fun v0 h1 =>
  aFieldAddr 0 v0 fun v2 =>
  aLoad false 1 v2 h1 fun v3 =>
  aBin false false .eql v3 (.p (.str [112, 117, 115, 104])) fun v4 =>
  aGuard v4
  (aNilCheck x0 fun v5 =>
  aFieldAddr 5 v5 fun v6 =>
  aFieldAddr 1 v0 fun v7 =>
  aLoad true 5 v7 h1 fun v8 =>
  aCall Try.prog (.p (.func vm_stack_val_Value_push_i [])) [v6, v8] h1 fun _ h10 =>
  K (.p (.int .i64 0)) h10)
  (aBin false false .eql v3 (.p (.str [120])) fun v11 =>
  aGuard v11
  (aNilCheck x0 fun v12 =>
  aFieldAddr 5 v12 fun v13 =>
  aNilCheck x0 fun v14 =>
  aFieldAddr 0 v14 fun v15 =>
  aLoad true 5 v15 h1 fun v16 =>
  aCall Try.prog (.p (.func vm_stack_val_Value_push_i [])) [v13, v16] h1 fun _ h18 =>
  K (.p (.int .i64 0)) h18)
  (aBin false false .eql v3 (.p (.str [97, 116])) fun v19 =>
  aGuard v19
  (aNilCheck x0 fun v20 =>
  aFieldAddr 5 v20 fun v21 =>
  aNilCheck x0 fun v22 =>
  aFieldAddr 5 v22 fun v23 =>
  aFieldAddr 6 v0 fun v24 =>
  (aCall Try.prog (.p (.func vm_stack_val_Value_pop_i [])) [v23, (.p (.int .i64 1))] h1 fun v25 h26 =>
  aIndexAddr 5 v25 (.p (.int .i64 0)) fun v27 =>
  aFieldAddr 4 v27 fun v28 =>
  (aLoad false 1 v28 h26 fun v29 =>
  aLoad false 1 v24 h26 fun v30 =>
  aIndexAddr 5 v29 v30 fun v31 =>
  aLoad true 5 v31 h26 fun v32 =>
  aCall Try.prog (.p (.func vm_stack_val_Value_push_i [])) [v21, v32] h26 fun _ h34 =>
  K (.p (.int .i64 0)) h34) ∧
  (aLoad false 1 v24 h26 fun v35 =>
  aLoad false 1 v28 h26 fun v36 =>
  aIndexAddr 5 v36 v35 fun v37 =>
  aLoad true 5 v37 h26 fun v38 =>
  aCall Try.prog (.p (.func vm_stack_val_Value_push_i [])) [v21, v38] h26 fun _ h40 =>
  K (.p (.int .i64 0)) h40)) ∧
  (aLoad false 1 v24 h1 fun v41 =>
  aCall Try.prog (.p (.func vm_stack_val_Value_pop_i [])) [v23, (.p (.int .i64 1))] h1 fun v42 h43 =>
  aIndexAddr 5 v42 (.p (.int .i64 0)) fun v44 =>
  aFieldAddr 4 v44 fun v45 =>
  aLoad false 1 v45 h43 fun v46 =>
  aIndexAddr 5 v46 v41 fun v47 =>
  aLoad true 5 v47 h43 fun v48 =>
  aCall Try.prog (.p (.func vm_stack_val_Value_push_i [])) [v21, v48] h43 fun _ h50 =>
  K (.p (.int .i64 0)) h50))
  (aBin false false .eql v3 (.p (.str [116, 117, 112])) fun v51 =>
  aGuard v51
  (aNilCheck x0 fun v52 =>
  aFieldAddr 5 v52 fun v53 =>
  aNilCheck x0 fun v54 =>
  aFieldAddr 5 v54 fun v55 =>
  aFieldAddr 6 v0 fun v56 =>
  aLoad false 1 v56 h1 fun v57 =>
  aCall Try.prog (.p (.func vm_stack_val_Value_pop_i [])) [v55, v57] h1 fun v58 h59 =>
  aCall Try.prog (.p (.func val_Tup_i [])) [v58] h59 fun v60 h61 =>
  aCall Try.prog (.p (.func vm_stack_val_Value_push_i [])) [v53, v60] h61 fun _ h63 =>
  K (.p (.int .i64 0)) h63)
  (aBin false false .eql v3 (.p (.str [101, 109, 105, 116])) fun v64 =>
  aGuard v64
  (aNilCheck x0 fun v65 =>
  aFieldAddr 6 v65 fun v66 =>
  aNilCheck x0 fun v67 =>
  aFieldAddr 5 v67 fun v68 =>
  aFieldAddr 6 v0 fun v69 =>
  (aLoad false 1 v66 h1 fun v70 =>
  aLoad false 1 v69 h1 fun v71 =>
  aCall Try.prog (.p (.func vm_stack_val_Value_pop_i [])) [v68, v71] h1 fun v72 h73 =>
  aAppend false 5 64 v70 v72 h73 fun v74 h75 =>
  aNilCheck x0 fun v76 =>
  aFieldAddr 6 v76 fun v77 =>
  aStore 1 v77 v74 h75 fun _ h79 =>
  K (.p (.int .i64 0)) h79) ∧
  (aLoad false 1 v69 h1 fun v80 =>
  (aLoad false 1 v66 h1 fun v81 =>
  aCall Try.prog (.p (.func vm_stack_val_Value_pop_i [])) [v68, v80] h1 fun v82 h83 =>
  aAppend false 5 64 v81 v82 h83 fun v84 h85 =>
  aNilCheck x0 fun v86 =>
  aFieldAddr 6 v86 fun v87 =>
  aStore 1 v87 v84 h85 fun _ h89 =>
  K (.p (.int .i64 0)) h89) ∧
  (aCall Try.prog (.p (.func vm_stack_val_Value_pop_i [])) [v68, v80] h1 fun v90 h91 =>
  aLoad false 1 v66 h91 fun v92 =>
  aAppend false 5 64 v92 v90 h91 fun v93 h94 =>
  aNilCheck x0 fun v95 =>
  aFieldAddr 6 v95 fun v96 =>
  aStore 1 v96 v93 h94 fun _ h98 =>
  K (.p (.int .i64 0)) h98)))
  (aBin false false .eql v3 (.p (.str [110, 101, 103])) fun v99 =>
  aMerge false v99 (fun Q100 =>
  aBin false false .eql v3 (.p (.str [110, 111, 116])) fun v101 =>
  aMerge false v101 (fun Q102 =>
  aBin false false .eql v3 (.p (.str [108, 101, 110])) fun v103 =>
  (h1 = h1 ∧ Q102 v103)) fun v104 =>
  (h1 = h1 ∧ Q100 v104)) fun v105 =>
  aGuard v105
  (aFieldAddr 0 v0 fun v106 =>
  aNilCheck x0 fun v107 =>
  aFieldAddr 5 v107 fun v108 =>
  (aLoad false 1 v106 h1 fun v109 =>
  (aCall Try.prog (.p (.func vm_stack_val_Value_pop_i [])) [v108, (.p (.int .i64 1))] h1 fun v110 h111 =>
  aIndexAddr 5 v110 (.p (.int .i64 0)) fun v112 =>
  (aLoad true 5 v112 h111 fun v113 =>
  (aCall Try.prog (.p (.func eval_One_i [])) [v109, v113] h111 fun v114 h115 =>
  aExtract v114 0 fun v116 =>
  aExtract v114 1 fun _ =>
  aAlloc [(.p (.int .i64 0)), (.p (.int .i64 0)), (.p (.bool false)), (.p (.str [])), (.full [])] h115 fun v118 h119 =>
  aStore 5 v118 v116 h119 fun _ h121 =>
  aNilCheck x0 fun v122 =>
  aFieldAddr 5 v122 fun v123 =>
  aLoad true 5 v118 h121 fun v124 =>
  aCall Try.prog (.p (.func vm_stack_val_Value_push_i [])) [v123, v124] h121 fun _ h126 =>
  K (.p (.int .i64 0)) h126) ∧
  (aAlloc [(.p (.int .i64 0)), (.p (.int .i64 0)), (.p (.bool false)), (.p (.str [])), (.full [])] h111 fun v127 h128 =>
  aCall Try.prog (.p (.func eval_One_i [])) [v109, v113] h128 fun v129 h130 =>
  aExtract v129 0 fun v131 =>
  aExtract v129 1 fun _ =>
  aStore 5 v127 v131 h130 fun _ h134 =>
  aNilCheck x0 fun v135 =>
  aFieldAddr 5 v135 fun v136 =>
  aLoad true 5 v127 h134 fun v137 =>
  aCall Try.prog (.p (.func vm_stack_val_Value_push_i [])) [v136, v137] h134 fun _ h139 =>
  K (.p (.int .i64 0)) h139)) ∧
  (aAlloc [(.p (.int .i64 0)), (.p (.int .i64 0)), (.p (.bool false)), (.p (.str [])), (.full [])] h111 fun v140 h141 =>
  aLoad true 5 v112 h141 fun v142 =>
  aCall Try.prog (.p (.func eval_One_i [])) [v109, v142] h141 fun v143 h144 =>
  aExtract v143 0 fun v145 =>
  aExtract v143 1 fun _ =>
  aStore 5 v140 v145 h144 fun _ h148 =>
  aNilCheck x0 fun v149 =>
  aFieldAddr 5 v149 fun v150 =>
  aLoad true 5 v140 h148 fun v151 =>
  aCall Try.prog (.p (.func vm_stack_val_Value_push_i [])) [v150, v151] h148 fun _ h153 =>
  K (.p (.int .i64 0)) h153)) ∧
  (aAlloc [(.p (.int .i64 0)), (.p (.int .i64 0)), (.p (.bool false)), (.p (.str [])), (.full [])] h1 fun v154 h155 =>
  aCall Try.prog (.p (.func vm_stack_val_Value_pop_i [])) [v108, (.p (.int .i64 1))] h155 fun v156 h157 =>
  aIndexAddr 5 v156 (.p (.int .i64 0)) fun v158 =>
  aLoad true 5 v158 h157 fun v159 =>
  aCall Try.prog (.p (.func eval_One_i [])) [v109, v159] h157 fun v160 h161 =>
  aExtract v160 0 fun v162 =>
  aExtract v160 1 fun _ =>
  aStore 5 v154 v162 h161 fun _ h165 =>
  aNilCheck x0 fun v166 =>
  aFieldAddr 5 v166 fun v167 =>
  aLoad true 5 v154 h165 fun v168 =>
  aCall Try.prog (.p (.func vm_stack_val_Value_push_i [])) [v167, v168] h165 fun _ h170 =>
  K (.p (.int .i64 0)) h170)) ∧
  (aCall Try.prog (.p (.func vm_stack_val_Value_pop_i [])) [v108, (.p (.int .i64 1))] h1 fun v171 h172 =>
  aIndexAddr 5 v171 (.p (.int .i64 0)) fun v173 =>
  (aLoad false 1 v106 h172 fun v174 =>
  (aLoad true 5 v173 h172 fun v175 =>
  (aCall Try.prog (.p (.func eval_One_i [])) [v174, v175] h172 fun v176 h177 =>
  aExtract v176 0 fun v178 =>
  aExtract v176 1 fun _ =>
  aAlloc [(.p (.int .i64 0)), (.p (.int .i64 0)), (.p (.bool false)), (.p (.str [])), (.full [])] h177 fun v180 h181 =>
  aStore 5 v180 v178 h181 fun _ h183 =>
  aNilCheck x0 fun v184 =>
  aFieldAddr 5 v184 fun v185 =>
  aLoad true 5 v180 h183 fun v186 =>
  aCall Try.prog (.p (.func vm_stack_val_Value_push_i [])) [v185, v186] h183 fun _ h188 =>
  K (.p (.int .i64 0)) h188) ∧
  (aAlloc [(.p (.int .i64 0)), (.p (.int .i64 0)), (.p (.bool false)), (.p (.str [])), (.full [])] h172 fun v189 h190 =>
  aCall Try.prog (.p (.func eval_One_i [])) [v174, v175] h190 fun v191 h192 =>
  aExtract v191 0 fun v193 =>
  aExtract v191 1 fun _ =>
  aStore 5 v189 v193 h192 fun _ h196 =>
  aNilCheck x0 fun v197 =>
  aFieldAddr 5 v197 fun v198 =>
  aLoad true 5 v189 h196 fun v199 =>
  aCall Try.prog (.p (.func vm_stack_val_Value_push_i [])) [v198, v199] h196 fun _ h201 =>
  K (.p (.int .i64 0)) h201)) ∧
  (aAlloc [(.p (.int .i64 0)), (.p (.int .i64 0)), (.p (.bool false)), (.p (.str [])), (.full [])] h172 fun v202 h203 =>
  aLoad true 5 v173 h203 fun v204 =>
  aCall Try.prog (.p (.func eval_One_i [])) [v174, v204] h203 fun v205 h206 =>
  aExtract v205 0 fun v207 =>
  aExtract v205 1 fun _ =>
  aStore 5 v202 v207 h206 fun _ h210 =>
  aNilCheck x0 fun v211 =>
  aFieldAddr 5 v211 fun v212 =>
  aLoad true 5 v202 h210 fun v213 =>
  aCall Try.prog (.p (.func vm_stack_val_Value_push_i [])) [v212, v213] h210 fun _ h215 =>
  K (.p (.int .i64 0)) h215)) ∧
  (aLoad true 5 v173 h172 fun v216 =>
  (aLoad false 1 v106 h172 fun v217 =>
  (aCall Try.prog (.p (.func eval_One_i [])) [v217, v216] h172 fun v218 h219 =>
  aExtract v218 0 fun v220 =>
  aExtract v218 1 fun _ =>
  aAlloc [(.p (.int .i64 0)), (.p (.int .i64 0)), (.p (.bool false)), (.p (.str [])), (.full [])] h219 fun v222 h223 =>
  aStore 5 v222 v220 h223 fun _ h225 =>
  aNilCheck x0 fun v226 =>
  aFieldAddr 5 v226 fun v227 =>
  aLoad true 5 v222 h225 fun v228 =>
  aCall Try.prog (.p (.func vm_stack_val_Value_push_i [])) [v227, v228] h225 fun _ h230 =>
  K (.p (.int .i64 0)) h230) ∧
  (aAlloc [(.p (.int .i64 0)), (.p (.int .i64 0)), (.p (.bool false)), (.p (.str [])), (.full [])] h172 fun v231 h232 =>
  aCall Try.prog (.p (.func eval_One_i [])) [v217, v216] h232 fun v233 h234 =>
  aExtract v233 0 fun v235 =>
  aExtract v233 1 fun _ =>
  aStore 5 v231 v235 h234 fun _ h238 =>
  aNilCheck x0 fun v239 =>
  aFieldAddr 5 v239 fun v240 =>
  aLoad true 5 v231 h238 fun v241 =>
  aCall Try.prog (.p (.func vm_stack_val_Value_push_i [])) [v240, v241] h238 fun _ h243 =>
  K (.p (.int .i64 0)) h243)) ∧
  (aAlloc [(.p (.int .i64 0)), (.p (.int .i64 0)), (.p (.bool false)), (.p (.str [])), (.full [])] h172 fun v244 h245 =>
  aLoad false 1 v106 h245 fun v246 =>
  aCall Try.prog (.p (.func eval_One_i [])) [v246, v216] h245 fun v247 h248 =>
  aExtract v247 0 fun v249 =>
  aExtract v247 1 fun _ =>
  aStore 5 v244 v249 h248 fun _ h252 =>
  aNilCheck x0 fun v253 =>
  aFieldAddr 5 v253 fun v254 =>
  aLoad true 5 v244 h252 fun v255 =>
  aCall Try.prog (.p (.func vm_stack_val_Value_push_i [])) [v254, v255] h252 fun _ h257 =>
  K (.p (.int .i64 0)) h257)) ∧
  (aAlloc [(.p (.int .i64 0)), (.p (.int .i64 0)), (.p (.bool false)), (.p (.str [])), (.full [])] h172 fun v258 h259 =>
  (aLoad false 1 v106 h259 fun v260 =>
  aLoad true 5 v173 h259 fun v261 =>
  aCall Try.prog (.p (.func eval_One_i [])) [v260, v261] h259 fun v262 h263 =>
  aExtract v262 0 fun v264 =>
  aExtract v262 1 fun _ =>
  aStore 5 v258 v264 h263 fun _ h267 =>
  aNilCheck x0 fun v268 =>
  aFieldAddr 5 v268 fun v269 =>
  aLoad true 5 v258 h267 fun v270 =>
  aCall Try.prog (.p (.func vm_stack_val_Value_push_i [])) [v269, v270] h267 fun _ h272 =>
  K (.p (.int .i64 0)) h272) ∧
  (aLoad true 5 v173 h259 fun v273 =>
  aLoad false 1 v106 h259 fun v274 =>
  aCall Try.prog (.p (.func eval_One_i [])) [v274, v273] h259 fun v275 h276 =>
  aExtract v275 0 fun v277 =>
  aExtract v275 1 fun _ =>
  aStore 5 v258 v277 h276 fun _ h280 =>
  aNilCheck x0 fun v281 =>
  aFieldAddr 5 v281 fun v282 =>
  aLoad true 5 v258 h280 fun v283 =>
  aCall Try.prog (.p (.func vm_stack_val_Value_push_i [])) [v282, v283] h280 fun _ h285 =>
  K (.p (.int .i64 0)) h285))) ∧
  (aAlloc [(.p (.int .i64 0)), (.p (.int .i64 0)), (.p (.bool false)), (.p (.str [])), (.full [])] h1 fun v286 h287 =>
  (aLoad false 1 v106 h287 fun v288 =>
  aCall Try.prog (.p (.func vm_stack_val_Value_pop_i [])) [v108, (.p (.int .i64 1))] h287 fun v289 h290 =>
  aIndexAddr 5 v289 (.p (.int .i64 0)) fun v291 =>
  aLoad true 5 v291 h290 fun v292 =>
  aCall Try.prog (.p (.func eval_One_i [])) [v288, v292] h290 fun v293 h294 =>
  aExtract v293 0 fun v295 =>
  aExtract v293 1 fun _ =>
  aStore 5 v286 v295 h294 fun _ h298 =>
  aNilCheck x0 fun v299 =>
  aFieldAddr 5 v299 fun v300 =>
  aLoad true 5 v286 h298 fun v301 =>
  aCall Try.prog (.p (.func vm_stack_val_Value_push_i [])) [v300, v301] h298 fun _ h303 =>
  K (.p (.int .i64 0)) h303) ∧
  (aCall Try.prog (.p (.func vm_stack_val_Value_pop_i [])) [v108, (.p (.int .i64 1))] h287 fun v304 h305 =>
  aIndexAddr 5 v304 (.p (.int .i64 0)) fun v306 =>
  (aLoad false 1 v106 h305 fun v307 =>
  aLoad true 5 v306 h305 fun v308 =>
  aCall Try.prog (.p (.func eval_One_i [])) [v307, v308] h305 fun v309 h310 =>
  aExtract v309 0 fun v311 =>
  aExtract v309 1 fun _ =>
  aStore 5 v286 v311 h310 fun _ h314 =>
  aNilCheck x0 fun v315 =>
  aFieldAddr 5 v315 fun v316 =>
  aLoad true 5 v286 h314 fun v317 =>
  aCall Try.prog (.p (.func vm_stack_val_Value_push_i [])) [v316, v317] h314 fun _ h319 =>
  K (.p (.int .i64 0)) h319) ∧
  (aLoad true 5 v306 h305 fun v320 =>
  aLoad false 1 v106 h305 fun v321 =>
  aCall Try.prog (.p (.func eval_One_i [])) [v321, v320] h305 fun v322 h323 =>
  aExtract v322 0 fun v324 =>
  aExtract v322 1 fun _ =>
  aStore 5 v286 v324 h323 fun _ h327 =>
  aNilCheck x0 fun v328 =>
  aFieldAddr 5 v328 fun v329 =>
  aLoad true 5 v286 h327 fun v330 =>
  aCall Try.prog (.p (.func vm_stack_val_Value_push_i [])) [v329, v330] h327 fun _ h332 =>
  K (.p (.int .i64 0)) h332))))
  (aNilCheck x0 fun v333 =>
  aFieldAddr 5 v333 fun v334 =>
  aCall Try.prog (.p (.func vm_stack_val_Value_pop_i [])) [v334, (.p (.int .i64 2))] h1 fun v335 h336 =>
  aAlloc [(.p (.int .i64 0)), (.p (.int .i64 0)), (.p (.bool false)), (.p (.str [])), (.full [])] h336 fun v337 h338 =>
  aFieldAddr 0 v0 fun v339 =>
  aLoad false 1 v339 h338 fun v340 =>
  aIndexAddr 5 v335 (.p (.int .i64 0)) fun v341 =>
  aLoad true 5 v341 h338 fun v342 =>
  aIndexAddr 5 v335 (.p (.int .i64 1)) fun v343 =>
  aLoad true 5 v343 h338 fun v344 =>
  aCallT Try.prog (.p (.func eval_Both_i [])) [v340, v342, v344] fun v345 =>
  aExtract v345 0 fun v346 =>
  aExtract v345 1 fun v347 =>
  aExtract v345 2 fun _ =>
  aStore 5 v337 v346 h338 fun _ h350 =>
  aBin false false .neq v347 (.p (.int .i64 0)) fun v351 =>
  aGuard v351
  (K v347 h350)
  (aNilCheck x0 fun v352 =>
  aFieldAddr 5 v352 fun v353 =>
  aLoad true 5 v337 h350 fun v354 =>
  aCall Try.prog (.p (.func vm_stack_val_Value_push_i [])) [v353, v354] h350 fun _ h356 =>
  K (.p (.int .i64 0)) h356)))))))

def vm_machine_does_ann : Nat → List Nat := fun k => match k with | 1000019 => [1] | 1000018 => [1] | 3000008 => [1] | 3000010 => [1] | 3000012 => [1000] | 3000014 => [1000] | 3000016 => [1000] | 3000020 => [1000] | 3000021 => [1] | 3000006 => [1] | _ => []

theorem vm_machine_does_eq (x0 x1 : AV) (H : List Ob) (r : AV) (Ho : List Ob) : aBody Try.prog vm_machine_does_ann Try.f22 H [x0, x1] r Ho = vm_machine_does x0 x1 H (fun v H' => Gives H.length v H' r Ho) := by kernel_rfl

theorem vm_machine_does_fnH {x0 x1 : AV} {Hin : List Ob} {r : AV} {Ho : List Ob} (h : vm_machine_does x0 x1 Hin (fun v H' => Gives Hin.length v H' r Ho)) : Abs.Fn Try.prog vm_machine_does_i Hin [x0, x1] r Ho :=
  fn_intro mixed vm_machine_does_ann (fn := Try.f22) (by kernel_rfl) (by kernel_rfl) (by rw [vm_machine_does_eq]; exact h)

theorem vm_machine_does_fn {x0 x1 : AV} {r : AV} {Ho : List Ob} (h : vm_machine_does x0 x1 [] (fun v H' => Gives 0 v H' r Ho)) : Abs.Fn Try.prog vm_machine_does_i [] [x0, x1] r Ho := vm_machine_does_fnH (Hin := []) h

/- (*runnel/vm.stack[runnel/val.Value]).push -/
def vm_stack_val_Value_push (x0 x1 : AV) (H : List Ob) (K : AV → List Ob → Prop) : Prop :=
  aBox x1 H fun v0 h1 =>
  aNilCheck x0 fun v2 =>
  (aLoad false 1 v2 h1 fun v3 =>
  aLen true false v3 fun v4 =>
  (aLoad true 5 v0 h1 fun v5 =>
  aBuildSlice 5 [(.agg [(.p (.int .i64 0)), (.p (.int .i64 0)), (.p (.bool false)), (.p (.str [])), (.full [])])] fun v6 =>
  aAppend false 5 64 v3 v6 h1 fun v7 h8 =>
  aIndexAddr 5 v7 v4 fun v9 =>
  aNilCheck x0 fun v10 =>
  (aStore 5 v9 v5 h8 fun _ h12 =>
  aStore 1 v10 v7 h12 fun _ h14 =>
  K (.tup []) h14) ∧
  (aStore 1 v10 v7 h8 fun _ h16 =>
  aStore 5 v9 v5 h16 fun _ h18 =>
  K (.tup []) h18)) ∧
  (aBuildSlice 5 [(.agg [(.p (.int .i64 0)), (.p (.int .i64 0)), (.p (.bool false)), (.p (.str [])), (.full [])])] fun v19 =>
  aLoad true 5 v0 h1 fun v20 =>
  aAppend false 5 64 v3 v19 h1 fun v21 h22 =>
  aIndexAddr 5 v21 v4 fun v23 =>
  aNilCheck x0 fun v24 =>
  (aStore 5 v23 v20 h22 fun _ h26 =>
  aStore 1 v24 v21 h26 fun _ h28 =>
  K (.tup []) h28) ∧
  (aStore 1 v24 v21 h22 fun _ h30 =>
  aStore 5 v23 v20 h30 fun _ h32 =>
  K (.tup []) h32))) ∧
  (aLoad true 5 v0 h1 fun v33 =>
  (aLoad false 1 v2 h1 fun v34 =>
  aLen true false v34 fun v35 =>
  aBuildSlice 5 [(.agg [(.p (.int .i64 0)), (.p (.int .i64 0)), (.p (.bool false)), (.p (.str [])), (.full [])])] fun v36 =>
  aAppend false 5 64 v34 v36 h1 fun v37 h38 =>
  aIndexAddr 5 v37 v35 fun v39 =>
  aNilCheck x0 fun v40 =>
  (aStore 5 v39 v33 h38 fun _ h42 =>
  aStore 1 v40 v37 h42 fun _ h44 =>
  K (.tup []) h44) ∧
  (aStore 1 v40 v37 h38 fun _ h46 =>
  aStore 5 v39 v33 h46 fun _ h48 =>
  K (.tup []) h48)) ∧
  (aBuildSlice 5 [(.agg [(.p (.int .i64 0)), (.p (.int .i64 0)), (.p (.bool false)), (.p (.str [])), (.full [])])] fun v49 =>
  aLoad false 1 v2 h1 fun v50 =>
  aLen true false v50 fun v51 =>
  aAppend false 5 64 v50 v49 h1 fun v52 h53 =>
  aIndexAddr 5 v52 v51 fun v54 =>
  aNilCheck x0 fun v55 =>
  (aStore 5 v54 v33 h53 fun _ h57 =>
  aStore 1 v55 v52 h57 fun _ h59 =>
  K (.tup []) h59) ∧
  (aStore 1 v55 v52 h53 fun _ h61 =>
  aStore 5 v54 v33 h61 fun _ h63 =>
  K (.tup []) h63))) ∧
  (aBuildSlice 5 [(.agg [(.p (.int .i64 0)), (.p (.int .i64 0)), (.p (.bool false)), (.p (.str [])), (.full [])])] fun v64 =>
  (aLoad false 1 v2 h1 fun v65 =>
  aLen true false v65 fun v66 =>
  aLoad true 5 v0 h1 fun v67 =>
  aAppend false 5 64 v65 v64 h1 fun v68 h69 =>
  aIndexAddr 5 v68 v66 fun v70 =>
  aNilCheck x0 fun v71 =>
  (aStore 5 v70 v67 h69 fun _ h73 =>
  aStore 1 v71 v68 h73 fun _ h75 =>
  K (.tup []) h75) ∧
  (aStore 1 v71 v68 h69 fun _ h77 =>
  aStore 5 v70 v67 h77 fun _ h79 =>
  K (.tup []) h79)) ∧
  (aLoad true 5 v0 h1 fun v80 =>
  aLoad false 1 v2 h1 fun v81 =>
  aLen true false v81 fun v82 =>
  aAppend false 5 64 v81 v64 h1 fun v83 h84 =>
  aIndexAddr 5 v83 v82 fun v85 =>
  aNilCheck x0 fun v86 =>
  (aStore 5 v85 v80 h84 fun _ h88 =>
  aStore 1 v86 v83 h88 fun _ h90 =>
  K (.tup []) h90) ∧
  (aStore 1 v86 v83 h84 fun _ h92 =>
  aStore 5 v85 v80 h92 fun _ h94 =>
  K (.tup []) h94)))

def vm_stack_val_Value_push_ann : Nat → List Nat := fun k => match k with | 3000001 => [1000] | _ => []

theorem vm_stack_val_Value_push_eq (x0 x1 : AV) (H : List Ob) (r : AV) (Ho : List Ob) : aBody Try.prog vm_stack_val_Value_push_ann Try.f34 H [x0, x1] r Ho = vm_stack_val_Value_push x0 x1 H (fun v H' => Gives H.length v H' r Ho) := by kernel_rfl

theorem vm_stack_val_Value_push_fnH {x0 x1 : AV} {Hin : List Ob} {r : AV} {Ho : List Ob} (h : vm_stack_val_Value_push x0 x1 Hin (fun v H' => Gives Hin.length v H' r Ho)) : Abs.Fn Try.prog vm_stack_val_Value_push_i Hin [x0, x1] r Ho :=
  fn_intro mixed vm_stack_val_Value_push_ann (fn := Try.f34) (by kernel_rfl) (by kernel_rfl) (by rw [vm_stack_val_Value_push_eq]; exact h)

theorem vm_stack_val_Value_push_fn {x0 x1 : AV} {r : AV} {Ho : List Ob} (h : vm_stack_val_Value_push x0 x1 [] (fun v H' => Gives 0 v H' r Ho)) : Abs.Fn Try.prog vm_stack_val_Value_push_i [] [x0, x1] r Ho := vm_stack_val_Value_push_fnH (Hin := []) h

end Go.Proofs.Ytondmcnmdooonaa
end

section
/- Made by program (Gen.lean): functions of the dump, over trees. -/
set_option maxRecDepth 4000
set_option linter.unusedVariables false
namespace Go.Proofs.Ytondmcnmdooonaa
open Go Go.Abs

/- runnel/vm.Chain -/
def vm_Chain (x0 x1 : AV) (H : List Ob) (K : AV → List Ob → Prop) : Prop :=
  aBox x0 H fun v0 h1 =>
  aBox x1 h1 fun v2 h3 =>
  aAlloc [(.full [])] h3 fun v4 h5 =>
  aAlloc [(.full [])] h5 fun v6 h7 =>
  aAlloc [(.p (.raw .nilFunc))] h7 fun v8 h9 =>
  aMakeFunc vm_Chain_1_i [v0, v4, v6, v8] h9 fun v10 h11 =>
  aStore 1 v8 v10 h11 fun _ h13 =>
  aLoad false 1 v8 h13 fun v14 =>
  aLoad true 5 v2 h13 fun v15 =>
  aCall Try.prog v14 [(.p (.int .i64 0)), v15] h13 fun _ h17 =>
  aLoad false 1 v4 h17 fun v18 =>
  aLoad false 1 v6 h17 fun v19 =>
  K (.tup [v18, v19]) h17

def vm_Chain_ann : Nat → List Nat := fun _ => []

theorem vm_Chain_eq (x0 x1 : AV) (H : List Ob) (r : AV) (Ho : List Ob) : aBody Try.prog vm_Chain_ann Try.f15 H [x0, x1] r Ho = vm_Chain x0 x1 H (fun v H' => Gives H.length v H' r Ho) := by kernel_rfl

theorem vm_Chain_fnH {x0 x1 : AV} {Hin : List Ob} {r : AV} {Ho : List Ob} (h : vm_Chain x0 x1 Hin (fun v H' => Gives Hin.length v H' r Ho)) : Abs.Fn Try.prog vm_Chain_i Hin [x0, x1] r Ho :=
  fn_intro mixed vm_Chain_ann (fn := Try.f15) (by kernel_rfl) (by kernel_rfl) (by rw [vm_Chain_eq]; exact h)

theorem vm_Chain_fn {x0 x1 : AV} {r : AV} {Ho : List Ob} (h : vm_Chain x0 x1 [] (fun v H' => Gives 0 v H' r Ho)) : Abs.Fn Try.prog vm_Chain_i [] [x0, x1] r Ho := vm_Chain_fnH (Hin := []) h

/- runnel/vm.Chain$1 -/
def vm_Chain_1_L1 (q1s0 q1s5 q1s39 q1s40 y0 : AV) (H : List Ob) (B1 : List AV → List Ob → Prop) (K : AV → List Ob → Prop) : Prop :=
  aBin false false .lss y0 q1s40 fun v99 =>
  aGuard v99
  (aIndexAddr 5 q1s39 y0 fun v100 =>
  aLoad true 5 v100 H fun v101 =>
  aAlloc [(.p (.int .i64 0)), (.p (.int .i64 0)), (.p (.bool false)), (.p (.str [])), (.full [])] H fun v102 h103 =>
  aStore 5 v102 v101 h103 fun _ h105 =>
  aLoad false 1 q1s5 h105 fun v106 =>
  aBin false false .add q1s0 (.p (.int .i64 1)) fun v107 =>
  aLoad true 5 v102 h105 fun v108 =>
  aCall Try.prog v106 [v107, v108] h105 fun _ h110 =>
  aBin false false .add y0 (.p (.int .i64 1)) fun v111 =>
  B1 [v111] h110)
  (K (.tup []) H)

def vm_Chain_1_J1 (j1s0 j1s5 j1s8 : AV) (H : List Ob) (K : AV → List Ob → Prop) : Prop :=
  aLen false false j1s8 fun v98 =>
  aLoopN 1 [(.p (.int .i64 0))] H fun xs H B1 => vm_Chain_1_L1 j1s0 j1s5 j1s8 v98 (xs.getD 0 .top) H B1 K

def vm_Chain_1 (x0 x1 x2 x3 x4 x5 : AV) (H : List Ob) (K : AV → List Ob → Prop) : Prop :=
  aBox x1 H fun v0 h1 =>
  aLoad false 1 x2 h1 fun v2 =>
  aLen false false v2 fun v3 =>
  aBin false false .eql x0 v3 fun v4 =>
  aGuard v4
  ((aLoad false 1 x3 h1 fun v5 =>
  aLen true false v5 fun v6 =>
  (aLoad true 5 v0 h1 fun v7 =>
  aBuildSlice 5 [(.agg [(.p (.int .i64 0)), (.p (.int .i64 0)), (.p (.bool false)), (.p (.str [])), (.full [])])] fun v8 =>
  aAppend false 5 64 v5 v8 h1 fun v9 h10 =>
  aIndexAddr 5 v9 v6 fun v11 =>
  (aStore 5 v11 v7 h10 fun _ h13 =>
  aStore 1 x3 v9 h13 fun _ h15 =>
  K (.tup []) h15) ∧
  (aStore 1 x3 v9 h10 fun _ h17 =>
  aStore 5 v11 v7 h17 fun _ h19 =>
  K (.tup []) h19)) ∧
  (aBuildSlice 5 [(.agg [(.p (.int .i64 0)), (.p (.int .i64 0)), (.p (.bool false)), (.p (.str [])), (.full [])])] fun v20 =>
  aLoad true 5 v0 h1 fun v21 =>
  aAppend false 5 64 v5 v20 h1 fun v22 h23 =>
  aIndexAddr 5 v22 v6 fun v24 =>
  (aStore 5 v24 v21 h23 fun _ h26 =>
  aStore 1 x3 v22 h26 fun _ h28 =>
  K (.tup []) h28) ∧
  (aStore 1 x3 v22 h23 fun _ h30 =>
  aStore 5 v24 v21 h30 fun _ h32 =>
  K (.tup []) h32))) ∧
  (aLoad true 5 v0 h1 fun v33 =>
  (aLoad false 1 x3 h1 fun v34 =>
  aLen true false v34 fun v35 =>
  aBuildSlice 5 [(.agg [(.p (.int .i64 0)), (.p (.int .i64 0)), (.p (.bool false)), (.p (.str [])), (.full [])])] fun v36 =>
  aAppend false 5 64 v34 v36 h1 fun v37 h38 =>
  aIndexAddr 5 v37 v35 fun v39 =>
  (aStore 5 v39 v33 h38 fun _ h41 =>
  aStore 1 x3 v37 h41 fun _ h43 =>
  K (.tup []) h43) ∧
  (aStore 1 x3 v37 h38 fun _ h45 =>
  aStore 5 v39 v33 h45 fun _ h47 =>
  K (.tup []) h47)) ∧
  (aBuildSlice 5 [(.agg [(.p (.int .i64 0)), (.p (.int .i64 0)), (.p (.bool false)), (.p (.str [])), (.full [])])] fun v48 =>
  aLoad false 1 x3 h1 fun v49 =>
  aLen true false v49 fun v50 =>
  aAppend false 5 64 v49 v48 h1 fun v51 h52 =>
  aIndexAddr 5 v51 v50 fun v53 =>
  (aStore 5 v53 v33 h52 fun _ h55 =>
  aStore 1 x3 v51 h55 fun _ h57 =>
  K (.tup []) h57) ∧
  (aStore 1 x3 v51 h52 fun _ h59 =>
  aStore 5 v53 v33 h59 fun _ h61 =>
  K (.tup []) h61))) ∧
  (aBuildSlice 5 [(.agg [(.p (.int .i64 0)), (.p (.int .i64 0)), (.p (.bool false)), (.p (.str [])), (.full [])])] fun v62 =>
  (aLoad false 1 x3 h1 fun v63 =>
  aLen true false v63 fun v64 =>
  aLoad true 5 v0 h1 fun v65 =>
  aAppend false 5 64 v63 v62 h1 fun v66 h67 =>
  aIndexAddr 5 v66 v64 fun v68 =>
  (aStore 5 v68 v65 h67 fun _ h70 =>
  aStore 1 x3 v66 h70 fun _ h72 =>
  K (.tup []) h72) ∧
  (aStore 1 x3 v66 h67 fun _ h74 =>
  aStore 5 v68 v65 h74 fun _ h76 =>
  K (.tup []) h76)) ∧
  (aLoad true 5 v0 h1 fun v77 =>
  aLoad false 1 x3 h1 fun v78 =>
  aLen true false v78 fun v79 =>
  aAppend false 5 64 v78 v62 h1 fun v80 h81 =>
  aIndexAddr 5 v80 v79 fun v82 =>
  (aStore 5 v82 v77 h81 fun _ h84 =>
  aStore 1 x3 v80 h84 fun _ h86 =>
  K (.tup []) h86) ∧
  (aStore 1 x3 v80 h81 fun _ h88 =>
  aStore 5 v82 v77 h88 fun _ h90 =>
  K (.tup []) h90))))
  (aLoad false 1 x2 h1 fun v91 =>
  aIndexAddr 1 v91 x0 fun v92 =>
  aLoad false 1 v92 h1 fun v93 =>
  aLoad true 5 v0 h1 fun v94 =>
  aCallT Try.prog (.p (.func vm_Run_i [])) [v93, v94] fun v95 =>
  aExtract v95 0 fun v96 =>
  aExtract v95 1 fun v97 =>
  aBin false false .neq v97 (.p (.int .i64 0)) fun v112 =>
  aGuard v112
  (aLoad false 1 x4 h1 fun v113 =>
  aLoad true 5 v0 h1 fun v114 =>
  aBuild [(.p (.int .i64 0)), (.p (.int .i64 0)), (.p (.int .i64 0)), (.p (.bool false)), (.p (.str [])), (.full [])] [(0, 1, x0), (1, 5, v114)] fun v115 =>
  aBuildSlice 6 [v115] fun v116 =>
  aAppend false 6 72 v113 v116 h1 fun v117 h118 =>
  aStore 1 x4 v117 h118 fun _ h120 =>
  vm_Chain_1_J1 x0 x5 v96 h120 K)
  (vm_Chain_1_J1 x0 x5 v96 h1 K))

def vm_Chain_1_ann : Nat → List Nat := fun k => match k with | 7 => [41] | 3000002 => [1000] | _ => []

theorem vm_Chain_1_eq (x0 x1 x2 x3 x4 x5 : AV) (H : List Ob) (r : AV) (Ho : List Ob) : aBody Try.prog vm_Chain_1_ann Try.f26 H [x0, x1, x2, x3, x4, x5] r Ho = vm_Chain_1 x0 x1 x2 x3 x4 x5 H (fun v H' => Gives H.length v H' r Ho) := by kernel_rfl

theorem vm_Chain_1_fnH {x0 x1 x2 x3 x4 x5 : AV} {Hin : List Ob} {r : AV} {Ho : List Ob} (h : vm_Chain_1 x0 x1 x2 x3 x4 x5 Hin (fun v H' => Gives Hin.length v H' r Ho)) : Abs.Fn Try.prog vm_Chain_1_i Hin [x0, x1, x2, x3, x4, x5] r Ho :=
  fn_intro mixed vm_Chain_1_ann (fn := Try.f26) (by kernel_rfl) (by kernel_rfl) (by rw [vm_Chain_1_eq]; exact h)

theorem vm_Chain_1_fn {x0 x1 x2 x3 x4 x5 : AV} {r : AV} {Ho : List Ob} (h : vm_Chain_1 x0 x1 x2 x3 x4 x5 [] (fun v H' => Gives 0 v H' r Ho)) : Abs.Fn Try.prog vm_Chain_1_i [] [x0, x1, x2, x3, x4, x5] r Ho := vm_Chain_1_fnH (Hin := []) h

end Go.Proofs.Ytondmcnmdooonaa
end

section
/- Made by program (Gen.lean): functions of the dump, over trees. -/
set_option maxRecDepth 4000
set_option linter.unusedVariables false
namespace Go.Proofs.Ytondmcnmdooonaa
open Go Go.Abs

/- runnel/runnellaw14.VmRun -/
def runnellaw14_VmRun (x0 x1 : AV) (H : List Ob) (K : AV → List Ob → Prop) : Prop :=
  aBox x1 H fun v0 h1 =>
  aCall Try.prog (.p (.func runnellaw14_known_i [])) [] h1 fun v2 h3 =>
  aUn .not v2 fun v4 =>
  aGuard v4
  (K (.p (.bool false)) h3)
  (aCall Try.prog (.p (.func runnellaw11_Few_i [])) [x0] h3 fun v5 h6 =>
  aUn .not v5 fun v7 =>
  aMerge false v7 (fun Q8 =>
  aLoad true 5 v0 h6 fun v9 =>
  aCall Try.prog (.p (.func runnellaw2_Good_i [])) [v9] h6 fun v10 h11 =>
  aUn .not v10 fun v12 =>
  (h11 = h6 ∧ Q8 v12)) fun v13 =>
  aGuard v13
  (K (.p (.bool true)) h6)
  (aCall Try.prog (.p (.func runnellaw11_Of_i [])) [x0] h6 fun v14 h15 =>
  aLoad true 5 v0 h15 fun v16 =>
  aCall Try.prog (.p (.func runnellaw2_Of_i [])) [v16] h15 fun v17 h18 =>
  aCall Try.prog (.p (.func runnelref6_TypeOf_i [])) [v17] h18 fun v19 h20 =>
  aCall Try.prog (.p (.func runnelref14_Verify_i [])) [v14, v19] h20 fun v21 h22 =>
  aExtract v21 0 fun v23 =>
  aExtract v21 1 fun _ =>
  aExtract v21 2 fun v25 =>
  aAlloc [(.p (.int .i64 0)), (.full [])] h22 fun v26 h27 =>
  aStore 2 v26 v23 h27 fun _ h29 =>
  aBin false false .neq v25 (.p (.int .i64 0)) fun v30 =>
  aGuard v30
  (K (.p (.bool true)) h29)
  (aLoad true 5 v0 h29 fun v31 =>
  aCall Try.prog (.p (.func vm_Run_i [])) [x0, v31] h29 fun v32 h33 =>
  aExtract v32 0 fun v34 =>
  aExtract v32 1 fun v35 =>
  aLoad true 5 v0 h33 fun v36 =>
  aCall Try.prog (.p (.func runnellaw2_Of_i [])) [v36] h33 fun v37 h38 =>
  aCall Try.prog (.p (.func runnelref14_Run_i [])) [v14, v37] h38 fun v39 h40 =>
  aExtract v39 0 fun v41 =>
  aExtract v39 1 fun v42 =>
  aBin false false .eql v35 v42 fun v43 =>
  aMerge true v43 (fun Q44 =>
  aCall Try.prog (.p (.func runnellaw2_SameAll_i [])) [v34, v41] h40 fun v45 h46 =>
  (h46 = h40 ∧ Q44 v45)) fun v47 =>
  K v47 h40)))

def runnellaw14_VmRun_ann : Nat → List Nat := fun _ => []

theorem runnellaw14_VmRun_eq (x0 x1 : AV) (H : List Ob) (r : AV) (Ho : List Ob) : aBody Try.prog runnellaw14_VmRun_ann Try.f3 H [x0, x1] r Ho = runnellaw14_VmRun x0 x1 H (fun v H' => Gives H.length v H' r Ho) := by kernel_rfl

theorem runnellaw14_VmRun_fnH {x0 x1 : AV} {Hin : List Ob} {r : AV} {Ho : List Ob} (h : runnellaw14_VmRun x0 x1 Hin (fun v H' => Gives Hin.length v H' r Ho)) : Abs.Fn Try.prog runnellaw14_VmRun_i Hin [x0, x1] r Ho :=
  fn_intro mixed runnellaw14_VmRun_ann (fn := Try.f3) (by kernel_rfl) (by kernel_rfl) (by rw [runnellaw14_VmRun_eq]; exact h)

theorem runnellaw14_VmRun_fn {x0 x1 : AV} {r : AV} {Ho : List Ob} (h : runnellaw14_VmRun x0 x1 [] (fun v H' => Gives 0 v H' r Ho)) : Abs.Fn Try.prog runnellaw14_VmRun_i [] [x0, x1] r Ho := runnellaw14_VmRun_fnH (Hin := []) h

/- runnel/runnellaw14.known -/
def runnellaw14_known (H : List Ob) (K : AV → List Ob → Prop) : Prop :=
  aBuild [(.p (.str [])), (.p (.int .i64 0)), (.p (.int .i64 0)), (.p (.bool false)), (.p (.str [])), (.full []), (.p (.int .i64 0))] [(0, 1, (.p (.str [120])))] fun v0 =>
  aBuild [(.p (.str [])), (.p (.int .i64 0)), (.p (.int .i64 0)), (.p (.bool false)), (.p (.str [])), (.full []), (.p (.int .i64 0))] [(0, 1, (.p (.str [120])))] fun v1 =>
  aBuild [(.p (.str [])), (.p (.int .i64 0)), (.p (.int .i64 0)), (.p (.bool false)), (.p (.str [])), (.full []), (.p (.int .i64 0))] [(0, 1, (.p (.str [101, 109, 105, 116]))), (6, 1, (.p (.int .i64 2)))] fun v2 =>
  aBuild [(.p (.str [])), (.p (.int .i64 0)), (.p (.int .i64 0)), (.p (.bool false)), (.p (.str [])), (.full []), (.p (.int .i64 0))] [(0, 1, (.p (.str [114, 101, 116])))] fun v3 =>
  aBuildSlice 7 [v0, v1, v2, v3] fun v4 =>
  aCall Try.prog (.p (.func val_Int_i [])) [(.p (.int .i64 6))] H fun v5 h6 =>
  aBuild [(.p (.str [])), (.p (.int .i64 0)), (.p (.int .i64 0)), (.p (.bool false)), (.p (.str [])), (.full []), (.p (.int .i64 0))] [(0, 1, (.p (.str [112, 117, 115, 104]))), (1, 5, v5)] fun v7 =>
  aBuild [(.p (.str [])), (.p (.int .i64 0)), (.p (.int .i64 0)), (.p (.bool false)), (.p (.str [])), (.full []), (.p (.int .i64 0))] [(0, 1, (.p (.str [120])))] fun v8 =>
  aBuild [(.p (.str [])), (.p (.int .i64 0)), (.p (.int .i64 0)), (.p (.bool false)), (.p (.str [])), (.full []), (.p (.int .i64 0))] [(0, 1, (.p (.str [100, 105, 118])))] fun v9 =>
  aBuild [(.p (.str [])), (.p (.int .i64 0)), (.p (.int .i64 0)), (.p (.bool false)), (.p (.str [])), (.full []), (.p (.int .i64 0))] [(0, 1, (.p (.str [101, 109, 105, 116]))), (6, 1, (.p (.int .i64 1)))] fun v10 =>
  aBuild [(.p (.str [])), (.p (.int .i64 0)), (.p (.int .i64 0)), (.p (.bool false)), (.p (.str [])), (.full []), (.p (.int .i64 0))] [(0, 1, (.p (.str [114, 101, 116])))] fun v11 =>
  aBuildSlice 7 [v7, v8, v9, v10, v11] fun v12 =>
  aCall Try.prog (.p (.func val_Int_i [])) [(.p (.int .i64 3))] h6 fun v13 h14 =>
  aCall Try.prog (.p (.func vm_Run_i [])) [v4, v13] h14 fun v15 h16 =>
  aExtract v15 0 fun v17 =>
  aExtract v15 1 fun v18 =>
  aBuildSlice 1 [v4, v12] fun v19 =>
  aCall Try.prog (.p (.func val_Int_i [])) [(.p (.int .i64 3))] h16 fun v20 h21 =>
  aCall Try.prog (.p (.func vm_Chain_i [])) [v19, v20] h21 fun v22 h23 =>
  aExtract v22 0 fun v24 =>
  aExtract v22 1 fun v25 =>
  aBuildSlice 1 [v12] fun v26 =>
  aCall Try.prog (.p (.func val_Int_i [])) [(.p (.int .i64 0))] h23 fun v27 h28 =>
  aCall Try.prog (.p (.func vm_Chain_i [])) [v26, v27] h28 fun v29 h30 =>
  aExtract v29 0 fun _ =>
  aExtract v29 1 fun v32 =>
  aCall Try.prog (.p (.func val_Int_i [])) [(.p (.int .i64 0))] h30 fun v33 h34 =>
  aCall Try.prog (.p (.func vm_Run_i [])) [v12, v33] h34 fun v35 h36 =>
  aExtract v35 0 fun _ =>
  aExtract v35 1 fun v38 =>
  aBin false false .eql v18 (.p (.int .i64 0)) fun v39 =>
  aMerge true v39 (fun Q40 =>
  aLenS false v17 fun v41 =>
  aBin false false .eql v41 (.p (.int .i64 2)) fun v42 =>
  (h36 = h36 ∧ Q40 v42)) fun v43 =>
  aMerge true v43 (fun Q44 =>
  aLenS false v24 fun v45 =>
  aBin false false .eql v45 (.p (.int .i64 2)) fun v46 =>
  (h36 = h36 ∧ Q44 v46)) fun v47 =>
  aMerge true v47 (fun Q48 =>
  aIndexAddr 5 v24 (.p (.int .i64 1)) fun v49 =>
  aFieldAddr 1 v49 fun v50 =>
  aLoad false 1 v50 h36 fun v51 =>
  aBin false false .eql v51 (.p (.int .i64 2)) fun v52 =>
  (h36 = h36 ∧ Q48 v52)) fun v53 =>
  aMerge true v53 (fun Q54 =>
  aLenS false v25 fun v55 =>
  aBin false false .eql v55 (.p (.int .i64 0)) fun v56 =>
  (h36 = h36 ∧ Q54 v56)) fun v57 =>
  aMerge true v57 (fun Q58 =>
  aLenS false v32 fun v59 =>
  aBin false false .eql v59 (.p (.int .i64 1)) fun v60 =>
  (h36 = h36 ∧ Q58 v60)) fun v61 =>
  aMerge true v61 (fun Q62 =>
  aIndexAddr 6 v32 (.p (.int .i64 0)) fun v63 =>
  aFieldAddr 0 v63 fun v64 =>
  aLoad false 1 v64 h36 fun v65 =>
  aBin false false .eql v65 (.p (.int .i64 0)) fun v66 =>
  (h36 = h36 ∧ Q62 v66)) fun v67 =>
  aMerge true v67 (fun Q68 =>
  aIndexAddr 6 v32 (.p (.int .i64 0)) fun v69 =>
  aFieldAddr 1 v69 fun v70 =>
  aFieldAddr 0 v70 fun v71 =>
  aLoad false 1 v71 h36 fun v72 =>
  aBin false false .eql v72 (.p (.int .i64 1)) fun v73 =>
  (h36 = h36 ∧ Q68 v73)) fun v74 =>
  aMerge true v74 (fun Q75 =>
  aBin false false .eql v38 (.p (.int .i64 8)) fun v76 =>
  (h36 = h36 ∧ Q75 v76)) fun v77 =>
  K v77 h36

def runnellaw14_known_ann : Nat → List Nat := fun _ => []

theorem runnellaw14_known_eq (H : List Ob) (r : AV) (Ho : List Ob) : aBody Try.prog runnellaw14_known_ann Try.f4 H [] r Ho = runnellaw14_known H (fun v H' => Gives H.length v H' r Ho) := by kernel_rfl

theorem runnellaw14_known_fnH {Hin : List Ob} {r : AV} {Ho : List Ob} (h : runnellaw14_known Hin (fun v H' => Gives Hin.length v H' r Ho)) : Abs.Fn Try.prog runnellaw14_known_i Hin [] r Ho :=
  fn_intro mixed runnellaw14_known_ann (fn := Try.f4) (by kernel_rfl) (by kernel_rfl) (by rw [runnellaw14_known_eq]; exact h)

theorem runnellaw14_known_fn {r : AV} {Ho : List Ob} (h : runnellaw14_known [] (fun v H' => Gives 0 v H' r Ho)) : Abs.Fn Try.prog runnellaw14_known_i [] [] r Ho := runnellaw14_known_fnH (Hin := []) h

end Go.Proofs.Ytondmcnmdooonaa
end
