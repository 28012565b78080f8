/- Made by program (Gen.lean): the functions' numbers. -/
import Derived.Test.YtijnpcociedigaaGreatDoorProg
import Derived.KernelRfl
import Derived.Test.YtijnpcociedigaaGreatDoorA3

section
/- Made by program (Gen.lean): the functions' numbers. -/
namespace Go.Proofs.YtijnpcociedigaaGreatDoor
open Go Go.Abs

theorem mixed : Tryz.prog.follows .mixedOrders = true := by kernel_rfl

abbrev runnellaw9_UidNamed_i : Nat := 5
abbrev runnellaw9_known_i : Nat := 7
abbrev runnellaw8_Good_i : Nat := 8
abbrev runnellaw8_Of_i : Nat := 9
abbrev uid_IDs_i : Nat := 10
abbrev uid_Find_i : Nat := 12
abbrev uid_Schema_i : Nat := 13
abbrev runnellaw4_Op_i : Nat := 15
abbrev runnellaw4_X_i : Nat := 16
abbrev runnellaw4_Lit_i : Nat := 17
abbrev val_Int_i : Nat := 18
abbrev runnellaw8_Small_i : Nat := 21
abbrev runnellaw8_Few_i : Nat := 22
abbrev runnelref10_Check_i : Nat := 23
abbrev runnellaw7_Of_i : Nat := 24
abbrev uid_plain_i : Nat := 25
abbrev strconv_Itoa_i : Nat := 26
abbrev uid_find_string_i : Nat := 29
abbrev graph_Types_i : Nat := 30
abbrev uid_Schema_1_i : Nat := 31
abbrev expr_Check_i : Nat := 32
abbrev typ_Text_i : Nat := 33
abbrev strings_Join_i : Nat := 34
abbrev runnelref10_Keyed_i : Nat := 37
abbrev runnelref6_CheckExpr_i : Nat := 38
abbrev graph_Node_check_i : Nat := 40
abbrev runnellaw7_Few_i : Nat := 42
abbrev runnelref10_node_i : Nat := 43
abbrev runnelref10_types_i : Nat := 44
abbrev runnelref10_Outs_i : Nat := 45
abbrev runnellaw1_Of_i : Nat := 46
abbrev runnellaw4_Of_i : Nat := 47
abbrev slices_Clip_typ_Type_typ_Type_i : Nat := 49
abbrev typ_Check_i : Nat := 50
abbrev expr_Size_i : Nat := 51
abbrev expr_check_i : Nat := 52
abbrev typ_word_i : Nat := 53
abbrev runnelref6_CheckType_i : Nat := 57
abbrev runnelref6_Size_i : Nat := 58
abbrev runnelref6_check_i : Nat := 59
abbrev graph_Node_check_1_i : Nat := 63
abbrev graph_Node_check_2_i : Nat := 64
abbrev op_Name_i : Nat := 65
abbrev slices_ContainsFunc_graph_Graph_graph_Node_i : Nat := 66
abbrev graph_Node_ins_i : Nat := 67
abbrev op_Out_i : Nat := 68
abbrev graph_of_i : Nat := 69
abbrev graph_weight_i : Nat := 70
abbrev slices_Clone_graph_Graph_graph_Node_i : Nat := 71
abbrev slices_Contains_int_int_i : Nat := 74
abbrev runnellaw1_Few_i : Nat := 75
abbrev runnellaw4_Few_i : Nat := 76
abbrev runnelref10_Good_i : Nat := 77
abbrev runnelref10_Out_i : Nat := 78
abbrev runnelref10_weight_i : Nat := 79
abbrev runnellaw2_Of_i : Nat := 80
abbrev typ_check_i : Nat := 82
abbrev expr_find_string_expr_shape_i : Nat := 83
abbrev expr_shapes_i : Nat := 84
abbrev expr_Expr_fields_i : Nat := 85
abbrev val_Check_i : Nat := 86
abbrev expr_fits_i : Nat := 87
abbrev expr_Expr_comes_i : Nat := 88
abbrev runnelref6_checkType_i : Nat := 91
abbrev runnelref6_Arity_i : Nat := 92
abbrev runnelref6_nought_i : Nat := 93
abbrev runnelref6_CheckValue_i : Nat := 94
abbrev runnelref6_TypeOf_i : Nat := 95
abbrev runnelref6_OpType_i : Nat := 96
abbrev slices_IndexFunc_graph_Graph_graph_Node_i : Nat := 98
abbrev op_of_op_shape_i : Nat := 99
abbrev op_shapes_i : Nat := 100
abbrev op_Op_fields_i : Nat := 101
abbrev op_types_i : Nat := 102
abbrev op_Op_es_i : Nat := 103
abbrev op_Op_fits_i : Nat := 104
abbrev op_Op_goes_i : Nat := 105
abbrev slices_Index_int_int_i : Nat := 107
abbrev runnellaw1_budget_i : Nat := 108
abbrev runnellaw4_budget_i : Nat := 109
abbrev runnelref10_fields_i : Nat := 110
abbrev runnelref10_ins_i : Nat := 111
abbrev runnelref10_made_i : Nat := 112
abbrev typ_Row_i : Nat := 117
abbrev typ_each_typ_Type_i : Nat := 118
abbrev typ_check_1_i : Nat := 119
abbrev expr_none_i : Nat := 120
abbrev val_check_i : Nat := 121
abbrev typ_Same_i : Nat := 122
abbrev val_TypeOf_i : Nat := 123
abbrev runnelref6_checkValue_i : Nat := 126
abbrev runnelref6_SameType_i : Nat := 127
abbrev runnelref6_Plain_i : Nat := 128
abbrev op_nothing_i : Nat := 129
abbrev op_span_in_i : Nat := 130
abbrev op_alike_i : Nat := 131
abbrev runnellaw2_Few_i : Nat := 132
abbrev runnelref10_bare_i : Nat := 133
abbrev val_Same_i : Nat := 139
abbrev val_spare_i : Nat := 140
abbrev slices_EqualFunc_typ_Type_typ_Type_typ_Type_typ_Type_i : Nat := 141
abbrev val_kind_i : Nat := 142
abbrev runnellaw2_budget_i : Nat := 143
abbrev val_Compare_i : Nat := 146
abbrev cmp_Or_int_i : Nat := 147
abbrev cmp_Compare_int_i : Nat := 148
abbrev cmp_Compare_int64_i : Nat := 149
abbrev val_truth_i : Nat := 150
abbrev strings_Compare_i : Nat := 151
abbrev val_rows_val_Value_i : Nat := 152
abbrev cmp_isNaN_int_i : Nat := 153
abbrev cmp_isNaN_int64_i : Nat := 154
abbrev internal_bytealg_CompareString_i : Nat := 155
abbrev slices_CompareFunc_val_Value_val_Value_val_Value_val_Value_i : Nat := 156
end Go.Proofs.YtijnpcociedigaaGreatDoor
end

section
/- Made by program (Gen.lean): functions of the dump, over trees. -/
set_option maxRecDepth 4000
set_option linter.unusedVariables false
namespace Go.Proofs.YtijnpcociedigaaGreatDoor
open Go Go.Abs

/- runnel/typ.Text -/
def typ_Text_L1 (q1s13 q1s14 y0 y1 : AV) (H : List Ob) (B1 : List AV → List Ob → Prop) (K : AV → List Ob → Prop) : Prop :=
  aBin false false .lss y1 q1s14 fun v12 =>
  aGuard v12
  (aIndexAddr 2 q1s13 y1 fun v13 =>
  aLoad true 2 v13 H fun v14 =>
  aAlloc [(.p (.int .i64 0)), (.full [])] H fun v15 h16 =>
  aStore 2 v15 v14 h16 fun _ h18 =>
  aLoad true 2 v15 h18 fun v19 =>
  aCall Tryz.prog (.p (.func typ_Text_i [])) [v19] h18 fun v20 h21 =>
  aBuildSlice 1 [v20] fun v22 =>
  aAppend false 1 16 y0 v22 h21 fun v23 h24 =>
  aBin false false .add y1 (.p (.int .i64 1)) fun v25 =>
  B1 [v23, v25] h24)
  (aCall Tryz.prog (.p (.func strings_Join_i [])) [y0, (.p (.str [44]))] H fun v26 h27 =>
  aBin false false .add (.p (.str [40])) v26 fun v28 =>
  aBin false false .add v28 (.p (.str [41])) fun v29 =>
  K v29 h27)

def typ_Text (x0 : AV) (H : List Ob) (K : AV → List Ob → Prop) : Prop :=
  aBox x0 H fun v0 h1 =>
  aFieldAddr 0 v0 fun v2 =>
  aLoad false 1 v2 h1 fun v3 =>
  aBin false false .neq v3 (.p (.int .i64 4)) fun v4 =>
  aGuard v4
  (aFieldAddr 0 v0 fun v5 =>
  aLoad false 1 v5 h1 fun v6 =>
  aCall Tryz.prog (.p (.func typ_word_i [])) [v6] h1 fun v7 h8 =>
  K v7 h8)
  (aFieldAddr 1 v0 fun v9 =>
  aLoad false 1 v9 h1 fun v10 =>
  aLen false false v10 fun v11 =>
  aLoopN 2 [(.full []), (.p (.int .i64 0))] h1 fun xs H B1 => typ_Text_L1 v10 v11 (xs.getD 0 .top) (xs.getD 1 .top) H B1 K)

def typ_Text_ann : Nat → List Nat := fun k => match k with | 5 => [3, 15] | _ => []

theorem typ_Text_eq (x0 : AV) (H : List Ob) (r : AV) (Ho : List Ob) : aBody Tryz.prog typ_Text_ann Tryz.f33 H [x0] r Ho = typ_Text x0 H (fun v H' => Gives H.length v H' r Ho) := by kernel_rfl

theorem typ_Text_fn {x0 : AV} {r : AV} {Ho : List Ob} (h : typ_Text x0 [] (fun v H' => Gives 0 v H' r Ho)) : Abs.Fn Tryz.prog typ_Text_i [] [x0] r Ho :=
  fn_intro mixed typ_Text_ann (fn := Tryz.f33) (by kernel_rfl) (by kernel_rfl) (by rw [typ_Text_eq]; exact h)

/- runnel/runnellaw1.Of -/
def runnellaw1_Of_L1 (q1s1 q1s2 q1s3 y0 : AV) (H : List Ob) (B1 : List AV → List Ob → Prop) (K : AV → List Ob → Prop) : Prop :=
  aFieldAddr 1 q1s1 fun v11 =>
  aLoad false 1 v11 H fun v12 =>
  aLen false false v12 fun v13 =>
  aBin false false .lss y0 v13 fun v14 =>
  aGuard v14
  (aFieldAddr 1 q1s3 fun v15 =>
  aLoad false 1 v15 H fun v16 =>
  aFieldAddr 1 q1s1 fun v17 =>
  aLoad false 1 v17 H fun v18 =>
  aIndexAddr 2 v18 y0 fun v19 =>
  aLoad true 2 v19 H fun v20 =>
  aCallT Tryz.prog (.p (.func runnellaw1_Of_i [])) [v20] fun v21 =>
  aBuildSlice 2 [v21] fun v22 =>
  aCalm [v16, v22] <|
  aAppend false 2 32 v16 v22 H fun v23 h24 =>
  aFieldAddr 1 q1s3 fun v25 =>
  aStore 1 v25 v23 h24 fun _ h27 =>
  aBin false false .add y0 (.p (.int .i64 1)) fun v28 =>
  B1 [v28] h27)
  (aLoad true 2 q1s3 H fun v29 =>
  aStore 2 q1s2 v29 H fun _ h31 =>
  aLoad true 2 q1s2 h31 fun v32 =>
  K v32 h31)

def runnellaw1_Of (x0 : AV) (H : List Ob) (K : AV → List Ob → Prop) : Prop :=
  aBox x0 H fun v0 h1 =>
  aAlloc [(.p (.int .i64 0)), (.full [])] h1 fun v2 h3 =>
  aFieldAddr 0 v0 fun v4 =>
  aLoad false 1 v4 h3 fun v5 =>
  aBuild [(.p (.int .i64 0)), (.full [])] [(0, 1, v5)] fun v6 =>
  aAlloc [(.p (.int .i64 0)), (.full [])] h3 fun v7 h8 =>
  aStore 2 v7 v6 h8 fun _ h10 =>
  aLoopN 1 [(.p (.int .i64 0))] h10 fun xs H B1 => runnellaw1_Of_L1 v0 v2 v7 (xs.getD 0 .top) H B1 K

def runnellaw1_Of_ann : Nat → List Nat := fun k => match k with | 3 => [4] | _ => []

theorem runnellaw1_Of_eq (x0 : AV) (H : List Ob) (r : AV) (Ho : List Ob) : aBody Tryz.prog runnellaw1_Of_ann Tryz.f46 H [x0] r Ho = runnellaw1_Of x0 H (fun v H' => Gives H.length v H' r Ho) := by kernel_rfl

theorem runnellaw1_Of_fn {x0 : AV} {r : AV} {Ho : List Ob} (h : runnellaw1_Of x0 [] (fun v H' => Gives 0 v H' r Ho)) : Abs.Fn Tryz.prog runnellaw1_Of_i [] [x0] r Ho :=
  fn_intro mixed runnellaw1_Of_ann (fn := Tryz.f46) (by kernel_rfl) (by kernel_rfl) (by rw [runnellaw1_Of_eq]; exact h)

/- slices.Clip[[]runnel/typ.Type,runnel/typ.Type] -/
def slices_Clip_typ_Type_typ_Type (x0 : AV) (H : List Ob) (K : AV → List Ob → Prop) : Prop :=
  aLen false false x0 fun v0 =>
  aLen false false x0 fun v1 =>
  aSlice false 2 x0 none (some v0) (some v1) fun v2 =>
  K v2 H

def slices_Clip_typ_Type_typ_Type_ann : Nat → List Nat := fun _ => []

theorem slices_Clip_typ_Type_typ_Type_eq (x0 : AV) (H : List Ob) (r : AV) (Ho : List Ob) : aBody Tryz.prog slices_Clip_typ_Type_typ_Type_ann Tryz.f49 H [x0] r Ho = slices_Clip_typ_Type_typ_Type x0 H (fun v H' => Gives H.length v H' r Ho) := by kernel_rfl

theorem slices_Clip_typ_Type_typ_Type_fn {x0 : AV} {r : AV} {Ho : List Ob} (h : slices_Clip_typ_Type_typ_Type x0 [] (fun v H' => Gives 0 v H' r Ho)) : Abs.Fn Tryz.prog slices_Clip_typ_Type_typ_Type_i [] [x0] r Ho :=
  fn_intro mixed slices_Clip_typ_Type_typ_Type_ann (fn := Tryz.f49) (by kernel_rfl) (by kernel_rfl) (by rw [slices_Clip_typ_Type_typ_Type_eq]; exact h)

/- runnel/typ.Check -/
def typ_Check (x0 : AV) (H : List Ob) (K : AV → List Ob → Prop) : Prop :=
  aBox x0 H fun v0 h1 =>
  aLoad true 2 v0 h1 fun v2 =>
  aCall Tryz.prog (.p (.func typ_check_i [])) [v2, (.p (.int .i64 0))] h1 fun v3 h4 =>
  K v3 h4

def typ_Check_ann : Nat → List Nat := fun _ => []

theorem typ_Check_eq (x0 : AV) (H : List Ob) (r : AV) (Ho : List Ob) : aBody Tryz.prog typ_Check_ann Tryz.f50 H [x0] r Ho = typ_Check x0 H (fun v H' => Gives H.length v H' r Ho) := by kernel_rfl

theorem typ_Check_fn {x0 : AV} {r : AV} {Ho : List Ob} (h : typ_Check x0 [] (fun v H' => Gives 0 v H' r Ho)) : Abs.Fn Tryz.prog typ_Check_i [] [x0] r Ho :=
  fn_intro mixed typ_Check_ann (fn := Tryz.f50) (by kernel_rfl) (by kernel_rfl) (by rw [typ_Check_eq]; exact h)

/- runnel/typ.word -/
def typ_word (x0 : AV) (H : List Ob) (K : AV → List Ob → Prop) : Prop :=
  aBin false false .eql x0 (.p (.int .i64 1)) fun v0 =>
  aGuard v0
  (K (.p (.str [105, 110, 116])) H)
  (aBin false false .eql x0 (.p (.int .i64 2)) fun v1 =>
  aGuard v1
  (K (.p (.str [98, 111, 111, 108])) H)
  (aBin false false .eql x0 (.p (.int .i64 3)) fun v2 =>
  aGuard v2
  (K (.p (.str [116, 101, 120, 116])) H)
  (K (.p (.str [])) H)))

def typ_word_ann : Nat → List Nat := fun _ => []

theorem typ_word_eq (x0 : AV) (H : List Ob) (r : AV) (Ho : List Ob) : aBody Tryz.prog typ_word_ann Tryz.f53 H [x0] r Ho = typ_word x0 H (fun v H' => Gives H.length v H' r Ho) := by kernel_rfl

theorem typ_word_fn {x0 : AV} {r : AV} {Ho : List Ob} (h : typ_word x0 [] (fun v H' => Gives 0 v H' r Ho)) : Abs.Fn Tryz.prog typ_word_i [] [x0] r Ho :=
  fn_intro mixed typ_word_ann (fn := Tryz.f53) (by kernel_rfl) (by kernel_rfl) (by rw [typ_word_eq]; exact h)

/- runnel/runnelref6.CheckType -/
def runnelref6_CheckType (x0 : AV) (H : List Ob) (K : AV → List Ob → Prop) : Prop :=
  aBox x0 H fun v0 h1 =>
  aLoad true 2 v0 h1 fun v2 =>
  aCall Tryz.prog (.p (.func runnelref6_checkType_i [])) [v2, (.p (.int .i64 0))] h1 fun v3 h4 =>
  K v3 h4

def runnelref6_CheckType_ann : Nat → List Nat := fun _ => []

theorem runnelref6_CheckType_eq (x0 : AV) (H : List Ob) (r : AV) (Ho : List Ob) : aBody Tryz.prog runnelref6_CheckType_ann Tryz.f57 H [x0] r Ho = runnelref6_CheckType x0 H (fun v H' => Gives H.length v H' r Ho) := by kernel_rfl

theorem runnelref6_CheckType_fn {x0 : AV} {r : AV} {Ho : List Ob} (h : runnelref6_CheckType x0 [] (fun v H' => Gives 0 v H' r Ho)) : Abs.Fn Tryz.prog runnelref6_CheckType_i [] [x0] r Ho :=
  fn_intro mixed runnelref6_CheckType_ann (fn := Tryz.f57) (by kernel_rfl) (by kernel_rfl) (by rw [runnelref6_CheckType_eq]; exact h)

/- runnel/runnellaw1.Few -/
def runnellaw1_Few (x0 : AV) (H : List Ob) (K : AV → List Ob → Prop) : Prop :=
  aBox x0 H fun v0 h1 =>
  aLoad true 2 v0 h1 fun v2 =>
  aCall Tryz.prog (.p (.func runnellaw1_budget_i [])) [v2, (.p (.int .i64 12)), (.p (.int .i64 300))] h1 fun v3 h4 =>
  aBin false false .gtr v3 (.p (.int .i64 0)) fun v5 =>
  K v5 h4

def runnellaw1_Few_ann : Nat → List Nat := fun _ => []

theorem runnellaw1_Few_eq (x0 : AV) (H : List Ob) (r : AV) (Ho : List Ob) : aBody Tryz.prog runnellaw1_Few_ann Tryz.f75 H [x0] r Ho = runnellaw1_Few x0 H (fun v H' => Gives H.length v H' r Ho) := by kernel_rfl

theorem runnellaw1_Few_fn {x0 : AV} {r : AV} {Ho : List Ob} (h : runnellaw1_Few x0 [] (fun v H' => Gives 0 v H' r Ho)) : Abs.Fn Tryz.prog runnellaw1_Few_i [] [x0] r Ho :=
  fn_intro mixed runnellaw1_Few_ann (fn := Tryz.f75) (by kernel_rfl) (by kernel_rfl) (by rw [runnellaw1_Few_eq]; exact h)

/- runnel/typ.check -/
def typ_check (x0 x1 : AV) (H : List Ob) (K : AV → List Ob → Prop) : Prop :=
  aBox x0 H fun v0 h1 =>
  aBox x1 h1 fun v2 h3 =>
  aFieldAddr 0 v0 fun v4 =>
  aLoad false 1 v4 h3 fun v5 =>
  aBin false false .eql v5 (.p (.int .i64 1)) fun v6 =>
  aMerge false v6 (fun Q7 =>
  aBin false false .eql v5 (.p (.int .i64 2)) fun v8 =>
  aMerge false v8 (fun Q9 =>
  aBin false false .eql v5 (.p (.int .i64 3)) fun v10 =>
  (h3 = h3 ∧ Q9 v10)) fun v11 =>
  (h3 = h3 ∧ Q7 v11)) fun v12 =>
  aGuard v12
  (aFieldAddr 1 v0 fun v13 =>
  aLoad false 1 v13 h3 fun v14 =>
  aLen false false v14 fun v15 =>
  aBin false false .gtr v15 (.p (.int .i64 0)) fun v16 =>
  aGuard v16
  (K (.p (.int .i64 5)) h3)
  (K (.p (.int .i64 0)) h3))
  (aBin false false .eql v5 (.p (.int .i64 4)) fun v17 =>
  aGuard v17
  (aFieldAddr 1 v0 fun v18 =>
  aLoad false 1 v18 h3 fun v19 =>
  aLen false false v19 fun v20 =>
  aLoad false 1 v2 h3 fun v21 =>
  aCall Tryz.prog (.p (.func typ_Row_i [])) [v20, v21] h3 fun v22 h23 =>
  aBin false false .neq v22 (.p (.int .i64 0)) fun v24 =>
  aGuard v24
  (K v22 h23)
  (aFieldAddr 1 v0 fun v25 =>
  aLoad false 1 v25 h23 fun v26 =>
  aMakeFunc typ_check_1_i [v2] h23 fun v27 h28 =>
  aCall Tryz.prog (.p (.func typ_each_typ_Type_i [])) [v26, v27] h28 fun v29 h30 =>
  K v29 h30))
  (K (.p (.int .i64 5)) h3))

def typ_check_ann : Nat → List Nat := fun k => match k with | 1000004 => [1] | 1000003 => [1] | _ => []

theorem typ_check_eq (x0 x1 : AV) (H : List Ob) (r : AV) (Ho : List Ob) : aBody Tryz.prog typ_check_ann Tryz.f82 H [x0, x1] r Ho = typ_check x0 x1 H (fun v H' => Gives H.length v H' r Ho) := by kernel_rfl

theorem typ_check_fn {x0 x1 : AV} {r : AV} {Ho : List Ob} (h : typ_check x0 x1 [] (fun v H' => Gives 0 v H' r Ho)) : Abs.Fn Tryz.prog typ_check_i [] [x0, x1] r Ho :=
  fn_intro mixed typ_check_ann (fn := Tryz.f82) (by kernel_rfl) (by kernel_rfl) (by rw [typ_check_eq]; exact h)

/- runnel/runnelref6.checkType -/
def runnelref6_checkType_L1 (q1s1 q1s2 y0 : AV) (H : List Ob) (B1 : List AV → List Ob → Prop) (K : AV → List Ob → Prop) : Prop :=
  aFieldAddr 1 q1s2 fun v33 =>
  aLoad false 1 v33 H fun v34 =>
  aLen false false v34 fun v35 =>
  aBin false false .lss y0 v35 fun v36 =>
  aGuard v36
  (aFieldAddr 1 q1s2 fun v37 =>
  aLoad false 1 v37 H fun v38 =>
  aIndexAddr 2 v38 y0 fun v39 =>
  aLoad true 2 v39 H fun v40 =>
  aBin false false .add q1s1 (.p (.int .i64 1)) fun v41 =>
  aCall Tryz.prog (.p (.func runnelref6_checkType_i [])) [v40, v41] H fun v42 h43 =>
  aBin false false .neq v42 (.p (.int .i64 0)) fun v44 =>
  aGuard v44
  (K v42 h43)
  (aBin false false .add y0 (.p (.int .i64 1)) fun v45 =>
  B1 [v45] h43))
  (K (.p (.int .i64 0)) H)

def runnelref6_checkType (x0 x1 : AV) (H : List Ob) (K : AV → List Ob → Prop) : Prop :=
  aBox x0 H fun v0 h1 =>
  aFieldAddr 0 v0 fun v2 =>
  aLoad false 1 v2 h1 fun v3 =>
  aBin false false .lss v3 (.p (.int .i64 1)) fun v4 =>
  aMerge false v4 (fun Q5 =>
  aFieldAddr 0 v0 fun v6 =>
  aLoad false 1 v6 h1 fun v7 =>
  aBin false false .gtr v7 (.p (.int .i64 4)) fun v8 =>
  (h1 = h1 ∧ Q5 v8)) fun v9 =>
  aMerge false v9 (fun Q10 =>
  aFieldAddr 0 v0 fun v11 =>
  aLoad false 1 v11 h1 fun v12 =>
  aBin false false .neq v12 (.p (.int .i64 4)) fun v13 =>
  aMerge true v13 (fun Q14 =>
  aFieldAddr 1 v0 fun v15 =>
  aLoad false 1 v15 h1 fun v16 =>
  aLenS false v16 fun v17 =>
  aBin false false .gtr v17 (.p (.int .i64 0)) fun v18 =>
  (h1 = h1 ∧ Q14 v18)) fun v19 =>
  (h1 = h1 ∧ Q10 v19)) fun v20 =>
  aGuard v20
  (K (.p (.int .i64 5)) h1)
  (aFieldAddr 0 v0 fun v21 =>
  aLoad false 1 v21 h1 fun v22 =>
  aBin false false .neq v22 (.p (.int .i64 4)) fun v23 =>
  aGuard v23
  (K (.p (.int .i64 0)) h1)
  (aFieldAddr 1 v0 fun v24 =>
  aLoad false 1 v24 h1 fun v25 =>
  aLen false false v25 fun v26 =>
  aBin false false .eql v26 (.p (.int .i64 0)) fun v27 =>
  aGuard v27
  (K (.p (.int .i64 1)) h1)
  (aFieldAddr 1 v0 fun v28 =>
  aLoad false 1 v28 h1 fun v29 =>
  aLen false false v29 fun v30 =>
  aBin false false .gtr v30 (.p (.int .i64 8)) fun v31 =>
  aGuard v31
  (K (.p (.int .i64 10)) h1)
  (aBin false false .gtr x1 (.p (.int .i64 4)) fun v32 =>
  aGuard v32
  (K (.p (.int .i64 9)) h1)
  (aLoopN 1 [(.p (.int .i64 0))] h1 fun xs H B1 => runnelref6_checkType_L1 x1 v0 (xs.getD 0 .top) H B1 K)))))

def runnelref6_checkType_ann : Nat → List Nat := fun k => match k with | 12 => [5] | _ => []

theorem runnelref6_checkType_eq (x0 x1 : AV) (H : List Ob) (r : AV) (Ho : List Ob) : aBody Tryz.prog runnelref6_checkType_ann Tryz.f91 H [x0, x1] r Ho = runnelref6_checkType x0 x1 H (fun v H' => Gives H.length v H' r Ho) := by kernel_rfl

theorem runnelref6_checkType_fn {x0 x1 : AV} {r : AV} {Ho : List Ob} (h : runnelref6_checkType x0 x1 [] (fun v H' => Gives 0 v H' r Ho)) : Abs.Fn Tryz.prog runnelref6_checkType_i [] [x0, x1] r Ho :=
  fn_intro mixed runnelref6_checkType_ann (fn := Tryz.f91) (by kernel_rfl) (by kernel_rfl) (by rw [runnelref6_checkType_eq]; exact h)

/- runnel/runnellaw1.budget -/
def runnellaw1_budget_L1 (q1s1 q1s3 y0 y1 : AV) (H : List Ob) (B1 : List AV → List Ob → Prop) (K : AV → List Ob → Prop) : Prop :=
  aFieldAddr 1 q1s3 fun v13 =>
  aLoad false 1 v13 H fun v14 =>
  aLen false false v14 fun v15 =>
  aBin false false .lss y1 v15 fun v16 =>
  aMerge true v16 (fun Q17 =>
  aBin false false .gtr y0 (.p (.int .i64 0)) fun v18 =>
  (H = H ∧ Q17 v18)) fun v19 =>
  aGuard v19
  (aFieldAddr 1 q1s3 fun v20 =>
  aLoad false 1 v20 H fun v21 =>
  aIndexAddr 2 v21 y1 fun v22 =>
  aLoad true 2 v22 H fun v23 =>
  aBin false false .sub q1s1 (.p (.int .i64 1)) fun v24 =>
  aCall Tryz.prog (.p (.func runnellaw1_budget_i [])) [v23, v24, y0] H fun v25 h26 =>
  aBin false false .add y1 (.p (.int .i64 1)) fun v27 =>
  B1 [v25, v27] h26)
  (K y0 H)

def runnellaw1_budget (x0 x1 x2 : AV) (H : List Ob) (K : AV → List Ob → Prop) : Prop :=
  aBox x0 H fun v0 h1 =>
  aBin false false .leq x2 (.p (.int .i64 0)) fun v2 =>
  aMerge false v2 (fun Q3 =>
  aBin false false .leq x1 (.p (.int .i64 0)) fun v4 =>
  (h1 = h1 ∧ Q3 v4)) fun v5 =>
  aMerge false v5 (fun Q6 =>
  aFieldAddr 1 v0 fun v7 =>
  aLoad false 1 v7 h1 fun v8 =>
  aLenS false v8 fun v9 =>
  aBin false false .gtr v9 (.p (.int .i64 20)) fun v10 =>
  (h1 = h1 ∧ Q6 v10)) fun v11 =>
  aGuard v11
  (K (.p (.int .i64 0)) h1)
  (aBin false false .sub x2 (.p (.int .i64 1)) fun v12 =>
  aLoopN 2 [v12, (.p (.int .i64 0))] h1 fun xs H B1 => runnellaw1_budget_L1 x1 v0 (xs.getD 0 .top) (xs.getD 1 .top) H B1 K)

def runnellaw1_budget_ann : Nat → List Nat := fun k => match k with | 5 => [2, 7] | _ => []

theorem runnellaw1_budget_eq (x0 x1 x2 : AV) (H : List Ob) (r : AV) (Ho : List Ob) : aBody Tryz.prog runnellaw1_budget_ann Tryz.f108 H [x0, x1, x2] r Ho = runnellaw1_budget x0 x1 x2 H (fun v H' => Gives H.length v H' r Ho) := by kernel_rfl

theorem runnellaw1_budget_fn {x0 x1 x2 : AV} {r : AV} {Ho : List Ob} (h : runnellaw1_budget x0 x1 x2 [] (fun v H' => Gives 0 v H' r Ho)) : Abs.Fn Tryz.prog runnellaw1_budget_i [] [x0, x1, x2] r Ho :=
  fn_intro mixed runnellaw1_budget_ann (fn := Tryz.f108) (by kernel_rfl) (by kernel_rfl) (by rw [runnellaw1_budget_eq]; exact h)

/- runnel/typ.Row -/
def typ_Row (x0 x1 : AV) (H : List Ob) (K : AV → List Ob → Prop) : Prop :=
  aBin false false .eql x0 (.p (.int .i64 0)) fun v0 =>
  aGuard v0
  (K (.p (.int .i64 1)) H)
  (aBin false false .gtr x0 (.p (.int .i64 8)) fun v1 =>
  aGuard v1
  (K (.p (.int .i64 10)) H)
  (aBin false false .gtr x1 (.p (.int .i64 4)) fun v2 =>
  aGuard v2
  (K (.p (.int .i64 9)) H)
  (K (.p (.int .i64 0)) H)))

def typ_Row_ann : Nat → List Nat := fun _ => []

theorem typ_Row_eq (x0 x1 : AV) (H : List Ob) (r : AV) (Ho : List Ob) : aBody Tryz.prog typ_Row_ann Tryz.f117 H [x0, x1] r Ho = typ_Row x0 x1 H (fun v H' => Gives H.length v H' r Ho) := by kernel_rfl

theorem typ_Row_fn {x0 x1 : AV} {r : AV} {Ho : List Ob} (h : typ_Row x0 x1 [] (fun v H' => Gives 0 v H' r Ho)) : Abs.Fn Tryz.prog typ_Row_i [] [x0, x1] r Ho :=
  fn_intro mixed typ_Row_ann (fn := Tryz.f117) (by kernel_rfl) (by kernel_rfl) (by rw [typ_Row_eq]; exact h)

/- runnel/typ.each[runnel/typ.Type] -/
def typ_each_typ_Type_L1 (q1s1 q1s8 q1s9 y0 : AV) (H : List Ob) (B1 : List AV → List Ob → Prop) (K : AV → List Ob → Prop) : Prop :=
  aBin false false .lss y0 q1s9 fun v1 =>
  aGuard v1
  (aIndexAddr 2 q1s8 y0 fun v2 =>
  aLoad true 2 v2 H fun v3 =>
  aAlloc [(.p (.int .i64 0)), (.full [])] H fun v4 h5 =>
  aStore 2 v4 v3 h5 fun _ h7 =>
  aLoad true 2 v4 h7 fun v8 =>
  aCall Tryz.prog q1s1 [v8] h7 fun v9 h10 =>
  aBin false false .neq v9 (.p (.int .i64 0)) fun v11 =>
  aGuard v11
  (K v9 h10)
  (aBin false false .add y0 (.p (.int .i64 1)) fun v12 =>
  B1 [v12] h10))
  (K (.p (.int .i64 0)) H)

def typ_each_typ_Type (x0 x1 : AV) (H : List Ob) (K : AV → List Ob → Prop) : Prop :=
  aLen false false x0 fun v0 =>
  aLoopN 1 [(.p (.int .i64 0))] H fun xs H B1 => typ_each_typ_Type_L1 x1 x0 v0 (xs.getD 0 .top) H B1 K

def typ_each_typ_Type_ann : Nat → List Nat := fun k => match k with | 2 => [10] | _ => []

theorem typ_each_typ_Type_eq (x0 x1 : AV) (H : List Ob) (r : AV) (Ho : List Ob) : aBody Tryz.prog typ_each_typ_Type_ann Tryz.f118 H [x0, x1] r Ho = typ_each_typ_Type x0 x1 H (fun v H' => Gives H.length v H' r Ho) := by kernel_rfl

theorem typ_each_typ_Type_fn {x0 x1 : AV} {r : AV} {Ho : List Ob} (h : typ_each_typ_Type x0 x1 [] (fun v H' => Gives 0 v H' r Ho)) : Abs.Fn Tryz.prog typ_each_typ_Type_i [] [x0, x1] r Ho :=
  fn_intro mixed typ_each_typ_Type_ann (fn := Tryz.f118) (by kernel_rfl) (by kernel_rfl) (by rw [typ_each_typ_Type_eq]; exact h)

/- runnel/typ.check$1 -/
def typ_check_1 (x0 x1 : AV) (H : List Ob) (K : AV → List Ob → Prop) : Prop :=
  aBox x0 H fun v0 h1 =>
  aLoad true 2 v0 h1 fun v2 =>
  aLoad false 1 x1 h1 fun v3 =>
  aBin false false .add v3 (.p (.int .i64 1)) fun v4 =>
  aCall Tryz.prog (.p (.func typ_check_i [])) [v2, v4] h1 fun v5 h6 =>
  K v5 h6

def typ_check_1_ann : Nat → List Nat := fun _ => []

theorem typ_check_1_eq (x0 x1 : AV) (H : List Ob) (r : AV) (Ho : List Ob) : aBody Tryz.prog typ_check_1_ann Tryz.f119 H [x0, x1] r Ho = typ_check_1 x0 x1 H (fun v H' => Gives H.length v H' r Ho) := by kernel_rfl

theorem typ_check_1_fn {x0 x1 : AV} {r : AV} {Ho : List Ob} (h : typ_check_1 x0 x1 [] (fun v H' => Gives 0 v H' r Ho)) : Abs.Fn Tryz.prog typ_check_1_i [] [x0, x1] r Ho :=
  fn_intro mixed typ_check_1_ann (fn := Tryz.f119) (by kernel_rfl) (by kernel_rfl) (by rw [typ_check_1_eq]; exact h)

/- runnel/typ.Same -/
def typ_Same (x0 x1 : AV) (H : List Ob) (K : AV → List Ob → Prop) : Prop :=
  aBox x0 H fun v0 h1 =>
  aBox x1 h1 fun v2 h3 =>
  aFieldAddr 0 v0 fun v4 =>
  aLoad false 1 v4 h3 fun v5 =>
  aFieldAddr 0 v2 fun v6 =>
  aLoad false 1 v6 h3 fun v7 =>
  aBin false false .eql v5 v7 fun v8 =>
  aMerge true v8 (fun Q9 =>
  aFieldAddr 1 v0 fun v10 =>
  aLoad false 1 v10 h3 fun v11 =>
  aFieldAddr 1 v2 fun v12 =>
  aLoad false 1 v12 h3 fun v13 =>
  aCall Tryz.prog (.p (.func slices_EqualFunc_typ_Type_typ_Type_typ_Type_typ_Type_i [])) [v11, v13, (.p (.func typ_Same_i []))] h3 fun v14 h15 =>
  (h15 = h3 ∧ Q9 v14)) fun v16 =>
  K v16 h3

def typ_Same_ann : Nat → List Nat := fun _ => []

theorem typ_Same_eq (x0 x1 : AV) (H : List Ob) (r : AV) (Ho : List Ob) : aBody Tryz.prog typ_Same_ann Tryz.f122 H [x0, x1] r Ho = typ_Same x0 x1 H (fun v H' => Gives H.length v H' r Ho) := by kernel_rfl

theorem typ_Same_fn {x0 x1 : AV} {r : AV} {Ho : List Ob} (h : typ_Same x0 x1 [] (fun v H' => Gives 0 v H' r Ho)) : Abs.Fn Tryz.prog typ_Same_i [] [x0, x1] r Ho :=
  fn_intro mixed typ_Same_ann (fn := Tryz.f122) (by kernel_rfl) (by kernel_rfl) (by rw [typ_Same_eq]; exact h)

/- runnel/runnelref6.SameType -/
def runnelref6_SameType_L1 (q1s2 q1s3 y0 : AV) (H : List Ob) (B1 : List AV → List Ob → Prop) (K : AV → List Ob → Prop) : Prop :=
  aFieldAddr 1 q1s2 fun v18 =>
  aLoad false 1 v18 H fun v19 =>
  aLen false false v19 fun v20 =>
  aBin false false .lss y0 v20 fun v21 =>
  aGuard v21
  (aFieldAddr 1 q1s2 fun v22 =>
  aLoad false 1 v22 H fun v23 =>
  aIndexAddr 2 v23 y0 fun v24 =>
  aLoad true 2 v24 H fun v25 =>
  aFieldAddr 1 q1s3 fun v26 =>
  aLoad false 1 v26 H fun v27 =>
  aIndexAddr 2 v27 y0 fun v28 =>
  aLoad true 2 v28 H fun v29 =>
  aCallT Tryz.prog (.p (.func runnelref6_SameType_i [])) [v25, v29] fun v30 =>
  aUn .not v30 fun v31 =>
  aGuard v31
  (K (.p (.bool false)) H)
  (aBin false false .add y0 (.p (.int .i64 1)) fun v32 =>
  B1 [v32] H))
  (K (.p (.bool true)) H)

def runnelref6_SameType (x0 x1 : AV) (H : List Ob) (K : AV → List Ob → Prop) : Prop :=
  aBox x0 H fun v0 h1 =>
  aBox x1 h1 fun v2 h3 =>
  aFieldAddr 0 v0 fun v4 =>
  aLoad false 1 v4 h3 fun v5 =>
  aFieldAddr 0 v2 fun v6 =>
  aLoad false 1 v6 h3 fun v7 =>
  aBin false false .neq v5 v7 fun v8 =>
  aMerge false v8 (fun Q9 =>
  aFieldAddr 1 v0 fun v10 =>
  aLoad false 1 v10 h3 fun v11 =>
  aLenS false v11 fun v12 =>
  aFieldAddr 1 v2 fun v13 =>
  aLoad false 1 v13 h3 fun v14 =>
  aLenS false v14 fun v15 =>
  aBin false false .neq v12 v15 fun v16 =>
  (h3 = h3 ∧ Q9 v16)) fun v17 =>
  aGuard v17
  (K (.p (.bool false)) h3)
  (aLoopN 1 [(.p (.int .i64 0))] h3 fun xs H B1 => runnelref6_SameType_L1 v0 v2 (xs.getD 0 .top) H B1 K)

def runnelref6_SameType_ann : Nat → List Nat := fun k => match k with | 4 => [5] | _ => []

theorem runnelref6_SameType_eq (x0 x1 : AV) (H : List Ob) (r : AV) (Ho : List Ob) : aBody Tryz.prog runnelref6_SameType_ann Tryz.f127 H [x0, x1] r Ho = runnelref6_SameType x0 x1 H (fun v H' => Gives H.length v H' r Ho) := by kernel_rfl

theorem runnelref6_SameType_fn {x0 x1 : AV} {r : AV} {Ho : List Ob} (h : runnelref6_SameType x0 x1 [] (fun v H' => Gives 0 v H' r Ho)) : Abs.Fn Tryz.prog runnelref6_SameType_i [] [x0, x1] r Ho :=
  fn_intro mixed runnelref6_SameType_ann (fn := Tryz.f127) (by kernel_rfl) (by kernel_rfl) (by rw [runnelref6_SameType_eq]; exact h)

/- slices.EqualFunc[[]runnel/typ.Type,[]runnel/typ.Type,runnel/typ.Type,runnel/typ.Type] -/
def slices_EqualFunc_typ_Type_typ_Type_typ_Type_typ_Type_L1 (q1s1 q1s2 q1s15 q1s16 y0 : AV) (H : List Ob) (B1 : List AV → List Ob → Prop) (K : AV → List Ob → Prop) : Prop :=
  aBin false false .lss y0 q1s16 fun v4 =>
  aGuard v4
  (aIndexAddr 2 q1s15 y0 fun v5 =>
  aLoad true 2 v5 H fun v6 =>
  aAlloc [(.p (.int .i64 0)), (.full [])] H fun v7 h8 =>
  aStore 2 v7 v6 h8 fun _ h10 =>
  aIndexAddr 2 q1s1 y0 fun v11 =>
  aLoad true 2 v11 h10 fun v12 =>
  aAlloc [(.p (.int .i64 0)), (.full [])] h10 fun v13 h14 =>
  aStore 2 v13 v12 h14 fun _ h16 =>
  aLoad true 2 v7 h16 fun v17 =>
  aLoad true 2 v13 h16 fun v18 =>
  aCall Tryz.prog q1s2 [v17, v18] h16 fun v19 h20 =>
  aUn .not v19 fun v21 =>
  aGuard v21
  (K (.p (.bool false)) h20)
  (aBin false false .add y0 (.p (.int .i64 1)) fun v22 =>
  B1 [v22] h20))
  (K (.p (.bool true)) H)

def slices_EqualFunc_typ_Type_typ_Type_typ_Type_typ_Type (x0 x1 x2 : AV) (H : List Ob) (K : AV → List Ob → Prop) : Prop :=
  aLen false false x0 fun v0 =>
  aLen false false x1 fun v1 =>
  aBin false false .neq v0 v1 fun v2 =>
  aGuard v2
  (K (.p (.bool false)) H)
  (aLen false false x0 fun v3 =>
  aLoopN 1 [(.p (.int .i64 0))] H fun xs H B1 => slices_EqualFunc_typ_Type_typ_Type_typ_Type_typ_Type_L1 x1 x2 x0 v3 (xs.getD 0 .top) H B1 K)

def slices_EqualFunc_typ_Type_typ_Type_typ_Type_typ_Type_ann : Nat → List Nat := fun k => match k with | 4 => [17] | _ => []

theorem slices_EqualFunc_typ_Type_typ_Type_typ_Type_typ_Type_eq (x0 x1 x2 : AV) (H : List Ob) (r : AV) (Ho : List Ob) : aBody Tryz.prog slices_EqualFunc_typ_Type_typ_Type_typ_Type_typ_Type_ann Tryz.f141 H [x0, x1, x2] r Ho = slices_EqualFunc_typ_Type_typ_Type_typ_Type_typ_Type x0 x1 x2 H (fun v H' => Gives H.length v H' r Ho) := by kernel_rfl

theorem slices_EqualFunc_typ_Type_typ_Type_typ_Type_typ_Type_fn {x0 x1 x2 : AV} {r : AV} {Ho : List Ob} (h : slices_EqualFunc_typ_Type_typ_Type_typ_Type_typ_Type x0 x1 x2 [] (fun v H' => Gives 0 v H' r Ho)) : Abs.Fn Tryz.prog slices_EqualFunc_typ_Type_typ_Type_typ_Type_typ_Type_i [] [x0, x1, x2] r Ho :=
  fn_intro mixed slices_EqualFunc_typ_Type_typ_Type_typ_Type_typ_Type_ann (fn := Tryz.f141) (by kernel_rfl) (by kernel_rfl) (by rw [slices_EqualFunc_typ_Type_typ_Type_typ_Type_typ_Type_eq]; exact h)

end Go.Proofs.YtijnpcociedigaaGreatDoor
end

section
/- Made by program (Gen.lean): functions of the dump, over trees. -/
set_option maxRecDepth 4000
set_option linter.unusedVariables false
namespace Go.Proofs.YtijnpcociedigaaGreatDoor
open Go Go.Abs

/- runnel/val.Int -/
def val_Int (x0 : AV) (H : List Ob) (K : AV → List Ob → Prop) : Prop :=
  aAlloc [(.p (.int .i64 0)), (.p (.int .i64 0)), (.p (.bool false)), (.p (.str [])), (.full [])] H fun v0 h1 =>
  aBuild [(.p (.int .i64 0)), (.p (.int .i64 0)), (.p (.bool false)), (.p (.str [])), (.full [])] [(0, 1, (.p (.int .i64 1))), (1, 1, x0)] fun v2 =>
  aStore 5 v0 v2 h1 fun _ h4 =>
  aLoad true 5 v0 h4 fun v5 =>
  K v5 h4

def val_Int_ann : Nat → List Nat := fun _ => []

theorem val_Int_eq (x0 : AV) (H : List Ob) (r : AV) (Ho : List Ob) : aBody Tryz.prog val_Int_ann Tryz.f18 H [x0] r Ho = val_Int x0 H (fun v H' => Gives H.length v H' r Ho) := by kernel_rfl

theorem val_Int_fn {x0 : AV} {r : AV} {Ho : List Ob} (h : val_Int x0 [] (fun v H' => Gives 0 v H' r Ho)) : Abs.Fn Tryz.prog val_Int_i [] [x0] r Ho :=
  fn_intro mixed val_Int_ann (fn := Tryz.f18) (by kernel_rfl) (by kernel_rfl) (by rw [val_Int_eq]; exact h)

/- runnel/runnellaw2.Of -/
def runnellaw2_Of_L1 (q1s1 q1s2 q1s3 y0 : AV) (H : List Ob) (B1 : List AV → List Ob → Prop) (K : AV → List Ob → Prop) : Prop :=
  aFieldAddr 4 q1s1 fun v17 =>
  aLoad false 1 v17 H fun v18 =>
  aLen false false v18 fun v19 =>
  aBin false false .lss y0 v19 fun v20 =>
  aGuard v20
  (aFieldAddr 4 q1s3 fun v21 =>
  aLoad false 1 v21 H fun v22 =>
  aFieldAddr 4 q1s1 fun v23 =>
  aLoad false 1 v23 H fun v24 =>
  aIndexAddr 5 v24 y0 fun v25 =>
  aLoad true 5 v25 H fun v26 =>
  aCallT Tryz.prog (.p (.func runnellaw2_Of_i [])) [v26] fun v27 =>
  aBuildSlice 5 [v27] fun v28 =>
  aCalm [v22, v28] <|
  aAppend false 5 64 v22 v28 H fun v29 h30 =>
  aFieldAddr 4 q1s3 fun v31 =>
  aStore 1 v31 v29 h30 fun _ h33 =>
  aBin false false .add y0 (.p (.int .i64 1)) fun v34 =>
  B1 [v34] h33)
  (aLoad true 5 q1s3 H fun v35 =>
  aStore 5 q1s2 v35 H fun _ h37 =>
  aLoad true 5 q1s2 h37 fun v38 =>
  K v38 h37)

def runnellaw2_Of (x0 : AV) (H : List Ob) (K : AV → List Ob → Prop) : Prop :=
  aBox x0 H fun v0 h1 =>
  aAlloc [(.p (.int .i64 0)), (.p (.int .i64 0)), (.p (.bool false)), (.p (.str [])), (.full [])] h1 fun v2 h3 =>
  aFieldAddr 0 v0 fun v4 =>
  aLoad false 1 v4 h3 fun v5 =>
  aFieldAddr 1 v0 fun v6 =>
  aLoad false 1 v6 h3 fun v7 =>
  aFieldAddr 2 v0 fun v8 =>
  aLoad false 1 v8 h3 fun v9 =>
  aFieldAddr 3 v0 fun v10 =>
  aLoad false 1 v10 h3 fun v11 =>
  aBuild [(.p (.int .i64 0)), (.p (.int .i64 0)), (.p (.bool false)), (.p (.str [])), (.full [])] [(0, 1, v5), (1, 1, v7), (2, 1, v9), (3, 1, v11)] fun v12 =>
  aAlloc [(.p (.int .i64 0)), (.p (.int .i64 0)), (.p (.bool false)), (.p (.str [])), (.full [])] h3 fun v13 h14 =>
  aStore 5 v13 v12 h14 fun _ h16 =>
  aLoopN 1 [(.p (.int .i64 0))] h16 fun xs H B1 => runnellaw2_Of_L1 v0 v2 v13 (xs.getD 0 .top) H B1 K

def runnellaw2_Of_ann : Nat → List Nat := fun k => match k with | 3 => [4] | _ => []

theorem runnellaw2_Of_eq (x0 : AV) (H : List Ob) (r : AV) (Ho : List Ob) : aBody Tryz.prog runnellaw2_Of_ann Tryz.f80 H [x0] r Ho = runnellaw2_Of x0 H (fun v H' => Gives H.length v H' r Ho) := by kernel_rfl

theorem runnellaw2_Of_fn {x0 : AV} {r : AV} {Ho : List Ob} (h : runnellaw2_Of x0 [] (fun v H' => Gives 0 v H' r Ho)) : Abs.Fn Tryz.prog runnellaw2_Of_i [] [x0] r Ho :=
  fn_intro mixed runnellaw2_Of_ann (fn := Tryz.f80) (by kernel_rfl) (by kernel_rfl) (by rw [runnellaw2_Of_eq]; exact h)

/- runnel/val.Check -/
def val_Check (x0 : AV) (H : List Ob) (K : AV → List Ob → Prop) : Prop :=
  aBox x0 H fun v0 h1 =>
  aLoad true 5 v0 h1 fun v2 =>
  aCall Tryz.prog (.p (.func val_check_i [])) [v2, (.p (.int .i64 0))] h1 fun v3 h4 =>
  K v3 h4

def val_Check_ann : Nat → List Nat := fun _ => []

theorem val_Check_eq (x0 : AV) (H : List Ob) (r : AV) (Ho : List Ob) : aBody Tryz.prog val_Check_ann Tryz.f86 H [x0] r Ho = val_Check x0 H (fun v H' => Gives H.length v H' r Ho) := by kernel_rfl

theorem val_Check_fn {x0 : AV} {r : AV} {Ho : List Ob} (h : val_Check x0 [] (fun v H' => Gives 0 v H' r Ho)) : Abs.Fn Tryz.prog val_Check_i [] [x0] r Ho :=
  fn_intro mixed val_Check_ann (fn := Tryz.f86) (by kernel_rfl) (by kernel_rfl) (by rw [val_Check_eq]; exact h)

/- runnel/runnelref6.CheckValue -/
def runnelref6_CheckValue (x0 : AV) (H : List Ob) (K : AV → List Ob → Prop) : Prop :=
  aBox x0 H fun v0 h1 =>
  aLoad true 5 v0 h1 fun v2 =>
  aCall Tryz.prog (.p (.func runnelref6_checkValue_i [])) [v2, (.p (.int .i64 0))] h1 fun v3 h4 =>
  K v3 h4

def runnelref6_CheckValue_ann : Nat → List Nat := fun _ => []

theorem runnelref6_CheckValue_eq (x0 : AV) (H : List Ob) (r : AV) (Ho : List Ob) : aBody Tryz.prog runnelref6_CheckValue_ann Tryz.f94 H [x0] r Ho = runnelref6_CheckValue x0 H (fun v H' => Gives H.length v H' r Ho) := by kernel_rfl

theorem runnelref6_CheckValue_fn {x0 : AV} {r : AV} {Ho : List Ob} (h : runnelref6_CheckValue x0 [] (fun v H' => Gives 0 v H' r Ho)) : Abs.Fn Tryz.prog runnelref6_CheckValue_i [] [x0] r Ho :=
  fn_intro mixed runnelref6_CheckValue_ann (fn := Tryz.f94) (by kernel_rfl) (by kernel_rfl) (by rw [runnelref6_CheckValue_eq]; exact h)

/- runnel/runnelref6.TypeOf -/
def runnelref6_TypeOf_L1 (q1s1 q1s2 q1s3 y0 : AV) (H : List Ob) (B1 : List AV → List Ob → Prop) (K : AV → List Ob → Prop) : Prop :=
  aFieldAddr 4 q1s1 fun v11 =>
  aLoad false 1 v11 H fun v12 =>
  aLen false false v12 fun v13 =>
  aBin false false .lss y0 v13 fun v14 =>
  aGuard v14
  (aFieldAddr 1 q1s3 fun v15 =>
  aLoad false 1 v15 H fun v16 =>
  aFieldAddr 4 q1s1 fun v17 =>
  aLoad false 1 v17 H fun v18 =>
  aIndexAddr 5 v18 y0 fun v19 =>
  aLoad true 5 v19 H fun v20 =>
  aCallT Tryz.prog (.p (.func runnelref6_TypeOf_i [])) [v20] fun v21 =>
  aBuildSlice 2 [v21] fun v22 =>
  aCalm [v16, v22] <|
  aAppend false 2 32 v16 v22 H fun v23 h24 =>
  aFieldAddr 1 q1s3 fun v25 =>
  aStore 1 v25 v23 h24 fun _ h27 =>
  aBin false false .add y0 (.p (.int .i64 1)) fun v28 =>
  B1 [v28] h27)
  (aLoad true 2 q1s3 H fun v29 =>
  aStore 2 q1s2 v29 H fun _ h31 =>
  aLoad true 2 q1s2 h31 fun v32 =>
  K v32 h31)

def runnelref6_TypeOf (x0 : AV) (H : List Ob) (K : AV → List Ob → Prop) : Prop :=
  aBox x0 H fun v0 h1 =>
  aAlloc [(.p (.int .i64 0)), (.full [])] h1 fun v2 h3 =>
  aFieldAddr 0 v0 fun v4 =>
  aLoad false 1 v4 h3 fun v5 =>
  aBuild [(.p (.int .i64 0)), (.full [])] [(0, 1, v5)] fun v6 =>
  aAlloc [(.p (.int .i64 0)), (.full [])] h3 fun v7 h8 =>
  aStore 2 v7 v6 h8 fun _ h10 =>
  aLoopN 1 [(.p (.int .i64 0))] h10 fun xs H B1 => runnelref6_TypeOf_L1 v0 v2 v7 (xs.getD 0 .top) H B1 K

def runnelref6_TypeOf_ann : Nat → List Nat := fun k => match k with | 3 => [4] | _ => []

theorem runnelref6_TypeOf_eq (x0 : AV) (H : List Ob) (r : AV) (Ho : List Ob) : aBody Tryz.prog runnelref6_TypeOf_ann Tryz.f95 H [x0] r Ho = runnelref6_TypeOf x0 H (fun v H' => Gives H.length v H' r Ho) := by kernel_rfl

theorem runnelref6_TypeOf_fn {x0 : AV} {r : AV} {Ho : List Ob} (h : runnelref6_TypeOf x0 [] (fun v H' => Gives 0 v H' r Ho)) : Abs.Fn Tryz.prog runnelref6_TypeOf_i [] [x0] r Ho :=
  fn_intro mixed runnelref6_TypeOf_ann (fn := Tryz.f95) (by kernel_rfl) (by kernel_rfl) (by rw [runnelref6_TypeOf_eq]; exact h)

/- runnel/val.check -/
def val_check_L1 (q1s1 q1s2 y0 y1 : AV) (H : List Ob) (B1 : List AV → List Ob → Prop) (K : AV → List Ob → Prop) : Prop :=
  aFieldAddr 4 q1s2 fun v25 =>
  aLoad false 1 v25 H fun v26 =>
  aLen false false v26 fun v27 =>
  aBin false false .lss y1 v27 fun v28 =>
  aMerge true v28 (fun Q29 =>
  aBin false false .eql y0 (.p (.int .i64 0)) fun v30 =>
  (H = H ∧ Q29 v30)) fun v31 =>
  aGuard v31
  (aFieldAddr 4 q1s2 fun v32 =>
  aLoad false 1 v32 H fun v33 =>
  aIndexAddr 5 v33 y1 fun v34 =>
  aLoad true 5 v34 H fun v35 =>
  aBin false false .add q1s1 (.p (.int .i64 1)) fun v36 =>
  aCall Tryz.prog (.p (.func val_check_i [])) [v35, v36] H fun v37 h38 =>
  aBin false false .add y1 (.p (.int .i64 1)) fun v39 =>
  B1 [v37, v39] h38)
  (K y0 H)

def val_check (x0 x1 : AV) (H : List Ob) (K : AV → List Ob → Prop) : Prop :=
  aBox x0 H fun v0 h1 =>
  aFieldAddr 0 v0 fun v2 =>
  aLoad false 1 v2 h1 fun v3 =>
  aBin false false .lss v3 (.p (.int .i64 1)) fun v4 =>
  aMerge false v4 (fun Q5 =>
  aFieldAddr 0 v0 fun v6 =>
  aLoad false 1 v6 h1 fun v7 =>
  aBin false false .gtr v7 (.p (.int .i64 4)) fun v8 =>
  (h1 = h1 ∧ Q5 v8)) fun v9 =>
  aGuard v9
  (K (.p (.int .i64 5)) h1)
  (aLoad true 5 v0 h1 fun v10 =>
  aCall Tryz.prog (.p (.func val_spare_i [])) [v10] h1 fun v11 h12 =>
  aGuard v11
  (K (.p (.int .i64 2)) h12)
  (aFieldAddr 3 v0 fun v13 =>
  aLoad false 1 v13 h12 fun v14 =>
  aLen false true v14 fun v15 =>
  aBin false false .gtr v15 (.p (.int .i64 255)) fun v16 =>
  aGuard v16
  (K (.p (.int .i64 4)) h12)
  (aFieldAddr 0 v0 fun v17 =>
  aLoad false 1 v17 h12 fun v18 =>
  aBin false false .neq v18 (.p (.int .i64 4)) fun v19 =>
  aGuard v19
  (K (.p (.int .i64 0)) h12)
  (aFieldAddr 4 v0 fun v20 =>
  aLoad false 1 v20 h12 fun v21 =>
  aLen false false v21 fun v22 =>
  aCall Tryz.prog (.p (.func typ_Row_i [])) [v22, x1] h12 fun v23 h24 =>
  aLoopN 2 [v23, (.p (.int .i64 0))] h24 fun xs H B1 => val_check_L1 x1 v0 (xs.getD 0 .top) (xs.getD 1 .top) H B1 K))))

def val_check_ann : Nat → List Nat := fun k => match k with | 11 => [5, 6] | _ => []

theorem val_check_eq (x0 x1 : AV) (H : List Ob) (r : AV) (Ho : List Ob) : aBody Tryz.prog val_check_ann Tryz.f121 H [x0, x1] r Ho = val_check x0 x1 H (fun v H' => Gives H.length v H' r Ho) := by kernel_rfl

theorem val_check_fn {x0 x1 : AV} {r : AV} {Ho : List Ob} (h : val_check x0 x1 [] (fun v H' => Gives 0 v H' r Ho)) : Abs.Fn Tryz.prog val_check_i [] [x0, x1] r Ho :=
  fn_intro mixed val_check_ann (fn := Tryz.f121) (by kernel_rfl) (by kernel_rfl) (by rw [val_check_eq]; exact h)

/- runnel/val.TypeOf -/
def val_TypeOf (x0 : AV) (H : List Ob) (K : AV → List Ob → Prop) : Prop :=
  aBox x0 H fun v0 h1 =>
  aAlloc [(.p (.int .i64 0)), (.full [])] h1 fun v2 h3 =>
  aLoad true 5 v0 h3 fun v4 =>
  aCall Tryz.prog (.p (.func val_Check_i [])) [v4] h3 fun v5 h6 =>
  aBin false false .neq v5 (.p (.int .i64 0)) fun v7 =>
  aGuard v7
  (aBuild [(.p (.int .i64 0)), (.full [])] [] fun v8 =>
  aStore 2 v2 v8 h6 fun _ h10 =>
  aLoad true 2 v2 h10 fun v11 =>
  K v11 h10)
  (aLoad true 5 v0 h6 fun v12 =>
  aCall Tryz.prog (.p (.func val_kind_i [])) [v12] h6 fun v13 h14 =>
  aStore 2 v2 v13 h14 fun _ h16 =>
  aLoad true 2 v2 h16 fun v17 =>
  K v17 h16)

def val_TypeOf_ann : Nat → List Nat := fun _ => []

theorem val_TypeOf_eq (x0 : AV) (H : List Ob) (r : AV) (Ho : List Ob) : aBody Tryz.prog val_TypeOf_ann Tryz.f123 H [x0] r Ho = val_TypeOf x0 H (fun v H' => Gives H.length v H' r Ho) := by kernel_rfl

theorem val_TypeOf_fn {x0 : AV} {r : AV} {Ho : List Ob} (h : val_TypeOf x0 [] (fun v H' => Gives 0 v H' r Ho)) : Abs.Fn Tryz.prog val_TypeOf_i [] [x0] r Ho :=
  fn_intro mixed val_TypeOf_ann (fn := Tryz.f123) (by kernel_rfl) (by kernel_rfl) (by rw [val_TypeOf_eq]; exact h)

/- runnel/runnelref6.checkValue -/
def runnelref6_checkValue_L1 (q1s1 q1s2 y0 : AV) (H : List Ob) (B1 : List AV → List Ob → Prop) (K : AV → List Ob → Prop) : Prop :=
  aFieldAddr 4 q1s2 fun v64 =>
  aLoad false 1 v64 H fun v65 =>
  aLen false false v65 fun v66 =>
  aBin false false .lss y0 v66 fun v67 =>
  aGuard v67
  (aFieldAddr 4 q1s2 fun v68 =>
  aLoad false 1 v68 H fun v69 =>
  aIndexAddr 5 v69 y0 fun v70 =>
  aLoad true 5 v70 H fun v71 =>
  aBin false false .add q1s1 (.p (.int .i64 1)) fun v72 =>
  aCall Tryz.prog (.p (.func runnelref6_checkValue_i [])) [v71, v72] H fun v73 h74 =>
  aBin false false .neq v73 (.p (.int .i64 0)) fun v75 =>
  aGuard v75
  (K v73 h74)
  (aBin false false .add y0 (.p (.int .i64 1)) fun v76 =>
  B1 [v76] h74))
  (K (.p (.int .i64 0)) H)

def runnelref6_checkValue (x0 x1 : AV) (H : List Ob) (K : AV → List Ob → Prop) : Prop :=
  aBox x0 H fun v0 h1 =>
  aFieldAddr 0 v0 fun v2 =>
  aLoad false 1 v2 h1 fun v3 =>
  aBin false false .lss v3 (.p (.int .i64 1)) fun v4 =>
  aMerge false v4 (fun Q5 =>
  aFieldAddr 0 v0 fun v6 =>
  aLoad false 1 v6 h1 fun v7 =>
  aBin false false .gtr v7 (.p (.int .i64 4)) fun v8 =>
  (h1 = h1 ∧ Q5 v8)) fun v9 =>
  aGuard v9
  (K (.p (.int .i64 5)) h1)
  (aFieldAddr 0 v0 fun v10 =>
  aLoad false 1 v10 h1 fun v11 =>
  aBin false false .neq v11 (.p (.int .i64 1)) fun v12 =>
  aMerge true v12 (fun Q13 =>
  aFieldAddr 1 v0 fun v14 =>
  aLoad false 1 v14 h1 fun v15 =>
  aBin false false .neq v15 (.p (.int .i64 0)) fun v16 =>
  (h1 = h1 ∧ Q13 v16)) fun v17 =>
  aMerge false v17 (fun Q18 =>
  aFieldAddr 0 v0 fun v19 =>
  aLoad false 1 v19 h1 fun v20 =>
  aBin false false .neq v20 (.p (.int .i64 2)) fun v21 =>
  aMerge true v21 (fun Q22 =>
  aFieldAddr 2 v0 fun v23 =>
  aLoad false 1 v23 h1 fun v24 =>
  (h1 = h1 ∧ Q22 v24)) fun v25 =>
  (h1 = h1 ∧ Q18 v25)) fun v26 =>
  aMerge false v26 (fun Q27 =>
  aFieldAddr 0 v0 fun v28 =>
  aLoad false 1 v28 h1 fun v29 =>
  aBin false false .neq v29 (.p (.int .i64 3)) fun v30 =>
  aMerge true v30 (fun Q31 =>
  aFieldAddr 3 v0 fun v32 =>
  aLoad false 1 v32 h1 fun v33 =>
  aBin false false .neq v33 (.p (.str [])) fun v34 =>
  (h1 = h1 ∧ Q31 v34)) fun v35 =>
  (h1 = h1 ∧ Q27 v35)) fun v36 =>
  aMerge false v36 (fun Q37 =>
  aFieldAddr 0 v0 fun v38 =>
  aLoad false 1 v38 h1 fun v39 =>
  aBin false false .neq v39 (.p (.int .i64 4)) fun v40 =>
  aMerge true v40 (fun Q41 =>
  aFieldAddr 4 v0 fun v42 =>
  aLoad false 1 v42 h1 fun v43 =>
  aLenS false v43 fun v44 =>
  aBin false false .gtr v44 (.p (.int .i64 0)) fun v45 =>
  (h1 = h1 ∧ Q41 v45)) fun v46 =>
  (h1 = h1 ∧ Q37 v46)) fun v47 =>
  aGuard v47
  (K (.p (.int .i64 2)) h1)
  (aFieldAddr 3 v0 fun v48 =>
  aLoad false 1 v48 h1 fun v49 =>
  aLen false true v49 fun v50 =>
  aBin false false .gtr v50 (.p (.int .i64 255)) fun v51 =>
  aGuard v51
  (K (.p (.int .i64 4)) h1)
  (aFieldAddr 0 v0 fun v52 =>
  aLoad false 1 v52 h1 fun v53 =>
  aBin false false .neq v53 (.p (.int .i64 4)) fun v54 =>
  aGuard v54
  (K (.p (.int .i64 0)) h1)
  (aFieldAddr 4 v0 fun v55 =>
  aLoad false 1 v55 h1 fun v56 =>
  aLen false false v56 fun v57 =>
  aBin false false .eql v57 (.p (.int .i64 0)) fun v58 =>
  aGuard v58
  (K (.p (.int .i64 1)) h1)
  (aFieldAddr 4 v0 fun v59 =>
  aLoad false 1 v59 h1 fun v60 =>
  aLen false false v60 fun v61 =>
  aBin false false .gtr v61 (.p (.int .i64 8)) fun v62 =>
  aGuard v62
  (K (.p (.int .i64 10)) h1)
  (aBin false false .gtr x1 (.p (.int .i64 4)) fun v63 =>
  aGuard v63
  (K (.p (.int .i64 9)) h1)
  (aLoopN 1 [(.p (.int .i64 0))] h1 fun xs H B1 => runnelref6_checkValue_L1 x1 v0 (xs.getD 0 .top) H B1 K)))))))

def runnelref6_checkValue_ann : Nat → List Nat := fun k => match k with | 16 => [5] | _ => []

theorem runnelref6_checkValue_eq (x0 x1 : AV) (H : List Ob) (r : AV) (Ho : List Ob) : aBody Tryz.prog runnelref6_checkValue_ann Tryz.f126 H [x0, x1] r Ho = runnelref6_checkValue x0 x1 H (fun v H' => Gives H.length v H' r Ho) := by kernel_rfl

theorem runnelref6_checkValue_fn {x0 x1 : AV} {r : AV} {Ho : List Ob} (h : runnelref6_checkValue x0 x1 [] (fun v H' => Gives 0 v H' r Ho)) : Abs.Fn Tryz.prog runnelref6_checkValue_i [] [x0, x1] r Ho :=
  fn_intro mixed runnelref6_checkValue_ann (fn := Tryz.f126) (by kernel_rfl) (by kernel_rfl) (by rw [runnelref6_checkValue_eq]; exact h)

/- runnel/runnellaw2.Few -/
def runnellaw2_Few (x0 : AV) (H : List Ob) (K : AV → List Ob → Prop) : Prop :=
  aBox x0 H fun v0 h1 =>
  aLoad true 5 v0 h1 fun v2 =>
  aCall Tryz.prog (.p (.func runnellaw2_budget_i [])) [v2, (.p (.int .i64 12)), (.p (.int .i64 300))] h1 fun v3 h4 =>
  aBin false false .gtr v3 (.p (.int .i64 0)) fun v5 =>
  K v5 h4

def runnellaw2_Few_ann : Nat → List Nat := fun _ => []

theorem runnellaw2_Few_eq (x0 : AV) (H : List Ob) (r : AV) (Ho : List Ob) : aBody Tryz.prog runnellaw2_Few_ann Tryz.f132 H [x0] r Ho = runnellaw2_Few x0 H (fun v H' => Gives H.length v H' r Ho) := by kernel_rfl

theorem runnellaw2_Few_fn {x0 : AV} {r : AV} {Ho : List Ob} (h : runnellaw2_Few x0 [] (fun v H' => Gives 0 v H' r Ho)) : Abs.Fn Tryz.prog runnellaw2_Few_i [] [x0] r Ho :=
  fn_intro mixed runnellaw2_Few_ann (fn := Tryz.f132) (by kernel_rfl) (by kernel_rfl) (by rw [runnellaw2_Few_eq]; exact h)

/- runnel/val.Same -/
def val_Same (x0 x1 : AV) (H : List Ob) (K : AV → List Ob → Prop) : Prop :=
  aBox x0 H fun v0 h1 =>
  aBox x1 h1 fun v2 h3 =>
  aLoad true 5 v0 h3 fun v4 =>
  aLoad true 5 v2 h3 fun v5 =>
  aCall Tryz.prog (.p (.func val_Compare_i [])) [v4, v5] h3 fun v6 h7 =>
  aBin false false .eql v6 (.p (.int .i64 0)) fun v8 =>
  K v8 h7

def val_Same_ann : Nat → List Nat := fun _ => []

theorem val_Same_eq (x0 x1 : AV) (H : List Ob) (r : AV) (Ho : List Ob) : aBody Tryz.prog val_Same_ann Tryz.f139 H [x0, x1] r Ho = val_Same x0 x1 H (fun v H' => Gives H.length v H' r Ho) := by kernel_rfl

theorem val_Same_fn {x0 x1 : AV} {r : AV} {Ho : List Ob} (h : val_Same x0 x1 [] (fun v H' => Gives 0 v H' r Ho)) : Abs.Fn Tryz.prog val_Same_i [] [x0, x1] r Ho :=
  fn_intro mixed val_Same_ann (fn := Tryz.f139) (by kernel_rfl) (by kernel_rfl) (by rw [val_Same_eq]; exact h)

/- runnel/val.spare -/
def val_spare (x0 : AV) (H : List Ob) (K : AV → List Ob → Prop) : Prop :=
  aBox x0 H fun v0 h1 =>
  aFieldAddr 0 v0 fun v2 =>
  aLoad false 1 v2 h1 fun v3 =>
  aBin false false .neq v3 (.p (.int .i64 1)) fun v4 =>
  aMerge true v4 (fun Q5 =>
  aFieldAddr 1 v0 fun v6 =>
  aLoad false 1 v6 h1 fun v7 =>
  aBin false false .neq v7 (.p (.int .i64 0)) fun v8 =>
  (h1 = h1 ∧ Q5 v8)) fun v9 =>
  aMerge false v9 (fun Q10 =>
  aFieldAddr 0 v0 fun v11 =>
  aLoad false 1 v11 h1 fun v12 =>
  aBin false false .neq v12 (.p (.int .i64 2)) fun v13 =>
  aMerge true v13 (fun Q14 =>
  aFieldAddr 2 v0 fun v15 =>
  aLoad false 1 v15 h1 fun v16 =>
  (h1 = h1 ∧ Q14 v16)) fun v17 =>
  (h1 = h1 ∧ Q10 v17)) fun v18 =>
  aMerge false v18 (fun Q19 =>
  aFieldAddr 0 v0 fun v20 =>
  aLoad false 1 v20 h1 fun v21 =>
  aBin false false .neq v21 (.p (.int .i64 3)) fun v22 =>
  aMerge true v22 (fun Q23 =>
  aFieldAddr 3 v0 fun v24 =>
  aLoad false 1 v24 h1 fun v25 =>
  aBin false false .neq v25 (.p (.str [])) fun v26 =>
  (h1 = h1 ∧ Q23 v26)) fun v27 =>
  (h1 = h1 ∧ Q19 v27)) fun v28 =>
  aMerge false v28 (fun Q29 =>
  aFieldAddr 0 v0 fun v30 =>
  aLoad false 1 v30 h1 fun v31 =>
  aBin false false .neq v31 (.p (.int .i64 4)) fun v32 =>
  aMerge true v32 (fun Q33 =>
  aFieldAddr 4 v0 fun v34 =>
  aLoad false 1 v34 h1 fun v35 =>
  aLenS false v35 fun v36 =>
  aBin false false .gtr v36 (.p (.int .i64 0)) fun v37 =>
  (h1 = h1 ∧ Q33 v37)) fun v38 =>
  (h1 = h1 ∧ Q29 v38)) fun v39 =>
  K v39 h1

def val_spare_ann : Nat → List Nat := fun _ => []

theorem val_spare_eq (x0 : AV) (H : List Ob) (r : AV) (Ho : List Ob) : aBody Tryz.prog val_spare_ann Tryz.f140 H [x0] r Ho = val_spare x0 H (fun v H' => Gives H.length v H' r Ho) := by kernel_rfl

theorem val_spare_fn {x0 : AV} {r : AV} {Ho : List Ob} (h : val_spare x0 [] (fun v H' => Gives 0 v H' r Ho)) : Abs.Fn Tryz.prog val_spare_i [] [x0] r Ho :=
  fn_intro mixed val_spare_ann (fn := Tryz.f140) (by kernel_rfl) (by kernel_rfl) (by rw [val_spare_eq]; exact h)

/- runnel/val.kind -/
def val_kind_L1 (q1s2 q1s3 q1s10 q1s11 y0 : AV) (H : List Ob) (B1 : List AV → List Ob → Prop) (K : AV → List Ob → Prop) : Prop :=
  aBin false false .lss y0 q1s11 fun v14 =>
  aGuard v14
  (aIndexAddr 5 q1s10 y0 fun v15 =>
  aLoad true 5 v15 H fun v16 =>
  aAlloc [(.p (.int .i64 0)), (.p (.int .i64 0)), (.p (.bool false)), (.p (.str [])), (.full [])] H fun v17 h18 =>
  aStore 5 v17 v16 h18 fun _ h20 =>
  aFieldAddr 1 q1s3 fun v21 =>
  aLoad false 1 v21 h20 fun v22 =>
  aLoad true 5 v17 h20 fun v23 =>
  aCallT Tryz.prog (.p (.func val_kind_i [])) [v23] fun v24 =>
  aBuildSlice 2 [v24] fun v25 =>
  aCalm [v22, v25] <|
  aAppend false 2 32 v22 v25 h20 fun v26 h27 =>
  aFieldAddr 1 q1s3 fun v28 =>
  aStore 1 v28 v26 h27 fun _ h30 =>
  aBin false false .add y0 (.p (.int .i64 1)) fun v31 =>
  B1 [v31] h30)
  (aLoad true 2 q1s3 H fun v32 =>
  aStore 2 q1s2 v32 H fun _ h34 =>
  aLoad true 2 q1s2 h34 fun v35 =>
  K v35 h34)

def val_kind (x0 : AV) (H : List Ob) (K : AV → List Ob → Prop) : Prop :=
  aBox x0 H fun v0 h1 =>
  aAlloc [(.p (.int .i64 0)), (.full [])] h1 fun v2 h3 =>
  aFieldAddr 0 v0 fun v4 =>
  aLoad false 1 v4 h3 fun v5 =>
  aBuild [(.p (.int .i64 0)), (.full [])] [(0, 1, v5)] fun v6 =>
  aAlloc [(.p (.int .i64 0)), (.full [])] h3 fun v7 h8 =>
  aStore 2 v7 v6 h8 fun _ h10 =>
  aFieldAddr 4 v0 fun v11 =>
  aLoad false 1 v11 h10 fun v12 =>
  aLen false false v12 fun v13 =>
  aLoopN 1 [(.p (.int .i64 0))] h10 fun xs H B1 => val_kind_L1 v2 v7 v12 v13 (xs.getD 0 .top) H B1 K

def val_kind_ann : Nat → List Nat := fun k => match k with | 3 => [12] | _ => []

theorem val_kind_eq (x0 : AV) (H : List Ob) (r : AV) (Ho : List Ob) : aBody Tryz.prog val_kind_ann Tryz.f142 H [x0] r Ho = val_kind x0 H (fun v H' => Gives H.length v H' r Ho) := by kernel_rfl

theorem val_kind_fn {x0 : AV} {r : AV} {Ho : List Ob} (h : val_kind x0 [] (fun v H' => Gives 0 v H' r Ho)) : Abs.Fn Tryz.prog val_kind_i [] [x0] r Ho :=
  fn_intro mixed val_kind_ann (fn := Tryz.f142) (by kernel_rfl) (by kernel_rfl) (by rw [val_kind_eq]; exact h)

/- runnel/runnellaw2.budget -/
def runnellaw2_budget_L1 (q1s1 q1s3 y0 y1 : AV) (H : List Ob) (B1 : List AV → List Ob → Prop) (K : AV → List Ob → Prop) : Prop :=
  aFieldAddr 4 q1s3 fun v19 =>
  aLoad false 1 v19 H fun v20 =>
  aLen false false v20 fun v21 =>
  aBin false false .lss y1 v21 fun v22 =>
  aMerge true v22 (fun Q23 =>
  aBin false false .gtr y0 (.p (.int .i64 0)) fun v24 =>
  (H = H ∧ Q23 v24)) fun v25 =>
  aGuard v25
  (aFieldAddr 4 q1s3 fun v26 =>
  aLoad false 1 v26 H fun v27 =>
  aIndexAddr 5 v27 y1 fun v28 =>
  aLoad true 5 v28 H fun v29 =>
  aBin false false .sub q1s1 (.p (.int .i64 1)) fun v30 =>
  aCall Tryz.prog (.p (.func runnellaw2_budget_i [])) [v29, v30, y0] H fun v31 h32 =>
  aBin false false .add y1 (.p (.int .i64 1)) fun v33 =>
  B1 [v31, v33] h32)
  (K y0 H)

def runnellaw2_budget (x0 x1 x2 : AV) (H : List Ob) (K : AV → List Ob → Prop) : Prop :=
  aBox x0 H fun v0 h1 =>
  aBin false false .leq x2 (.p (.int .i64 0)) fun v2 =>
  aMerge false v2 (fun Q3 =>
  aBin false false .leq x1 (.p (.int .i64 0)) fun v4 =>
  (h1 = h1 ∧ Q3 v4)) fun v5 =>
  aMerge false v5 (fun Q6 =>
  aFieldAddr 4 v0 fun v7 =>
  aLoad false 1 v7 h1 fun v8 =>
  aLenS false v8 fun v9 =>
  aBin false false .gtr v9 (.p (.int .i64 20)) fun v10 =>
  (h1 = h1 ∧ Q6 v10)) fun v11 =>
  aMerge false v11 (fun Q12 =>
  aFieldAddr 3 v0 fun v13 =>
  aLoad false 1 v13 h1 fun v14 =>
  aLenS true v14 fun v15 =>
  aBin false false .gtr v15 (.p (.int .i64 300)) fun v16 =>
  (h1 = h1 ∧ Q12 v16)) fun v17 =>
  aGuard v17
  (K (.p (.int .i64 0)) h1)
  (aBin false false .sub x2 (.p (.int .i64 1)) fun v18 =>
  aLoopN 2 [v18, (.p (.int .i64 0))] h1 fun xs H B1 => runnellaw2_budget_L1 x1 v0 (xs.getD 0 .top) (xs.getD 1 .top) H B1 K)

def runnellaw2_budget_ann : Nat → List Nat := fun k => match k with | 5 => [2, 7] | _ => []

theorem runnellaw2_budget_eq (x0 x1 x2 : AV) (H : List Ob) (r : AV) (Ho : List Ob) : aBody Tryz.prog runnellaw2_budget_ann Tryz.f143 H [x0, x1, x2] r Ho = runnellaw2_budget x0 x1 x2 H (fun v H' => Gives H.length v H' r Ho) := by kernel_rfl

theorem runnellaw2_budget_fn {x0 x1 x2 : AV} {r : AV} {Ho : List Ob} (h : runnellaw2_budget x0 x1 x2 [] (fun v H' => Gives 0 v H' r Ho)) : Abs.Fn Tryz.prog runnellaw2_budget_i [] [x0, x1, x2] r Ho :=
  fn_intro mixed runnellaw2_budget_ann (fn := Tryz.f143) (by kernel_rfl) (by kernel_rfl) (by rw [runnellaw2_budget_eq]; exact h)

/- runnel/val.Compare -/
def val_Compare (x0 x1 : AV) (H : List Ob) (K : AV → List Ob → Prop) : Prop :=
  aBox x0 H fun v0 h1 =>
  aBox x1 h1 fun v2 h3 =>
  aFieldAddr 0 v0 fun v4 =>
  aLoad false 1 v4 h3 fun v5 =>
  aFieldAddr 0 v2 fun v6 =>
  aLoad false 1 v6 h3 fun v7 =>
  aCallT Tryz.prog (.p (.func cmp_Compare_int_i [])) [v5, v7] fun v8 =>
  aFieldAddr 1 v0 fun v9 =>
  aLoad false 1 v9 h3 fun v10 =>
  aFieldAddr 1 v2 fun v11 =>
  aLoad false 1 v11 h3 fun v12 =>
  aCallT Tryz.prog (.p (.func cmp_Compare_int64_i [])) [v10, v12] fun v13 =>
  aFieldAddr 2 v0 fun v14 =>
  aLoad false 1 v14 h3 fun v15 =>
  aCallT Tryz.prog (.p (.func val_truth_i [])) [v15] fun v16 =>
  aFieldAddr 2 v2 fun v17 =>
  aLoad false 1 v17 h3 fun v18 =>
  aCallT Tryz.prog (.p (.func val_truth_i [])) [v18] fun v19 =>
  aCallT Tryz.prog (.p (.func cmp_Compare_int_i [])) [v16, v19] fun v20 =>
  aFieldAddr 3 v0 fun v21 =>
  aLoad false 1 v21 h3 fun v22 =>
  aFieldAddr 3 v2 fun v23 =>
  aLoad false 1 v23 h3 fun v24 =>
  aCallT Tryz.prog (.p (.func strings_Compare_i [])) [v22, v24] fun v25 =>
  aBuildSlice 1 [v8, v13, v20, v25] fun v26 =>
  aCallT Tryz.prog (.p (.func cmp_Or_int_i [])) [v26] fun v27 =>
  aBin false false .neq v27 (.p (.int .i64 0)) fun v28 =>
  aGuard v28
  (K v27 h3)
  (aFieldAddr 4 v0 fun v29 =>
  aLoad false 1 v29 h3 fun v30 =>
  aFieldAddr 4 v2 fun v31 =>
  aLoad false 1 v31 h3 fun v32 =>
  aCall Tryz.prog (.p (.func val_rows_val_Value_i [])) [v30, v32, (.p (.func val_Compare_i []))] h3 fun v33 h34 =>
  K v33 h34)

def val_Compare_ann : Nat → List Nat := fun _ => []

theorem val_Compare_eq (x0 x1 : AV) (H : List Ob) (r : AV) (Ho : List Ob) : aBody Tryz.prog val_Compare_ann Tryz.f146 H [x0, x1] r Ho = val_Compare x0 x1 H (fun v H' => Gives H.length v H' r Ho) := by kernel_rfl

theorem val_Compare_fn {x0 x1 : AV} {r : AV} {Ho : List Ob} (h : val_Compare x0 x1 [] (fun v H' => Gives 0 v H' r Ho)) : Abs.Fn Tryz.prog val_Compare_i [] [x0, x1] r Ho :=
  fn_intro mixed val_Compare_ann (fn := Tryz.f146) (by kernel_rfl) (by kernel_rfl) (by rw [val_Compare_eq]; exact h)

/- cmp.Or[int] -/
def cmp_Or_int_L1 (q1s3 q1s6 q1s7 y0 : AV) (H : List Ob) (B1 : List AV → List Ob → Prop) (K : AV → List Ob → Prop) : Prop :=
  aBin false false .lss y0 q1s7 fun v1 =>
  aGuard v1
  (aIndexAddr 1 q1s6 y0 fun v2 =>
  aLoad false 1 v2 H fun v3 =>
  aBin false false .neq v3 q1s3 fun v4 =>
  aGuard v4
  (K v3 H)
  (aBin false false .add y0 (.p (.int .i64 1)) fun v5 =>
  B1 [v5] H))
  (K q1s3 H)

def cmp_Or_int (x0 : AV) (H : List Ob) (K : AV → List Ob → Prop) : Prop :=
  aLen false false x0 fun v0 =>
  aLoopN 1 [(.p (.int .i64 0))] H fun xs H B1 => cmp_Or_int_L1 (.p (.int .i64 0)) x0 v0 (xs.getD 0 .top) H B1 K

def cmp_Or_int_ann : Nat → List Nat := fun k => match k with | 3 => [8] | _ => []

theorem cmp_Or_int_eq (x0 : AV) (H : List Ob) (r : AV) (Ho : List Ob) : aBody Tryz.prog cmp_Or_int_ann Tryz.f147 H [x0] r Ho = cmp_Or_int x0 H (fun v H' => Gives H.length v H' r Ho) := by kernel_rfl

theorem cmp_Or_int_fn {x0 : AV} {r : AV} {Ho : List Ob} (h : cmp_Or_int x0 [] (fun v H' => Gives 0 v H' r Ho)) : Abs.Fn Tryz.prog cmp_Or_int_i [] [x0] r Ho :=
  fn_intro mixed cmp_Or_int_ann (fn := Tryz.f147) (by kernel_rfl) (by kernel_rfl) (by rw [cmp_Or_int_eq]; exact h)

/- cmp.Compare[int] -/
def cmp_Compare_int (x0 x1 : AV) (H : List Ob) (K : AV → List Ob → Prop) : Prop :=
  aCall Tryz.prog (.p (.func cmp_isNaN_int_i [])) [x0] H fun v0 h1 =>
  aCall Tryz.prog (.p (.func cmp_isNaN_int_i [])) [x1] h1 fun v2 h3 =>
  aGuard v0
  (aGuard v2
  (K (.p (.int .i64 0)) h3)
  (K (.p (.int .i64 (-1))) h3))
  (aGuard v2
  (K (.p (.int .i64 1)) h3)
  (aBin false false .lss x0 x1 fun v4 =>
  aGuard v4
  (K (.p (.int .i64 (-1))) h3)
  (aBin false false .gtr x0 x1 fun v5 =>
  aGuard v5
  (K (.p (.int .i64 1)) h3)
  (K (.p (.int .i64 0)) h3))))

def cmp_Compare_int_ann : Nat → List Nat := fun _ => []

theorem cmp_Compare_int_eq (x0 x1 : AV) (H : List Ob) (r : AV) (Ho : List Ob) : aBody Tryz.prog cmp_Compare_int_ann Tryz.f148 H [x0, x1] r Ho = cmp_Compare_int x0 x1 H (fun v H' => Gives H.length v H' r Ho) := by kernel_rfl

theorem cmp_Compare_int_fn {x0 x1 : AV} {r : AV} {Ho : List Ob} (h : cmp_Compare_int x0 x1 [] (fun v H' => Gives 0 v H' r Ho)) : Abs.Fn Tryz.prog cmp_Compare_int_i [] [x0, x1] r Ho :=
  fn_intro mixed cmp_Compare_int_ann (fn := Tryz.f148) (by kernel_rfl) (by kernel_rfl) (by rw [cmp_Compare_int_eq]; exact h)

/- cmp.Compare[int64] -/
def cmp_Compare_int64 (x0 x1 : AV) (H : List Ob) (K : AV → List Ob → Prop) : Prop :=
  aCall Tryz.prog (.p (.func cmp_isNaN_int64_i [])) [x0] H fun v0 h1 =>
  aCall Tryz.prog (.p (.func cmp_isNaN_int64_i [])) [x1] h1 fun v2 h3 =>
  aGuard v0
  (aGuard v2
  (K (.p (.int .i64 0)) h3)
  (K (.p (.int .i64 (-1))) h3))
  (aGuard v2
  (K (.p (.int .i64 1)) h3)
  (aBin false false .lss x0 x1 fun v4 =>
  aGuard v4
  (K (.p (.int .i64 (-1))) h3)
  (aBin false false .gtr x0 x1 fun v5 =>
  aGuard v5
  (K (.p (.int .i64 1)) h3)
  (K (.p (.int .i64 0)) h3))))

def cmp_Compare_int64_ann : Nat → List Nat := fun _ => []

theorem cmp_Compare_int64_eq (x0 x1 : AV) (H : List Ob) (r : AV) (Ho : List Ob) : aBody Tryz.prog cmp_Compare_int64_ann Tryz.f149 H [x0, x1] r Ho = cmp_Compare_int64 x0 x1 H (fun v H' => Gives H.length v H' r Ho) := by kernel_rfl

theorem cmp_Compare_int64_fn {x0 x1 : AV} {r : AV} {Ho : List Ob} (h : cmp_Compare_int64 x0 x1 [] (fun v H' => Gives 0 v H' r Ho)) : Abs.Fn Tryz.prog cmp_Compare_int64_i [] [x0, x1] r Ho :=
  fn_intro mixed cmp_Compare_int64_ann (fn := Tryz.f149) (by kernel_rfl) (by kernel_rfl) (by rw [cmp_Compare_int64_eq]; exact h)

/- runnel/val.truth -/
def val_truth (x0 : AV) (H : List Ob) (K : AV → List Ob → Prop) : Prop :=
  aGuard x0
  (K (.p (.int .i64 1)) H)
  (K (.p (.int .i64 0)) H)

def val_truth_ann : Nat → List Nat := fun _ => []

theorem val_truth_eq (x0 : AV) (H : List Ob) (r : AV) (Ho : List Ob) : aBody Tryz.prog val_truth_ann Tryz.f150 H [x0] r Ho = val_truth x0 H (fun v H' => Gives H.length v H' r Ho) := by kernel_rfl

theorem val_truth_fn {x0 : AV} {r : AV} {Ho : List Ob} (h : val_truth x0 [] (fun v H' => Gives 0 v H' r Ho)) : Abs.Fn Tryz.prog val_truth_i [] [x0] r Ho :=
  fn_intro mixed val_truth_ann (fn := Tryz.f150) (by kernel_rfl) (by kernel_rfl) (by rw [val_truth_eq]; exact h)

/- strings.Compare -/
def strings_Compare (x0 x1 : AV) (H : List Ob) (K : AV → List Ob → Prop) : Prop :=
  aCall Tryz.prog (.p (.func internal_bytealg_CompareString_i [])) [x0, x1] H fun v0 h1 =>
  K v0 h1

def strings_Compare_ann : Nat → List Nat := fun _ => []

theorem strings_Compare_eq (x0 x1 : AV) (H : List Ob) (r : AV) (Ho : List Ob) : aBody Tryz.prog strings_Compare_ann Tryz.f151 H [x0, x1] r Ho = strings_Compare x0 x1 H (fun v H' => Gives H.length v H' r Ho) := by kernel_rfl

theorem strings_Compare_fn {x0 x1 : AV} {r : AV} {Ho : List Ob} (h : strings_Compare x0 x1 [] (fun v H' => Gives 0 v H' r Ho)) : Abs.Fn Tryz.prog strings_Compare_i [] [x0, x1] r Ho :=
  fn_intro mixed strings_Compare_ann (fn := Tryz.f151) (by kernel_rfl) (by kernel_rfl) (by rw [strings_Compare_eq]; exact h)

/- runnel/val.rows[runnel/val.Value] -/
def val_rows_val_Value (x0 x1 x2 : AV) (H : List Ob) (K : AV → List Ob → Prop) : Prop :=
  aCall Tryz.prog (.p (.func slices_CompareFunc_val_Value_val_Value_val_Value_val_Value_i [])) [x0, x1, x2] H fun v0 h1 =>
  K v0 h1

def val_rows_val_Value_ann : Nat → List Nat := fun _ => []

theorem val_rows_val_Value_eq (x0 x1 x2 : AV) (H : List Ob) (r : AV) (Ho : List Ob) : aBody Tryz.prog val_rows_val_Value_ann Tryz.f152 H [x0, x1, x2] r Ho = val_rows_val_Value x0 x1 x2 H (fun v H' => Gives H.length v H' r Ho) := by kernel_rfl

theorem val_rows_val_Value_fn {x0 x1 x2 : AV} {r : AV} {Ho : List Ob} (h : val_rows_val_Value x0 x1 x2 [] (fun v H' => Gives 0 v H' r Ho)) : Abs.Fn Tryz.prog val_rows_val_Value_i [] [x0, x1, x2] r Ho :=
  fn_intro mixed val_rows_val_Value_ann (fn := Tryz.f152) (by kernel_rfl) (by kernel_rfl) (by rw [val_rows_val_Value_eq]; exact h)

/- cmp.isNaN[int] -/
def cmp_isNaN_int (x0 : AV) (H : List Ob) (K : AV → List Ob → Prop) : Prop :=
  aBin false false .neq x0 x0 fun v0 =>
  K v0 H

def cmp_isNaN_int_ann : Nat → List Nat := fun _ => []

theorem cmp_isNaN_int_eq (x0 : AV) (H : List Ob) (r : AV) (Ho : List Ob) : aBody Tryz.prog cmp_isNaN_int_ann Tryz.f153 H [x0] r Ho = cmp_isNaN_int x0 H (fun v H' => Gives H.length v H' r Ho) := by kernel_rfl

theorem cmp_isNaN_int_fn {x0 : AV} {r : AV} {Ho : List Ob} (h : cmp_isNaN_int x0 [] (fun v H' => Gives 0 v H' r Ho)) : Abs.Fn Tryz.prog cmp_isNaN_int_i [] [x0] r Ho :=
  fn_intro mixed cmp_isNaN_int_ann (fn := Tryz.f153) (by kernel_rfl) (by kernel_rfl) (by rw [cmp_isNaN_int_eq]; exact h)

/- cmp.isNaN[int64] -/
def cmp_isNaN_int64 (x0 : AV) (H : List Ob) (K : AV → List Ob → Prop) : Prop :=
  aBin false false .neq x0 x0 fun v0 =>
  K v0 H

def cmp_isNaN_int64_ann : Nat → List Nat := fun _ => []

theorem cmp_isNaN_int64_eq (x0 : AV) (H : List Ob) (r : AV) (Ho : List Ob) : aBody Tryz.prog cmp_isNaN_int64_ann Tryz.f154 H [x0] r Ho = cmp_isNaN_int64 x0 H (fun v H' => Gives H.length v H' r Ho) := by kernel_rfl

theorem cmp_isNaN_int64_fn {x0 : AV} {r : AV} {Ho : List Ob} (h : cmp_isNaN_int64 x0 [] (fun v H' => Gives 0 v H' r Ho)) : Abs.Fn Tryz.prog cmp_isNaN_int64_i [] [x0] r Ho :=
  fn_intro mixed cmp_isNaN_int64_ann (fn := Tryz.f154) (by kernel_rfl) (by kernel_rfl) (by rw [cmp_isNaN_int64_eq]; exact h)

/- slices.CompareFunc[[]runnel/val.Value,[]runnel/val.Value,runnel/val.Value,runnel/val.Value] -/
def slices_CompareFunc_val_Value_val_Value_val_Value_val_Value_L1 (q1s0 q1s1 q1s2 q1s11 q1s12 y0 : AV) (H : List Ob) (B1 : List AV → List Ob → Prop) (K : AV → List Ob → Prop) : Prop :=
  aBin false false .lss y0 q1s12 fun v1 =>
  aGuard v1
  (aIndexAddr 5 q1s11 y0 fun v2 =>
  aLoad true 5 v2 H fun v3 =>
  aAlloc [(.p (.int .i64 0)), (.p (.int .i64 0)), (.p (.bool false)), (.p (.str [])), (.full [])] H fun v4 h5 =>
  aStore 5 v4 v3 h5 fun _ h7 =>
  aLen false false q1s1 fun v8 =>
  aBin false false .geq y0 v8 fun v9 =>
  aGuard v9
  (K (.p (.int .i64 1)) h7)
  (aIndexAddr 5 q1s1 y0 fun v10 =>
  aLoad true 5 v10 h7 fun v11 =>
  aAlloc [(.p (.int .i64 0)), (.p (.int .i64 0)), (.p (.bool false)), (.p (.str [])), (.full [])] h7 fun v12 h13 =>
  aStore 5 v12 v11 h13 fun _ h15 =>
  aLoad true 5 v4 h15 fun v16 =>
  aLoad true 5 v12 h15 fun v17 =>
  aCall Tryz.prog q1s2 [v16, v17] h15 fun v18 h19 =>
  aBin false false .neq v18 (.p (.int .i64 0)) fun v20 =>
  aGuard v20
  (K v18 h19)
  (aBin false false .add y0 (.p (.int .i64 1)) fun v21 =>
  B1 [v21] h19)))
  (aLen false false q1s0 fun v22 =>
  aLen false false q1s1 fun v23 =>
  aBin false false .lss v22 v23 fun v24 =>
  aGuard v24
  (K (.p (.int .i64 (-1))) H)
  (K (.p (.int .i64 0)) H))

def slices_CompareFunc_val_Value_val_Value_val_Value_val_Value (x0 x1 x2 : AV) (H : List Ob) (K : AV → List Ob → Prop) : Prop :=
  aLen false false x0 fun v0 =>
  aLoopN 1 [(.p (.int .i64 0))] H fun xs H B1 => slices_CompareFunc_val_Value_val_Value_val_Value_val_Value_L1 x0 x1 x2 x0 v0 (xs.getD 0 .top) H B1 K

def slices_CompareFunc_val_Value_val_Value_val_Value_val_Value_ann : Nat → List Nat := fun k => match k with | 2 => [13] | _ => []

theorem slices_CompareFunc_val_Value_val_Value_val_Value_val_Value_eq (x0 x1 x2 : AV) (H : List Ob) (r : AV) (Ho : List Ob) : aBody Tryz.prog slices_CompareFunc_val_Value_val_Value_val_Value_val_Value_ann Tryz.f156 H [x0, x1, x2] r Ho = slices_CompareFunc_val_Value_val_Value_val_Value_val_Value x0 x1 x2 H (fun v H' => Gives H.length v H' r Ho) := by kernel_rfl

theorem slices_CompareFunc_val_Value_val_Value_val_Value_val_Value_fn {x0 x1 x2 : AV} {r : AV} {Ho : List Ob} (h : slices_CompareFunc_val_Value_val_Value_val_Value_val_Value x0 x1 x2 [] (fun v H' => Gives 0 v H' r Ho)) : Abs.Fn Tryz.prog slices_CompareFunc_val_Value_val_Value_val_Value_val_Value_i [] [x0, x1, x2] r Ho :=
  fn_intro mixed slices_CompareFunc_val_Value_val_Value_val_Value_val_Value_ann (fn := Tryz.f156) (by kernel_rfl) (by kernel_rfl) (by rw [slices_CompareFunc_val_Value_val_Value_val_Value_val_Value_eq]; exact h)

end Go.Proofs.YtijnpcociedigaaGreatDoor
end

section
/- Made by program (Gen.lean): functions of the dump, over trees. -/
set_option maxRecDepth 4000
set_option linter.unusedVariables false
namespace Go.Proofs.YtijnpcociedigaaGreatDoor
open Go Go.Abs

/- runnel/runnellaw4.Op -/
def runnellaw4_Op (x0 x1 : AV) (H : List Ob) (K : AV → List Ob → Prop) : Prop :=
  aAlloc [(.p (.str [])), (.p (.int .i64 0)), (.p (.int .i64 0)), (.p (.bool false)), (.p (.str [])), (.full []), (.p (.int .i64 0)), (.full [])] H fun v0 h1 =>
  aBuild [(.p (.str [])), (.p (.int .i64 0)), (.p (.int .i64 0)), (.p (.bool false)), (.p (.str [])), (.full []), (.p (.int .i64 0)), (.full [])] [(0, 1, x0), (7, 1, x1)] fun v2 =>
  aStore 8 v0 v2 h1 fun _ h4 =>
  aLoad true 8 v0 h4 fun v5 =>
  K v5 h4

def runnellaw4_Op_ann : Nat → List Nat := fun _ => []

theorem runnellaw4_Op_eq (x0 x1 : AV) (H : List Ob) (r : AV) (Ho : List Ob) : aBody Tryz.prog runnellaw4_Op_ann Tryz.f15 H [x0, x1] r Ho = runnellaw4_Op x0 x1 H (fun v H' => Gives H.length v H' r Ho) := by kernel_rfl

theorem runnellaw4_Op_fn {x0 x1 : AV} {r : AV} {Ho : List Ob} (h : runnellaw4_Op x0 x1 [] (fun v H' => Gives 0 v H' r Ho)) : Abs.Fn Tryz.prog runnellaw4_Op_i [] [x0, x1] r Ho :=
  fn_intro mixed runnellaw4_Op_ann (fn := Tryz.f15) (by kernel_rfl) (by kernel_rfl) (by rw [runnellaw4_Op_eq]; exact h)

/- runnel/runnellaw4.X -/
def runnellaw4_X (H : List Ob) (K : AV → List Ob → Prop) : Prop :=
  aAlloc [(.p (.str [])), (.p (.int .i64 0)), (.p (.int .i64 0)), (.p (.bool false)), (.p (.str [])), (.full []), (.p (.int .i64 0)), (.full [])] H fun v0 h1 =>
  aBuild [(.p (.str [])), (.p (.int .i64 0)), (.p (.int .i64 0)), (.p (.bool false)), (.p (.str [])), (.full []), (.p (.int .i64 0)), (.full [])] [(0, 1, (.p (.str [120])))] fun v2 =>
  aStore 8 v0 v2 h1 fun _ h4 =>
  aLoad true 8 v0 h4 fun v5 =>
  K v5 h4

def runnellaw4_X_ann : Nat → List Nat := fun _ => []

theorem runnellaw4_X_eq (H : List Ob) (r : AV) (Ho : List Ob) : aBody Tryz.prog runnellaw4_X_ann Tryz.f16 H [] r Ho = runnellaw4_X H (fun v H' => Gives H.length v H' r Ho) := by kernel_rfl

theorem runnellaw4_X_fn {r : AV} {Ho : List Ob} (h : runnellaw4_X [] (fun v H' => Gives 0 v H' r Ho)) : Abs.Fn Tryz.prog runnellaw4_X_i [] [] r Ho :=
  fn_intro mixed runnellaw4_X_ann (fn := Tryz.f16) (by kernel_rfl) (by kernel_rfl) (by rw [runnellaw4_X_eq]; exact h)

/- runnel/runnellaw4.Lit -/
def runnellaw4_Lit (x0 : AV) (H : List Ob) (K : AV → List Ob → Prop) : Prop :=
  aBox x0 H fun v0 h1 =>
  aAlloc [(.p (.str [])), (.p (.int .i64 0)), (.p (.int .i64 0)), (.p (.bool false)), (.p (.str [])), (.full []), (.p (.int .i64 0)), (.full [])] h1 fun v2 h3 =>
  aLoad true 5 v0 h3 fun v4 =>
  aBuild [(.p (.str [])), (.p (.int .i64 0)), (.p (.int .i64 0)), (.p (.bool false)), (.p (.str [])), (.full []), (.p (.int .i64 0)), (.full [])] [(0, 1, (.p (.str [108, 105, 116]))), (1, 5, v4)] fun v5 =>
  aStore 8 v2 v5 h3 fun _ h7 =>
  aLoad true 8 v2 h7 fun v8 =>
  K v8 h7

def runnellaw4_Lit_ann : Nat → List Nat := fun _ => []

theorem runnellaw4_Lit_eq (x0 : AV) (H : List Ob) (r : AV) (Ho : List Ob) : aBody Tryz.prog runnellaw4_Lit_ann Tryz.f17 H [x0] r Ho = runnellaw4_Lit x0 H (fun v H' => Gives H.length v H' r Ho) := by kernel_rfl

theorem runnellaw4_Lit_fn {x0 : AV} {r : AV} {Ho : List Ob} (h : runnellaw4_Lit x0 [] (fun v H' => Gives 0 v H' r Ho)) : Abs.Fn Tryz.prog runnellaw4_Lit_i [] [x0] r Ho :=
  fn_intro mixed runnellaw4_Lit_ann (fn := Tryz.f17) (by kernel_rfl) (by kernel_rfl) (by rw [runnellaw4_Lit_eq]; exact h)

/- runnel/expr.Check -/
def expr_Check (x0 x1 : AV) (H : List Ob) (K : AV → List Ob → Prop) : Prop :=
  aBox x0 H fun v0 h1 =>
  aBox x1 h1 fun v2 h3 =>
  aAlloc [(.p (.int .i64 0)), (.full [])] h3 fun v4 h5 =>
  aLoad true 2 v2 h5 fun v6 =>
  aCall Tryz.prog (.p (.func typ_Check_i [])) [v6] h5 fun v7 h8 =>
  aBin false false .neq v7 (.p (.int .i64 0)) fun v9 =>
  aGuard v9
  (aBuild [(.p (.int .i64 0)), (.full [])] [] fun v10 =>
  aStore 2 v4 v10 h8 fun _ h12 =>
  aLoad true 2 v4 h12 fun v13 =>
  K (.tup [v13, (.p (.int .i64 5))]) h12)
  (aLoad true 8 v0 h8 fun v14 =>
  aCall Tryz.prog (.p (.func expr_Size_i [])) [v14] h8 fun v15 h16 =>
  aBin false false .gtr v15 (.p (.int .i64 256)) fun v17 =>
  aGuard v17
  (aBuild [(.p (.int .i64 0)), (.full [])] [] fun v18 =>
  aStore 2 v4 v18 h16 fun _ h20 =>
  aLoad true 2 v4 h20 fun v21 =>
  K (.tup [v21, (.p (.int .i64 10))]) h20)
  (aLoad true 8 v0 h16 fun v22 =>
  aLoad true 2 v2 h16 fun v23 =>
  aCall Tryz.prog (.p (.func expr_check_i [])) [v22, v23, (.p (.int .i64 0))] h16 fun v24 h25 =>
  aExtract v24 0 fun v26 =>
  aExtract v24 1 fun v27 =>
  aStore 2 v4 v26 h25 fun _ h29 =>
  aLoad true 2 v4 h29 fun v30 =>
  K (.tup [v30, v27]) h29))

def expr_Check_ann : Nat → List Nat := fun _ => []

theorem expr_Check_eq (x0 x1 : AV) (H : List Ob) (r : AV) (Ho : List Ob) : aBody Tryz.prog expr_Check_ann Tryz.f32 H [x0, x1] r Ho = expr_Check x0 x1 H (fun v H' => Gives H.length v H' r Ho) := by kernel_rfl

theorem expr_Check_fn {x0 x1 : AV} {r : AV} {Ho : List Ob} (h : expr_Check x0 x1 [] (fun v H' => Gives 0 v H' r Ho)) : Abs.Fn Tryz.prog expr_Check_i [] [x0, x1] r Ho :=
  fn_intro mixed expr_Check_ann (fn := Tryz.f32) (by kernel_rfl) (by kernel_rfl) (by rw [expr_Check_eq]; exact h)

/- runnel/runnelref6.CheckExpr -/
def runnelref6_CheckExpr (x0 x1 : AV) (H : List Ob) (K : AV → List Ob → Prop) : Prop :=
  aBox x0 H fun v0 h1 =>
  aBox x1 h1 fun v2 h3 =>
  aAlloc [(.p (.int .i64 0)), (.full [])] h3 fun v4 h5 =>
  aLoad true 2 v2 h5 fun v6 =>
  aCall Tryz.prog (.p (.func runnelref6_CheckType_i [])) [v6] h5 fun v7 h8 =>
  aBin false false .neq v7 (.p (.int .i64 0)) fun v9 =>
  aGuard v9
  (aBuild [(.p (.int .i64 0)), (.full [])] [] fun v10 =>
  aStore 2 v4 v10 h8 fun _ h12 =>
  aLoad true 2 v4 h12 fun v13 =>
  K (.tup [v13, (.p (.int .i64 5))]) h12)
  (aLoad true 8 v0 h8 fun v14 =>
  aCall Tryz.prog (.p (.func runnelref6_Size_i [])) [v14] h8 fun v15 h16 =>
  aBin false false .gtr v15 (.p (.int .i64 256)) fun v17 =>
  aGuard v17
  (aBuild [(.p (.int .i64 0)), (.full [])] [] fun v18 =>
  aStore 2 v4 v18 h16 fun _ h20 =>
  aLoad true 2 v4 h20 fun v21 =>
  K (.tup [v21, (.p (.int .i64 10))]) h20)
  (aLoad true 8 v0 h16 fun v22 =>
  aLoad true 2 v2 h16 fun v23 =>
  aCall Tryz.prog (.p (.func runnelref6_check_i [])) [v22, v23, (.p (.int .i64 0))] h16 fun v24 h25 =>
  aExtract v24 0 fun v26 =>
  aExtract v24 1 fun v27 =>
  aStore 2 v4 v26 h25 fun _ h29 =>
  aLoad true 2 v4 h29 fun v30 =>
  K (.tup [v30, v27]) h29))

def runnelref6_CheckExpr_ann : Nat → List Nat := fun _ => []

theorem runnelref6_CheckExpr_eq (x0 x1 : AV) (H : List Ob) (r : AV) (Ho : List Ob) : aBody Tryz.prog runnelref6_CheckExpr_ann Tryz.f38 H [x0, x1] r Ho = runnelref6_CheckExpr x0 x1 H (fun v H' => Gives H.length v H' r Ho) := by kernel_rfl

theorem runnelref6_CheckExpr_fn {x0 x1 : AV} {r : AV} {Ho : List Ob} (h : runnelref6_CheckExpr x0 x1 [] (fun v H' => Gives 0 v H' r Ho)) : Abs.Fn Tryz.prog runnelref6_CheckExpr_i [] [x0, x1] r Ho :=
  fn_intro mixed runnelref6_CheckExpr_ann (fn := Tryz.f38) (by kernel_rfl) (by kernel_rfl) (by rw [runnelref6_CheckExpr_eq]; exact h)

/- runnel/runnellaw4.Of -/
def runnellaw4_Of_L1 (q1s1 q1s2 q1s3 y0 : AV) (H : List Ob) (B1 : List AV → List Ob → Prop) (K : AV → List Ob → Prop) : Prop :=
  aFieldAddr 7 q1s1 fun v16 =>
  aLoad false 1 v16 H fun v17 =>
  aLen false false v17 fun v18 =>
  aBin false false .lss y0 v18 fun v19 =>
  aGuard v19
  (aFieldAddr 7 q1s3 fun v20 =>
  aLoad false 1 v20 H fun v21 =>
  aFieldAddr 7 q1s1 fun v22 =>
  aLoad false 1 v22 H fun v23 =>
  aIndexAddr 8 v23 y0 fun v24 =>
  aLoad true 8 v24 H fun v25 =>
  aCallT Tryz.prog (.p (.func runnellaw4_Of_i [])) [v25] fun v26 =>
  aBuildSlice 8 [v26] fun v27 =>
  aCalm [v21, v27] <|
  aAppend false 8 112 v21 v27 H fun v28 h29 =>
  aFieldAddr 7 q1s3 fun v30 =>
  aStore 1 v30 v28 h29 fun _ h32 =>
  aBin false false .add y0 (.p (.int .i64 1)) fun v33 =>
  B1 [v33] h32)
  (aLoad true 8 q1s3 H fun v34 =>
  aStore 8 q1s2 v34 H fun _ h36 =>
  aLoad true 8 q1s2 h36 fun v37 =>
  K v37 h36)

def runnellaw4_Of (x0 : AV) (H : List Ob) (K : AV → List Ob → Prop) : Prop :=
  aBox x0 H fun v0 h1 =>
  aAlloc [(.p (.str [])), (.p (.int .i64 0)), (.p (.int .i64 0)), (.p (.bool false)), (.p (.str [])), (.full []), (.p (.int .i64 0)), (.full [])] h1 fun v2 h3 =>
  aAlloc [(.p (.str [])), (.p (.int .i64 0)), (.p (.int .i64 0)), (.p (.bool false)), (.p (.str [])), (.full []), (.p (.int .i64 0)), (.full [])] h3 fun v4 h5 =>
  aFieldAddr 0 v0 fun v6 =>
  aLoad false 1 v6 h5 fun v7 =>
  aFieldAddr 1 v0 fun v8 =>
  aLoad true 5 v8 h5 fun v9 =>
  aCallT Tryz.prog (.p (.func runnellaw2_Of_i [])) [v9] fun v10 =>
  aFieldAddr 6 v0 fun v11 =>
  aLoad false 1 v11 h5 fun v12 =>
  aBuild [(.p (.str [])), (.p (.int .i64 0)), (.p (.int .i64 0)), (.p (.bool false)), (.p (.str [])), (.full []), (.p (.int .i64 0)), (.full [])] [(0, 1, v7), (1, 5, v10), (6, 1, v12)] fun v13 =>
  aStore 8 v4 v13 h5 fun _ h15 =>
  aLoopN 1 [(.p (.int .i64 0))] h15 fun xs H B1 => runnellaw4_Of_L1 v0 v2 v4 (xs.getD 0 .top) H B1 K

def runnellaw4_Of_ann : Nat → List Nat := fun k => match k with | 3 => [4] | _ => []

theorem runnellaw4_Of_eq (x0 : AV) (H : List Ob) (r : AV) (Ho : List Ob) : aBody Tryz.prog runnellaw4_Of_ann Tryz.f47 H [x0] r Ho = runnellaw4_Of x0 H (fun v H' => Gives H.length v H' r Ho) := by kernel_rfl

theorem runnellaw4_Of_fn {x0 : AV} {r : AV} {Ho : List Ob} (h : runnellaw4_Of x0 [] (fun v H' => Gives 0 v H' r Ho)) : Abs.Fn Tryz.prog runnellaw4_Of_i [] [x0] r Ho :=
  fn_intro mixed runnellaw4_Of_ann (fn := Tryz.f47) (by kernel_rfl) (by kernel_rfl) (by rw [runnellaw4_Of_eq]; exact h)

/- runnel/expr.Size -/
def expr_Size_L1 (q1s7 q1s8 y0 y1 : AV) (H : List Ob) (B1 : List AV → List Ob → Prop) (K : AV → List Ob → Prop) : Prop :=
  aBin false false .lss y1 q1s8 fun v5 =>
  aGuard v5
  (aIndexAddr 8 q1s7 y1 fun v6 =>
  aLoad true 8 v6 H fun v7 =>
  aAlloc [(.p (.str [])), (.p (.int .i64 0)), (.p (.int .i64 0)), (.p (.bool false)), (.p (.str [])), (.full []), (.p (.int .i64 0)), (.full [])] H fun v8 h9 =>
  aStore 8 v8 v7 h9 fun _ h11 =>
  aLoad true 8 v8 h11 fun v12 =>
  aCall Tryz.prog (.p (.func expr_Size_i [])) [v12] h11 fun v13 h14 =>
  aBin false false .add y0 v13 fun v15 =>
  aBin false false .add y1 (.p (.int .i64 1)) fun v16 =>
  B1 [v15, v16] h14)
  (K y0 H)

def expr_Size (x0 : AV) (H : List Ob) (K : AV → List Ob → Prop) : Prop :=
  aBox x0 H fun v0 h1 =>
  aFieldAddr 7 v0 fun v2 =>
  aLoad false 1 v2 h1 fun v3 =>
  aLen false false v3 fun v4 =>
  aLoopN 2 [(.p (.int .i64 1)), (.p (.int .i64 0))] h1 fun xs H B1 => expr_Size_L1 v3 v4 (xs.getD 0 .top) (xs.getD 1 .top) H B1 K

def expr_Size_ann : Nat → List Nat := fun k => match k with | 3 => [3, 9] | _ => []

theorem expr_Size_eq (x0 : AV) (H : List Ob) (r : AV) (Ho : List Ob) : aBody Tryz.prog expr_Size_ann Tryz.f51 H [x0] r Ho = expr_Size x0 H (fun v H' => Gives H.length v H' r Ho) := by kernel_rfl

theorem expr_Size_fn {x0 : AV} {r : AV} {Ho : List Ob} (h : expr_Size x0 [] (fun v H' => Gives 0 v H' r Ho)) : Abs.Fn Tryz.prog expr_Size_i [] [x0] r Ho :=
  fn_intro mixed expr_Size_ann (fn := Tryz.f51) (by kernel_rfl) (by kernel_rfl) (by rw [expr_Size_eq]; exact h)

/- runnel/expr.check -/
def expr_check_L1 (q1s2 q1s3 q1s4 q1s6 q1s8 q1s49 q1s50 y0 y1 : AV) (H : List Ob) (B1 : List AV → List Ob → Prop) (K : AV → List Ob → Prop) : Prop :=
  aBin false false .lss y1 q1s50 fun v19 =>
  aGuard v19
  (aIndexAddr 8 q1s49 y1 fun v20 =>
  aLoad true 8 v20 H fun v21 =>
  aAlloc [(.p (.str [])), (.p (.int .i64 0)), (.p (.int .i64 0)), (.p (.bool false)), (.p (.str [])), (.full []), (.p (.int .i64 0)), (.full [])] H fun v22 h23 =>
  aStore 8 v22 v21 h23 fun _ h25 =>
  aLoad true 8 v22 h25 fun v26 =>
  aLoad true 2 q1s4 h25 fun v27 =>
  aBin false false .add q1s2 (.p (.int .i64 1)) fun v28 =>
  aCall Tryz.prog (.p (.func expr_check_i [])) [v26, v27, v28] h25 fun v29 h30 =>
  aExtract v29 0 fun v31 =>
  aExtract v29 1 fun v32 =>
  aAlloc [(.p (.int .i64 0)), (.full [])] h30 fun v33 h34 =>
  aStore 2 v33 v31 h34 fun _ h36 =>
  aBin false false .neq v32 (.p (.int .i64 0)) fun v37 =>
  aGuard v37
  (aBuild [(.p (.int .i64 0)), (.full [])] [] fun v38 =>
  aStore 2 q1s6 v38 h36 fun _ h40 =>
  aLoad true 2 q1s6 h40 fun v41 =>
  K (.tup [v41, v32]) h40)
  (aLoad true 2 v33 h36 fun v42 =>
  aBuildSlice 2 [v42] fun v43 =>
  aAppend false 2 32 y0 v43 h36 fun v44 h45 =>
  aBin false false .add y1 (.p (.int .i64 1)) fun v46 =>
  B1 [v44, v46] h45))
  (aLoad true 5 q1s8 H fun v47 =>
  aCall Tryz.prog (.p (.func expr_fits_i [])) [v47, y0] H fun v48 h49 =>
  aUn .not v48 fun v50 =>
  aGuard v50
  (aBuild [(.p (.int .i64 0)), (.full [])] [] fun v51 =>
  aStore 2 q1s6 v51 h49 fun _ h53 =>
  aLoad true 2 q1s6 h53 fun v54 =>
  K (.tup [v54, (.p (.int .i64 5))]) h53)
  (aLoad true 8 q1s3 h49 fun v55 =>
  aLoad true 5 q1s8 h49 fun v56 =>
  aCallT Tryz.prog (.p (.func slices_Clip_typ_Type_typ_Type_i [])) [y0] fun v57 =>
  aLoad true 2 q1s4 h49 fun v58 =>
  aCallT Tryz.prog (.p (.func expr_Expr_comes_i [])) [v55, v56, v57, v58] fun v59 =>
  aExtract v59 0 fun v60 =>
  aExtract v59 1 fun v61 =>
  aStore 2 q1s6 v60 h49 fun _ h63 =>
  aLoad true 2 q1s6 h63 fun v64 =>
  K (.tup [v64, v61]) h63))

def expr_check_J1 (j1s2 j1s3 j1s4 j1s6 j1s8 : AV) (H : List Ob) (K : AV → List Ob → Prop) : Prop :=
  aFieldAddr 7 j1s3 fun v16 =>
  aLoad false 1 v16 H fun v17 =>
  aLen false false v17 fun v18 =>
  aLoopN 2 [(.full []), (.p (.int .i64 0))] H fun xs H B1 => expr_check_L1 j1s2 j1s3 j1s4 j1s6 j1s8 v17 v18 (xs.getD 0 .top) (xs.getD 1 .top) H B1 K

def expr_check (x0 x1 x2 : AV) (H : List Ob) (K : AV → List Ob → Prop) : Prop :=
  aBox x0 H fun v0 h1 =>
  aBox x1 h1 fun v2 h3 =>
  aAlloc [(.p (.int .i64 0)), (.full [])] h3 fun v4 h5 =>
  aAlloc [(.p (.int .i64 0)), (.p (.int .i64 0)), (.full []), (.p (.bool false)), (.p (.int .i64 0))] h5 fun v6 h7 =>
  aCallT Tryz.prog (.p (.func expr_shapes_i [])) [] fun v8 =>
  aFieldAddr 0 v0 fun v9 =>
  aLoad false 1 v9 h7 fun v10 =>
  aCallT Tryz.prog (.p (.func expr_find_string_expr_shape_i [])) [v8, v10] fun v11 =>
  aExtract v11 0 fun v12 =>
  aExtract v11 1 fun v13 =>
  aStore 5 v6 v12 h7 fun _ h15 =>
  aUn .not v13 fun v65 =>
  aGuard v65
  (aBuild [(.p (.int .i64 0)), (.full [])] [] fun v66 =>
  aStore 2 v4 v66 h15 fun _ h68 =>
  aLoad true 2 v4 h68 fun v69 =>
  K (.tup [v69, (.p (.int .i64 6))]) h68)
  (aBin false false .gtr x2 (.p (.int .i64 12)) fun v70 =>
  aGuard v70
  (aBuild [(.p (.int .i64 0)), (.full [])] [] fun v71 =>
  aStore 2 v4 v71 h15 fun _ h73 =>
  aLoad true 2 v4 h73 fun v74 =>
  K (.tup [v74, (.p (.int .i64 9))]) h73)
  (aLoad true 8 v0 h15 fun v75 =>
  aLoad true 5 v6 h15 fun v76 =>
  aCall Tryz.prog (.p (.func expr_Expr_fields_i [])) [v75, v76] h15 fun v77 h78 =>
  aUn .not v77 fun v79 =>
  aGuard v79
  (aBuild [(.p (.int .i64 0)), (.full [])] [] fun v80 =>
  aStore 2 v4 v80 h78 fun _ h82 =>
  aLoad true 2 v4 h82 fun v83 =>
  K (.tup [v83, (.p (.int .i64 1))]) h82)
  (aFieldAddr 0 v0 fun v84 =>
  aLoad false 1 v84 h78 fun v85 =>
  aBin false false .eql v85 (.p (.str [108, 105, 116])) fun v86 =>
  aGuard v86
  (aFieldAddr 1 v0 fun v87 =>
  aLoad true 5 v87 h78 fun v88 =>
  aCall Tryz.prog (.p (.func val_Check_i [])) [v88] h78 fun v89 h90 =>
  aBin false false .neq v89 (.p (.int .i64 0)) fun v91 =>
  aGuard v91
  (aBuild [(.p (.int .i64 0)), (.full [])] [] fun v92 =>
  aStore 2 v4 v92 h90 fun _ h94 =>
  aLoad true 2 v4 h94 fun v95 =>
  K (.tup [v95, v89]) h94)
  (expr_check_J1 x2 v0 v2 v4 v6 h90 K))
  (expr_check_J1 x2 v0 v2 v4 v6 h78 K))))

def expr_check_ann : Nat → List Nat := fun k => match k with | 14 => [11, 51] | _ => []

theorem expr_check_eq (x0 x1 x2 : AV) (H : List Ob) (r : AV) (Ho : List Ob) : aBody Tryz.prog expr_check_ann Tryz.f52 H [x0, x1, x2] r Ho = expr_check x0 x1 x2 H (fun v H' => Gives H.length v H' r Ho) := by kernel_rfl

theorem expr_check_fn {x0 x1 x2 : AV} {r : AV} {Ho : List Ob} (h : expr_check x0 x1 x2 [] (fun v H' => Gives 0 v H' r Ho)) : Abs.Fn Tryz.prog expr_check_i [] [x0, x1, x2] r Ho :=
  fn_intro mixed expr_check_ann (fn := Tryz.f52) (by kernel_rfl) (by kernel_rfl) (by rw [expr_check_eq]; exact h)

/- runnel/runnelref6.Size -/
def runnelref6_Size_L1 (q1s1 y0 y1 : AV) (H : List Ob) (B1 : List AV → List Ob → Prop) (K : AV → List Ob → Prop) : Prop :=
  aFieldAddr 7 q1s1 fun v2 =>
  aLoad false 1 v2 H fun v3 =>
  aLen false false v3 fun v4 =>
  aBin false false .lss y1 v4 fun v5 =>
  aGuard v5
  (aFieldAddr 7 q1s1 fun v6 =>
  aLoad false 1 v6 H fun v7 =>
  aIndexAddr 8 v7 y1 fun v8 =>
  aLoad true 8 v8 H fun v9 =>
  aCall Tryz.prog (.p (.func runnelref6_Size_i [])) [v9] H fun v10 h11 =>
  aBin false false .add y0 v10 fun v12 =>
  aBin false false .add y1 (.p (.int .i64 1)) fun v13 =>
  B1 [v12, v13] h11)
  (K y0 H)

def runnelref6_Size (x0 : AV) (H : List Ob) (K : AV → List Ob → Prop) : Prop :=
  aBox x0 H fun v0 h1 =>
  aLoopN 2 [(.p (.int .i64 1)), (.p (.int .i64 0))] h1 fun xs H B1 => runnelref6_Size_L1 v0 (xs.getD 0 .top) (xs.getD 1 .top) H B1 K

def runnelref6_Size_ann : Nat → List Nat := fun k => match k with | 3 => [3, 4] | _ => []

theorem runnelref6_Size_eq (x0 : AV) (H : List Ob) (r : AV) (Ho : List Ob) : aBody Tryz.prog runnelref6_Size_ann Tryz.f58 H [x0] r Ho = runnelref6_Size x0 H (fun v H' => Gives H.length v H' r Ho) := by kernel_rfl

theorem runnelref6_Size_fn {x0 : AV} {r : AV} {Ho : List Ob} (h : runnelref6_Size x0 [] (fun v H' => Gives 0 v H' r Ho)) : Abs.Fn Tryz.prog runnelref6_Size_i [] [x0] r Ho :=
  fn_intro mixed runnelref6_Size_ann (fn := Tryz.f58) (by kernel_rfl) (by kernel_rfl) (by rw [runnelref6_Size_eq]; exact h)

/- runnel/runnelref6.check -/
def runnelref6_check_L1 (q1s2 q1s3 q1s4 q1s6 y0 y1 : AV) (H : List Ob) (B1 : List AV → List Ob → Prop) (K : AV → List Ob → Prop) : Prop :=
  aFieldAddr 7 q1s3 fun v96 =>
  aLoad false 1 v96 H fun v97 =>
  aLen false false v97 fun v98 =>
  aBin false false .lss y1 v98 fun v99 =>
  aGuard v99
  (aAlloc [(.p (.int .i64 0)), (.full [])] H fun v100 h101 =>
  aFieldAddr 7 q1s3 fun v102 =>
  aLoad false 1 v102 h101 fun v103 =>
  aIndexAddr 8 v103 y1 fun v104 =>
  aLoad true 8 v104 h101 fun v105 =>
  aLoad true 2 q1s4 h101 fun v106 =>
  aBin false false .add q1s2 (.p (.int .i64 1)) fun v107 =>
  aCallT Tryz.prog (.p (.func runnelref6_check_i [])) [v105, v106, v107] fun v108 =>
  aExtract v108 0 fun v109 =>
  aExtract v108 1 fun v110 =>
  aStore 2 v100 v109 h101 fun _ h112 =>
  aBin false false .neq v110 (.p (.int .i64 0)) fun v113 =>
  aGuard v113
  (aBuild [(.p (.int .i64 0)), (.full [])] [] fun v114 =>
  aStore 2 q1s6 v114 h112 fun _ h116 =>
  aLoad true 2 q1s6 h116 fun v117 =>
  K (.tup [v117, v110]) h116)
  (aLoad true 2 v100 h112 fun v118 =>
  aBuildSlice 2 [v118] fun v119 =>
  aAppend false 2 32 y0 v119 h112 fun v120 h121 =>
  aBin false false .add y1 (.p (.int .i64 1)) fun v122 =>
  B1 [v120, v122] h121))
  (aFieldAddr 0 q1s3 fun v123 =>
  aLoad false 1 v123 H fun v124 =>
  aFieldAddr 6 q1s3 fun v125 =>
  aLoad false 1 v125 H fun v126 =>
  aCall Tryz.prog (.p (.func runnelref6_OpType_i [])) [v124, v126, y0] H fun v127 h128 =>
  aExtract v127 0 fun v129 =>
  aExtract v127 1 fun v130 =>
  aStore 2 q1s6 v129 h128 fun _ h132 =>
  aLoad true 2 q1s6 h132 fun v133 =>
  K (.tup [v133, v130]) h132)

def runnelref6_check (x0 x1 x2 : AV) (H : List Ob) (K : AV → List Ob → Prop) : Prop :=
  aBox x0 H fun v0 h1 =>
  aBox x1 h1 fun v2 h3 =>
  aAlloc [(.p (.int .i64 0)), (.full [])] h3 fun v4 h5 =>
  aFieldAddr 0 v0 fun v6 =>
  aLoad false 1 v6 h5 fun v7 =>
  aCall Tryz.prog (.p (.func runnelref6_Arity_i [])) [v7] h5 fun v8 h9 =>
  aBin false false .eql v8 (.p (.int .i64 (-2))) fun v10 =>
  aGuard v10
  (aBuild [(.p (.int .i64 0)), (.full [])] [] fun v11 =>
  aStore 2 v4 v11 h9 fun _ h13 =>
  aLoad true 2 v4 h13 fun v14 =>
  K (.tup [v14, (.p (.int .i64 6))]) h13)
  (aBin false false .gtr x2 (.p (.int .i64 12)) fun v15 =>
  aGuard v15
  (aBuild [(.p (.int .i64 0)), (.full [])] [] fun v16 =>
  aStore 2 v4 v16 h9 fun _ h18 =>
  aLoad true 2 v4 h18 fun v19 =>
  K (.tup [v19, (.p (.int .i64 9))]) h18)
  (aBin false false .geq v8 (.p (.int .i64 0)) fun v20 =>
  aMerge true v20 (fun Q21 =>
  aFieldAddr 7 v0 fun v22 =>
  aLoad false 1 v22 h9 fun v23 =>
  aLenS false v23 fun v24 =>
  aBin false false .neq v24 v8 fun v25 =>
  (h9 = h9 ∧ Q21 v25)) fun v26 =>
  aMerge false v26 (fun Q27 =>
  aBin false false .lss v8 (.p (.int .i64 0)) fun v28 =>
  aMerge true v28 (fun Q29 =>
  aFieldAddr 7 v0 fun v30 =>
  aLoad false 1 v30 h9 fun v31 =>
  aLenS false v31 fun v32 =>
  aBin false false .lss v32 (.p (.int .i64 1)) fun v33 =>
  aMerge false v33 (fun Q34 =>
  aFieldAddr 7 v0 fun v35 =>
  aLoad false 1 v35 h9 fun v36 =>
  aLenS false v36 fun v37 =>
  aBin false false .gtr v37 (.p (.int .i64 8)) fun v38 =>
  (h9 = h9 ∧ Q34 v38)) fun v39 =>
  (h9 = h9 ∧ Q29 v39)) fun v40 =>
  (h9 = h9 ∧ Q27 v40)) fun v41 =>
  aGuard v41
  (aBuild [(.p (.int .i64 0)), (.full [])] [] fun v42 =>
  aStore 2 v4 v42 h9 fun _ h44 =>
  aLoad true 2 v4 h44 fun v45 =>
  K (.tup [v45, (.p (.int .i64 1))]) h44)
  (aFieldAddr 0 v0 fun v46 =>
  aLoad false 1 v46 h9 fun v47 =>
  aBin false false .neq v47 (.p (.str [97, 116])) fun v48 =>
  aMerge true v48 (fun Q49 =>
  aFieldAddr 6 v0 fun v50 =>
  aLoad false 1 v50 h9 fun v51 =>
  aBin false false .neq v51 (.p (.int .i64 0)) fun v52 =>
  (h9 = h9 ∧ Q49 v52)) fun v53 =>
  aMerge false v53 (fun Q54 =>
  aFieldAddr 0 v0 fun v55 =>
  aLoad false 1 v55 h9 fun v56 =>
  aBin false false .neq v56 (.p (.str [108, 105, 116])) fun v57 =>
  aMerge true v57 (fun Q58 =>
  aFieldAddr 1 v0 fun v59 =>
  aLoad true 5 v59 h9 fun v60 =>
  aCall Tryz.prog (.p (.func runnelref6_nought_i [])) [v60] h9 fun v61 h62 =>
  aUn .not v61 fun v63 =>
  (h62 = h9 ∧ Q58 v63)) fun v64 =>
  (h9 = h9 ∧ Q54 v64)) fun v65 =>
  aGuard v65
  (aBuild [(.p (.int .i64 0)), (.full [])] [] fun v66 =>
  aStore 2 v4 v66 h9 fun _ h68 =>
  aLoad true 2 v4 h68 fun v69 =>
  K (.tup [v69, (.p (.int .i64 1))]) h68)
  (aFieldAddr 0 v0 fun v70 =>
  aLoad false 1 v70 h9 fun v71 =>
  aBin false false .eql v71 (.p (.str [108, 105, 116])) fun v72 =>
  aGuard v72
  (aFieldAddr 1 v0 fun v73 =>
  aLoad true 5 v73 h9 fun v74 =>
  aCall Tryz.prog (.p (.func runnelref6_CheckValue_i [])) [v74] h9 fun v75 h76 =>
  aBin false false .neq v75 (.p (.int .i64 0)) fun v77 =>
  aGuard v77
  (aBuild [(.p (.int .i64 0)), (.full [])] [] fun v78 =>
  aStore 2 v4 v78 h76 fun _ h80 =>
  aLoad true 2 v4 h80 fun v81 =>
  K (.tup [v81, v75]) h80)
  (aFieldAddr 1 v0 fun v82 =>
  aLoad true 5 v82 h76 fun v83 =>
  aCall Tryz.prog (.p (.func runnelref6_TypeOf_i [])) [v83] h76 fun v84 h85 =>
  aStore 2 v4 v84 h85 fun _ h87 =>
  aLoad true 2 v4 h87 fun v88 =>
  K (.tup [v88, (.p (.int .i64 0))]) h87))
  (aFieldAddr 0 v0 fun v89 =>
  aLoad false 1 v89 h9 fun v90 =>
  aBin false false .eql v90 (.p (.str [120])) fun v91 =>
  aGuard v91
  (aLoad true 2 v2 h9 fun v92 =>
  aStore 2 v4 v92 h9 fun _ h94 =>
  aLoad true 2 v4 h94 fun v95 =>
  K (.tup [v95, (.p (.int .i64 0))]) h94)
  (aLoopN 2 [(.full []), (.p (.int .i64 0))] h9 fun xs H B1 => runnelref6_check_L1 x2 v0 v2 v4 (xs.getD 0 .top) (xs.getD 1 .top) H B1 K))))))

def runnelref6_check_ann : Nat → List Nat := fun k => match k with | 19 => [10, 11] | _ => []

theorem runnelref6_check_eq (x0 x1 x2 : AV) (H : List Ob) (r : AV) (Ho : List Ob) : aBody Tryz.prog runnelref6_check_ann Tryz.f59 H [x0, x1, x2] r Ho = runnelref6_check x0 x1 x2 H (fun v H' => Gives H.length v H' r Ho) := by kernel_rfl

theorem runnelref6_check_fn {x0 x1 x2 : AV} {r : AV} {Ho : List Ob} (h : runnelref6_check x0 x1 x2 [] (fun v H' => Gives 0 v H' r Ho)) : Abs.Fn Tryz.prog runnelref6_check_i [] [x0, x1, x2] r Ho :=
  fn_intro mixed runnelref6_check_ann (fn := Tryz.f59) (by kernel_rfl) (by kernel_rfl) (by rw [runnelref6_check_eq]; exact h)

/- runnel/runnellaw4.Few -/
def runnellaw4_Few (x0 : AV) (H : List Ob) (K : AV → List Ob → Prop) : Prop :=
  aBox x0 H fun v0 h1 =>
  aLoad true 8 v0 h1 fun v2 =>
  aCall Tryz.prog (.p (.func runnellaw4_budget_i [])) [v2, (.p (.int .i64 20)), (.p (.int .i64 400))] h1 fun v3 h4 =>
  aBin false false .gtr v3 (.p (.int .i64 0)) fun v5 =>
  K v5 h4

def runnellaw4_Few_ann : Nat → List Nat := fun _ => []

theorem runnellaw4_Few_eq (x0 : AV) (H : List Ob) (r : AV) (Ho : List Ob) : aBody Tryz.prog runnellaw4_Few_ann Tryz.f76 H [x0] r Ho = runnellaw4_Few x0 H (fun v H' => Gives H.length v H' r Ho) := by kernel_rfl

theorem runnellaw4_Few_fn {x0 : AV} {r : AV} {Ho : List Ob} (h : runnellaw4_Few x0 [] (fun v H' => Gives 0 v H' r Ho)) : Abs.Fn Tryz.prog runnellaw4_Few_i [] [x0] r Ho :=
  fn_intro mixed runnellaw4_Few_ann (fn := Tryz.f76) (by kernel_rfl) (by kernel_rfl) (by rw [runnellaw4_Few_eq]; exact h)

/- runnel/expr.find[string,runnel/expr.shape] -/
def expr_find_string_expr_shape_L1 (q1s1 q1s4 q1s9 q1s10 y0 : AV) (H : List Ob) (B1 : List AV → List Ob → Prop) (K : AV → List Ob → Prop) : Prop :=
  aBin false false .lss y0 q1s10 fun v3 =>
  aGuard v3
  (aIndexAddr 6 q1s9 y0 fun v4 =>
  aLoad true 6 v4 H fun v5 =>
  aAlloc [(.p (.str [])), (.p (.int .i64 0)), (.p (.int .i64 0)), (.full []), (.p (.bool false)), (.p (.int .i64 0))] H fun v6 h7 =>
  aStore 6 v6 v5 h7 fun _ h9 =>
  aFieldAddr 0 v6 fun v10 =>
  aLoad false 1 v10 h9 fun v11 =>
  aBin false false .eql v11 q1s1 fun v12 =>
  aGuard v12
  (aFieldAddr 1 v6 fun v13 =>
  aLoad true 5 v13 h9 fun v14 =>
  aStore 5 q1s4 v14 h9 fun _ h16 =>
  aLoad true 5 q1s4 h16 fun v17 =>
  K (.tup [v17, (.p (.bool true))]) h16)
  (aBin false false .add y0 (.p (.int .i64 1)) fun v18 =>
  B1 [v18] h9))
  (aAlloc [(.p (.int .i64 0)), (.p (.int .i64 0)), (.full []), (.p (.bool false)), (.p (.int .i64 0))] H fun v19 h20 =>
  aLoad true 5 v19 h20 fun v21 =>
  aStore 5 q1s4 v21 h20 fun _ h23 =>
  aLoad true 5 q1s4 h23 fun v24 =>
  K (.tup [v24, (.p (.bool false))]) h23)

def expr_find_string_expr_shape (x0 x1 : AV) (H : List Ob) (K : AV → List Ob → Prop) : Prop :=
  aAlloc [(.p (.int .i64 0)), (.p (.int .i64 0)), (.full []), (.p (.bool false)), (.p (.int .i64 0))] H fun v0 h1 =>
  aLen false false x0 fun v2 =>
  aLoopN 1 [(.p (.int .i64 0))] h1 fun xs H B1 => expr_find_string_expr_shape_L1 x1 v0 x0 v2 (xs.getD 0 .top) H B1 K

def expr_find_string_expr_shape_ann : Nat → List Nat := fun k => match k with | 2 => [11] | _ => []

theorem expr_find_string_expr_shape_eq (x0 x1 : AV) (H : List Ob) (r : AV) (Ho : List Ob) : aBody Tryz.prog expr_find_string_expr_shape_ann Tryz.f83 H [x0, x1] r Ho = expr_find_string_expr_shape x0 x1 H (fun v H' => Gives H.length v H' r Ho) := by kernel_rfl

theorem expr_find_string_expr_shape_fn {x0 x1 : AV} {r : AV} {Ho : List Ob} (h : expr_find_string_expr_shape x0 x1 [] (fun v H' => Gives 0 v H' r Ho)) : Abs.Fn Tryz.prog expr_find_string_expr_shape_i [] [x0, x1] r Ho :=
  fn_intro mixed expr_find_string_expr_shape_ann (fn := Tryz.f83) (by kernel_rfl) (by kernel_rfl) (by rw [expr_find_string_expr_shape_eq]; exact h)

/- runnel/expr.shapes -/
def expr_shapes (H : List Ob) (K : AV → List Ob → Prop) : Prop :=
  aBuildSlice 1 [(.p (.int .i64 1)), (.p (.int .i64 1))] fun v0 =>
  aBuild [(.p (.int .i64 0)), (.p (.int .i64 0)), (.full []), (.p (.bool false)), (.p (.int .i64 0))] [(0, 1, (.p (.int .i64 2))), (1, 1, (.p (.int .i64 2))), (2, 1, v0), (3, 1, (.p (.bool false))), (4, 1, (.p (.int .i64 1)))] fun v1 =>
  aAlloc [(.p (.int .i64 0)), (.p (.int .i64 0)), (.full []), (.p (.bool false)), (.p (.int .i64 0))] H fun v2 h3 =>
  aStore 5 v2 v1 h3 fun _ h5 =>
  aBuildSlice 1 [(.p (.int .i64 0)), (.p (.int .i64 0))] fun v6 =>
  aBuild [(.p (.int .i64 0)), (.p (.int .i64 0)), (.full []), (.p (.bool false)), (.p (.int .i64 0))] [(0, 1, (.p (.int .i64 2))), (1, 1, (.p (.int .i64 2))), (2, 1, v6), (3, 1, (.p (.bool true))), (4, 1, (.p (.int .i64 2)))] fun v7 =>
  aAlloc [(.p (.int .i64 0)), (.p (.int .i64 0)), (.full []), (.p (.bool false)), (.p (.int .i64 0))] h5 fun v8 h9 =>
  aStore 5 v8 v7 h9 fun _ h11 =>
  aBuildSlice 1 [(.p (.int .i64 2)), (.p (.int .i64 2))] fun v12 =>
  aBuild [(.p (.int .i64 0)), (.p (.int .i64 0)), (.full []), (.p (.bool false)), (.p (.int .i64 0))] [(0, 1, (.p (.int .i64 2))), (1, 1, (.p (.int .i64 2))), (2, 1, v12), (3, 1, (.p (.bool false))), (4, 1, (.p (.int .i64 2)))] fun v13 =>
  aAlloc [(.p (.int .i64 0)), (.p (.int .i64 0)), (.full []), (.p (.bool false)), (.p (.int .i64 0))] h11 fun v14 h15 =>
  aStore 5 v14 v13 h15 fun _ h17 =>
  aBuild [(.p (.int .i64 0)), (.p (.int .i64 0)), (.full []), (.p (.bool false)), (.p (.int .i64 0))] [] fun v18 =>
  aBuild [(.p (.str [])), (.p (.int .i64 0)), (.p (.int .i64 0)), (.full []), (.p (.bool false)), (.p (.int .i64 0))] [(0, 1, (.p (.str [108, 105, 116]))), (1, 5, v18)] fun v19 =>
  aBuild [(.p (.int .i64 0)), (.p (.int .i64 0)), (.full []), (.p (.bool false)), (.p (.int .i64 0))] [] fun v20 =>
  aBuild [(.p (.str [])), (.p (.int .i64 0)), (.p (.int .i64 0)), (.full []), (.p (.bool false)), (.p (.int .i64 0))] [(0, 1, (.p (.str [120]))), (1, 5, v20)] fun v21 =>
  aBuildSlice 1 [(.p (.int .i64 4))] fun v22 =>
  aBuild [(.p (.int .i64 0)), (.p (.int .i64 0)), (.full []), (.p (.bool false)), (.p (.int .i64 0))] [(0, 1, (.p (.int .i64 1))), (1, 1, (.p (.int .i64 1))), (2, 1, v22), (3, 1, (.p (.bool false))), (4, 1, (.p (.int .i64 0)))] fun v23 =>
  aBuild [(.p (.str [])), (.p (.int .i64 0)), (.p (.int .i64 0)), (.full []), (.p (.bool false)), (.p (.int .i64 0))] [(0, 1, (.p (.str [97, 116]))), (1, 5, v23)] fun v24 =>
  aBuild [(.p (.int .i64 0)), (.p (.int .i64 0)), (.full []), (.p (.bool false)), (.p (.int .i64 0))] [(0, 1, (.p (.int .i64 1))), (1, 1, (.p (.int .i64 8))), (2, 1, (.full [])), (3, 1, (.p (.bool false))), (4, 1, (.p (.int .i64 4)))] fun v25 =>
  aBuild [(.p (.str [])), (.p (.int .i64 0)), (.p (.int .i64 0)), (.full []), (.p (.bool false)), (.p (.int .i64 0))] [(0, 1, (.p (.str [116, 117, 112]))), (1, 5, v25)] fun v26 =>
  aBuildSlice 1 [(.p (.int .i64 1))] fun v27 =>
  aBuild [(.p (.int .i64 0)), (.p (.int .i64 0)), (.full []), (.p (.bool false)), (.p (.int .i64 0))] [(0, 1, (.p (.int .i64 1))), (1, 1, (.p (.int .i64 1))), (2, 1, v27), (3, 1, (.p (.bool false))), (4, 1, (.p (.int .i64 1)))] fun v28 =>
  aBuild [(.p (.str [])), (.p (.int .i64 0)), (.p (.int .i64 0)), (.full []), (.p (.bool false)), (.p (.int .i64 0))] [(0, 1, (.p (.str [110, 101, 103]))), (1, 5, v28)] fun v29 =>
  aBuildSlice 1 [(.p (.int .i64 2))] fun v30 =>
  aBuild [(.p (.int .i64 0)), (.p (.int .i64 0)), (.full []), (.p (.bool false)), (.p (.int .i64 0))] [(0, 1, (.p (.int .i64 1))), (1, 1, (.p (.int .i64 1))), (2, 1, v30), (3, 1, (.p (.bool false))), (4, 1, (.p (.int .i64 2)))] fun v31 =>
  aBuild [(.p (.str [])), (.p (.int .i64 0)), (.p (.int .i64 0)), (.full []), (.p (.bool false)), (.p (.int .i64 0))] [(0, 1, (.p (.str [110, 111, 116]))), (1, 5, v31)] fun v32 =>
  aBuildSlice 1 [(.p (.int .i64 3))] fun v33 =>
  aBuild [(.p (.int .i64 0)), (.p (.int .i64 0)), (.full []), (.p (.bool false)), (.p (.int .i64 0))] [(0, 1, (.p (.int .i64 1))), (1, 1, (.p (.int .i64 1))), (2, 1, v33), (3, 1, (.p (.bool false))), (4, 1, (.p (.int .i64 1)))] fun v34 =>
  aBuild [(.p (.str [])), (.p (.int .i64 0)), (.p (.int .i64 0)), (.full []), (.p (.bool false)), (.p (.int .i64 0))] [(0, 1, (.p (.str [108, 101, 110]))), (1, 5, v34)] fun v35 =>
  aLoad true 5 v2 h17 fun v36 =>
  aBuild [(.p (.str [])), (.p (.int .i64 0)), (.p (.int .i64 0)), (.full []), (.p (.bool false)), (.p (.int .i64 0))] [(0, 1, (.p (.str [97, 100, 100]))), (1, 5, v36)] fun v37 =>
  aLoad true 5 v2 h17 fun v38 =>
  aBuild [(.p (.str [])), (.p (.int .i64 0)), (.p (.int .i64 0)), (.full []), (.p (.bool false)), (.p (.int .i64 0))] [(0, 1, (.p (.str [115, 117, 98]))), (1, 5, v38)] fun v39 =>
  aLoad true 5 v2 h17 fun v40 =>
  aBuild [(.p (.str [])), (.p (.int .i64 0)), (.p (.int .i64 0)), (.full []), (.p (.bool false)), (.p (.int .i64 0))] [(0, 1, (.p (.str [109, 117, 108]))), (1, 5, v40)] fun v41 =>
  aLoad true 5 v2 h17 fun v42 =>
  aBuild [(.p (.str [])), (.p (.int .i64 0)), (.p (.int .i64 0)), (.full []), (.p (.bool false)), (.p (.int .i64 0))] [(0, 1, (.p (.str [100, 105, 118]))), (1, 5, v42)] fun v43 =>
  aLoad true 5 v2 h17 fun v44 =>
  aBuild [(.p (.str [])), (.p (.int .i64 0)), (.p (.int .i64 0)), (.full []), (.p (.bool false)), (.p (.int .i64 0))] [(0, 1, (.p (.str [114, 101, 109]))), (1, 5, v44)] fun v45 =>
  aLoad true 5 v8 h17 fun v46 =>
  aBuild [(.p (.str [])), (.p (.int .i64 0)), (.p (.int .i64 0)), (.full []), (.p (.bool false)), (.p (.int .i64 0))] [(0, 1, (.p (.str [101, 113]))), (1, 5, v46)] fun v47 =>
  aLoad true 5 v8 h17 fun v48 =>
  aBuild [(.p (.str [])), (.p (.int .i64 0)), (.p (.int .i64 0)), (.full []), (.p (.bool false)), (.p (.int .i64 0))] [(0, 1, (.p (.str [108, 116]))), (1, 5, v48)] fun v49 =>
  aLoad true 5 v14 h17 fun v50 =>
  aBuild [(.p (.str [])), (.p (.int .i64 0)), (.p (.int .i64 0)), (.full []), (.p (.bool false)), (.p (.int .i64 0))] [(0, 1, (.p (.str [97, 110, 100]))), (1, 5, v50)] fun v51 =>
  aLoad true 5 v14 h17 fun v52 =>
  aBuild [(.p (.str [])), (.p (.int .i64 0)), (.p (.int .i64 0)), (.full []), (.p (.bool false)), (.p (.int .i64 0))] [(0, 1, (.p (.str [111, 114]))), (1, 5, v52)] fun v53 =>
  aBuildSlice 1 [(.p (.int .i64 3)), (.p (.int .i64 3))] fun v54 =>
  aBuild [(.p (.int .i64 0)), (.p (.int .i64 0)), (.full []), (.p (.bool false)), (.p (.int .i64 0))] [(0, 1, (.p (.int .i64 2))), (1, 1, (.p (.int .i64 2))), (2, 1, v54), (3, 1, (.p (.bool false))), (4, 1, (.p (.int .i64 3)))] fun v55 =>
  aBuild [(.p (.str [])), (.p (.int .i64 0)), (.p (.int .i64 0)), (.full []), (.p (.bool false)), (.p (.int .i64 0))] [(0, 1, (.p (.str [99, 97, 116]))), (1, 5, v55)] fun v56 =>
  aBuildSlice 1 [(.p (.int .i64 2)), (.p (.int .i64 0)), (.p (.int .i64 0))] fun v57 =>
  aBuild [(.p (.int .i64 0)), (.p (.int .i64 0)), (.full []), (.p (.bool false)), (.p (.int .i64 0))] [(0, 1, (.p (.int .i64 3))), (1, 1, (.p (.int .i64 3))), (2, 1, v57), (3, 1, (.p (.bool true))), (4, 1, (.p (.int .i64 0)))] fun v58 =>
  aBuild [(.p (.str [])), (.p (.int .i64 0)), (.p (.int .i64 0)), (.full []), (.p (.bool false)), (.p (.int .i64 0))] [(0, 1, (.p (.str [105, 102]))), (1, 5, v58)] fun v59 =>
  aBuildSlice 6 [v19, v21, v24, v26, v29, v32, v35, v37, v39, v41, v43, v45, v47, v49, v51, v53, v56, v59] fun v60 =>
  K v60 h17

def expr_shapes_ann : Nat → List Nat := fun _ => []

theorem expr_shapes_eq (H : List Ob) (r : AV) (Ho : List Ob) : aBody Tryz.prog expr_shapes_ann Tryz.f84 H [] r Ho = expr_shapes H (fun v H' => Gives H.length v H' r Ho) := by kernel_rfl

theorem expr_shapes_fn {r : AV} {Ho : List Ob} (h : expr_shapes [] (fun v H' => Gives 0 v H' r Ho)) : Abs.Fn Tryz.prog expr_shapes_i [] [] r Ho :=
  fn_intro mixed expr_shapes_ann (fn := Tryz.f84) (by kernel_rfl) (by kernel_rfl) (by rw [expr_shapes_eq]; exact h)

/- (runnel/expr.Expr).fields -/
def expr_Expr_fields (x0 x1 : AV) (H : List Ob) (K : AV → List Ob → Prop) : Prop :=
  aBox x0 H fun v0 h1 =>
  aBox x1 h1 fun v2 h3 =>
  aFieldAddr 7 v0 fun v4 =>
  aLoad false 1 v4 h3 fun v5 =>
  aLen false false v5 fun v6 =>
  aFieldAddr 0 v2 fun v7 =>
  aLoad false 1 v7 h3 fun v8 =>
  aBin false false .geq v6 v8 fun v9 =>
  aMerge true v9 (fun Q10 =>
  aFieldAddr 7 v0 fun v11 =>
  aLoad false 1 v11 h3 fun v12 =>
  aLenS false v12 fun v13 =>
  aFieldAddr 1 v2 fun v14 =>
  aLoad false 1 v14 h3 fun v15 =>
  aBin false false .leq v13 v15 fun v16 =>
  (h3 = h3 ∧ Q10 v16)) fun v17 =>
  aMerge true v17 (fun Q18 =>
  aFieldAddr 0 v0 fun v19 =>
  aLoad false 1 v19 h3 fun v20 =>
  aBin false false .eql v20 (.p (.str [108, 105, 116])) fun v21 =>
  aMerge false v21 (fun Q22 =>
  aFieldAddr 1 v0 fun v23 =>
  aLoad true 5 v23 h3 fun v24 =>
  aCall Tryz.prog (.p (.func expr_none_i [])) [v24] h3 fun v25 h26 =>
  (h26 = h3 ∧ Q22 v25)) fun v27 =>
  (h3 = h3 ∧ Q18 v27)) fun v28 =>
  aMerge true v28 (fun Q29 =>
  aFieldAddr 0 v0 fun v30 =>
  aLoad false 1 v30 h3 fun v31 =>
  aBin false false .eql v31 (.p (.str [97, 116])) fun v32 =>
  aMerge false v32 (fun Q33 =>
  aFieldAddr 6 v0 fun v34 =>
  aLoad false 1 v34 h3 fun v35 =>
  aBin false false .eql v35 (.p (.int .i64 0)) fun v36 =>
  (h3 = h3 ∧ Q33 v36)) fun v37 =>
  (h3 = h3 ∧ Q29 v37)) fun v38 =>
  K v38 h3

def expr_Expr_fields_ann : Nat → List Nat := fun _ => []

theorem expr_Expr_fields_eq (x0 x1 : AV) (H : List Ob) (r : AV) (Ho : List Ob) : aBody Tryz.prog expr_Expr_fields_ann Tryz.f85 H [x0, x1] r Ho = expr_Expr_fields x0 x1 H (fun v H' => Gives H.length v H' r Ho) := by kernel_rfl

theorem expr_Expr_fields_fn {x0 x1 : AV} {r : AV} {Ho : List Ob} (h : expr_Expr_fields x0 x1 [] (fun v H' => Gives 0 v H' r Ho)) : Abs.Fn Tryz.prog expr_Expr_fields_i [] [x0, x1] r Ho :=
  fn_intro mixed expr_Expr_fields_ann (fn := Tryz.f85) (by kernel_rfl) (by kernel_rfl) (by rw [expr_Expr_fields_eq]; exact h)

/- runnel/expr.fits -/
def expr_fits_L1 (q1s1 q1s2 q1s8 q1s9 y0 : AV) (H : List Ob) (B1 : List AV → List Ob → Prop) (K : AV → List Ob → Prop) : Prop :=
  aBin false false .lss y0 q1s9 fun v5 =>
  aGuard v5
  (aIndexAddr 1 q1s8 y0 fun v6 =>
  aLoad false 1 v6 H fun v7 =>
  aBin false false .neq v7 (.p (.int .i64 0)) fun v8 =>
  aMerge true v8 (fun Q9 =>
  aIndexAddr 2 q1s1 y0 fun v10 =>
  aFieldAddr 0 v10 fun v11 =>
  aLoad false 1 v11 H fun v12 =>
  aBin false false .neq v12 v7 fun v13 =>
  (H = H ∧ Q9 v13)) fun v14 =>
  aGuard v14
  (K (.p (.bool false)) H)
  (aBin false false .add y0 (.p (.int .i64 1)) fun v15 =>
  B1 [v15] H))
  (aFieldAddr 3 q1s2 fun v16 =>
  aLoad false 1 v16 H fun v17 =>
  aUn .not v17 fun v18 =>
  aGuard v18
  (K (.p (.bool true)) H)
  (aLen true false q1s1 fun v19 =>
  aBin false false .sub v19 (.p (.int .i64 1)) fun v20 =>
  aIndexAddr 2 q1s1 v20 fun v21 =>
  aLoad true 2 v21 H fun v22 =>
  aLen true false q1s1 fun v23 =>
  aBin false false .sub v23 (.p (.int .i64 2)) fun v24 =>
  aIndexAddr 2 q1s1 v24 fun v25 =>
  aLoad true 2 v25 H fun v26 =>
  aCallT Tryz.prog (.p (.func typ_Same_i [])) [v22, v26] fun v27 =>
  K v27 H))

def expr_fits (x0 x1 : AV) (H : List Ob) (K : AV → List Ob → Prop) : Prop :=
  aBox x0 H fun v0 h1 =>
  aFieldAddr 2 v0 fun v2 =>
  aLoad false 1 v2 h1 fun v3 =>
  aLen false false v3 fun v4 =>
  aLoopN 1 [(.p (.int .i64 0))] h1 fun xs H B1 => expr_fits_L1 x1 v0 v3 v4 (xs.getD 0 .top) H B1 K

def expr_fits_ann : Nat → List Nat := fun k => match k with | 2 => [10] | _ => []

theorem expr_fits_eq (x0 x1 : AV) (H : List Ob) (r : AV) (Ho : List Ob) : aBody Tryz.prog expr_fits_ann Tryz.f87 H [x0, x1] r Ho = expr_fits x0 x1 H (fun v H' => Gives H.length v H' r Ho) := by kernel_rfl

theorem expr_fits_fn {x0 x1 : AV} {r : AV} {Ho : List Ob} (h : expr_fits x0 x1 [] (fun v H' => Gives 0 v H' r Ho)) : Abs.Fn Tryz.prog expr_fits_i [] [x0, x1] r Ho :=
  fn_intro mixed expr_fits_ann (fn := Tryz.f87) (by kernel_rfl) (by kernel_rfl) (by rw [expr_fits_eq]; exact h)

/- (runnel/expr.Expr).comes -/
def expr_Expr_comes (x0 x1 x2 x3 : AV) (H : List Ob) (K : AV → List Ob → Prop) : Prop :=
  aBox x0 H fun v0 h1 =>
  aBox x1 h1 fun v2 h3 =>
  aBox x3 h3 fun v4 h5 =>
  aAlloc [(.p (.int .i64 0)), (.full [])] h5 fun v6 h7 =>
  aFieldAddr 0 v0 fun v8 =>
  aLoad false 1 v8 h7 fun v9 =>
  aBin false false .eql v9 (.p (.str [108, 105, 116])) fun v10 =>
  aGuard v10
  (aFieldAddr 1 v0 fun v11 =>
  aLoad true 5 v11 h7 fun v12 =>
  aCall Tryz.prog (.p (.func val_TypeOf_i [])) [v12] h7 fun v13 h14 =>
  aStore 2 v6 v13 h14 fun _ h16 =>
  aLoad true 2 v6 h16 fun v17 =>
  K (.tup [v17, (.p (.int .i64 0))]) h16)
  (aBin false false .eql v9 (.p (.str [120])) fun v18 =>
  aGuard v18
  (aLoad true 2 v4 h7 fun v19 =>
  aStore 2 v6 v19 h7 fun _ h21 =>
  aLoad true 2 v6 h21 fun v22 =>
  K (.tup [v22, (.p (.int .i64 0))]) h21)
  (aBin false false .eql v9 (.p (.str [97, 116])) fun v23 =>
  aGuard v23
  (aFieldAddr 6 v0 fun v24 =>
  aLoad false 1 v24 h7 fun v25 =>
  aBin false false .lss v25 (.p (.int .i64 0)) fun v26 =>
  aGuard v26
  (aBuild [(.p (.int .i64 0)), (.full [])] [] fun v27 =>
  aStore 2 v6 v27 h7 fun _ h29 =>
  aLoad true 2 v6 h29 fun v30 =>
  K (.tup [v30, (.p (.int .i64 1))]) h29)
  (aFieldAddr 6 v0 fun v31 =>
  aLoad false 1 v31 h7 fun v32 =>
  aIndexAddr 2 x2 (.p (.int .i64 0)) fun v33 =>
  aFieldAddr 1 v33 fun v34 =>
  aLoad false 1 v34 h7 fun v35 =>
  aLen true false v35 fun v36 =>
  aBin false false .geq v32 v36 fun v37 =>
  aGuard v37
  (aBuild [(.p (.int .i64 0)), (.full [])] [] fun v38 =>
  aStore 2 v6 v38 h7 fun _ h40 =>
  aLoad true 2 v6 h40 fun v41 =>
  K (.tup [v41, (.p (.int .i64 1))]) h40)
  (aIndexAddr 2 x2 (.p (.int .i64 0)) fun v42 =>
  aFieldAddr 1 v42 fun v43 =>
  aLoad false 1 v43 h7 fun v44 =>
  aFieldAddr 6 v0 fun v45 =>
  aLoad false 1 v45 h7 fun v46 =>
  aIndexAddr 2 v44 v46 fun v47 =>
  aLoad true 2 v47 h7 fun v48 =>
  aStore 2 v6 v48 h7 fun _ h50 =>
  aLoad true 2 v6 h50 fun v51 =>
  K (.tup [v51, (.p (.int .i64 0))]) h50)))
  (aBin false false .eql v9 (.p (.str [116, 117, 112])) fun v52 =>
  aGuard v52
  (aBuild [(.p (.int .i64 0)), (.full [])] [(0, 1, (.p (.int .i64 4))), (1, 1, x2)] fun v53 =>
  aAlloc [(.p (.int .i64 0)), (.full [])] h7 fun v54 h55 =>
  aStore 2 v54 v53 h55 fun _ h57 =>
  aLoad true 2 v54 h57 fun v58 =>
  aCall Tryz.prog (.p (.func typ_Check_i [])) [v58] h57 fun v59 h60 =>
  aBin false false .neq v59 (.p (.int .i64 0)) fun v61 =>
  aGuard v61
  (aBuild [(.p (.int .i64 0)), (.full [])] [] fun v62 =>
  aStore 2 v6 v62 h60 fun _ h64 =>
  aLoad true 2 v6 h64 fun v65 =>
  K (.tup [v65, v59]) h64)
  (aLoad true 2 v54 h60 fun v66 =>
  aStore 2 v6 v66 h60 fun _ h68 =>
  aLoad true 2 v6 h68 fun v69 =>
  K (.tup [v69, (.p (.int .i64 0))]) h68))
  (aBin false false .eql v9 (.p (.str [105, 102])) fun v70 =>
  aGuard v70
  (aIndexAddr 2 x2 (.p (.int .i64 1)) fun v71 =>
  aLoad true 2 v71 h7 fun v72 =>
  aStore 2 v6 v72 h7 fun _ h74 =>
  aLoad true 2 v6 h74 fun v75 =>
  K (.tup [v75, (.p (.int .i64 0))]) h74)
  (aFieldAddr 4 v2 fun v76 =>
  aLoad false 1 v76 h7 fun v77 =>
  aBuild [(.p (.int .i64 0)), (.full [])] [(0, 1, v77)] fun v78 =>
  aStore 2 v6 v78 h7 fun _ h80 =>
  aLoad true 2 v6 h80 fun v81 =>
  K (.tup [v81, (.p (.int .i64 0))]) h80)))))

def expr_Expr_comes_ann : Nat → List Nat := fun _ => []

theorem expr_Expr_comes_eq (x0 x1 x2 x3 : AV) (H : List Ob) (r : AV) (Ho : List Ob) : aBody Tryz.prog expr_Expr_comes_ann Tryz.f88 H [x0, x1, x2, x3] r Ho = expr_Expr_comes x0 x1 x2 x3 H (fun v H' => Gives H.length v H' r Ho) := by kernel_rfl

theorem expr_Expr_comes_fn {x0 x1 x2 x3 : AV} {r : AV} {Ho : List Ob} (h : expr_Expr_comes x0 x1 x2 x3 [] (fun v H' => Gives 0 v H' r Ho)) : Abs.Fn Tryz.prog expr_Expr_comes_i [] [x0, x1, x2, x3] r Ho :=
  fn_intro mixed expr_Expr_comes_ann (fn := Tryz.f88) (by kernel_rfl) (by kernel_rfl) (by rw [expr_Expr_comes_eq]; exact h)

/- runnel/runnelref6.Arity -/
def runnelref6_Arity (x0 : AV) (H : List Ob) (K : AV → List Ob → Prop) : Prop :=
  aBin false false .eql x0 (.p (.str [108, 105, 116])) fun v0 =>
  aMerge false v0 (fun Q1 =>
  aBin false false .eql x0 (.p (.str [120])) fun v2 =>
  (H = H ∧ Q1 v2)) fun v3 =>
  aGuard v3
  (K (.p (.int .i64 0)) H)
  (aBin false false .eql x0 (.p (.str [97, 116])) fun v4 =>
  aMerge false v4 (fun Q5 =>
  aBin false false .eql x0 (.p (.str [110, 101, 103])) fun v6 =>
  aMerge false v6 (fun Q7 =>
  aBin false false .eql x0 (.p (.str [110, 111, 116])) fun v8 =>
  aMerge false v8 (fun Q9 =>
  aBin false false .eql x0 (.p (.str [108, 101, 110])) fun v10 =>
  (H = H ∧ Q9 v10)) fun v11 =>
  (H = H ∧ Q7 v11)) fun v12 =>
  (H = H ∧ Q5 v12)) fun v13 =>
  aGuard v13
  (K (.p (.int .i64 1)) H)
  (aBin false false .eql x0 (.p (.str [97, 100, 100])) fun v14 =>
  aMerge false v14 (fun Q15 =>
  aBin false false .eql x0 (.p (.str [115, 117, 98])) fun v16 =>
  aMerge false v16 (fun Q17 =>
  aBin false false .eql x0 (.p (.str [109, 117, 108])) fun v18 =>
  aMerge false v18 (fun Q19 =>
  aBin false false .eql x0 (.p (.str [100, 105, 118])) fun v20 =>
  aMerge false v20 (fun Q21 =>
  aBin false false .eql x0 (.p (.str [114, 101, 109])) fun v22 =>
  aMerge false v22 (fun Q23 =>
  aBin false false .eql x0 (.p (.str [101, 113])) fun v24 =>
  aMerge false v24 (fun Q25 =>
  aBin false false .eql x0 (.p (.str [108, 116])) fun v26 =>
  aMerge false v26 (fun Q27 =>
  aBin false false .eql x0 (.p (.str [97, 110, 100])) fun v28 =>
  aMerge false v28 (fun Q29 =>
  aBin false false .eql x0 (.p (.str [111, 114])) fun v30 =>
  aMerge false v30 (fun Q31 =>
  aBin false false .eql x0 (.p (.str [99, 97, 116])) fun v32 =>
  (H = H ∧ Q31 v32)) fun v33 =>
  (H = H ∧ Q29 v33)) fun v34 =>
  (H = H ∧ Q27 v34)) fun v35 =>
  (H = H ∧ Q25 v35)) fun v36 =>
  (H = H ∧ Q23 v36)) fun v37 =>
  (H = H ∧ Q21 v37)) fun v38 =>
  (H = H ∧ Q19 v38)) fun v39 =>
  (H = H ∧ Q17 v39)) fun v40 =>
  (H = H ∧ Q15 v40)) fun v41 =>
  aGuard v41
  (K (.p (.int .i64 2)) H)
  (aBin false false .eql x0 (.p (.str [105, 102])) fun v42 =>
  aGuard v42
  (K (.p (.int .i64 3)) H)
  (aBin false false .eql x0 (.p (.str [116, 117, 112])) fun v43 =>
  aGuard v43
  (K (.p (.int .i64 (-1))) H)
  (K (.p (.int .i64 (-2))) H)))))

def runnelref6_Arity_ann : Nat → List Nat := fun k => match k with | 1000003 => [1] | 1000008 => [1] | 1000007 => [1] | 1000006 => [1] | 1000019 => [1] | 1000018 => [1] | 1000017 => [1] | 1000016 => [1] | 1000015 => [1] | 1000014 => [1] | 1000013 => [1] | 1000012 => [1] | 1000011 => [1] | _ => []

theorem runnelref6_Arity_eq (x0 : AV) (H : List Ob) (r : AV) (Ho : List Ob) : aBody Tryz.prog runnelref6_Arity_ann Tryz.f92 H [x0] r Ho = runnelref6_Arity x0 H (fun v H' => Gives H.length v H' r Ho) := by kernel_rfl

theorem runnelref6_Arity_fn {x0 : AV} {r : AV} {Ho : List Ob} (h : runnelref6_Arity x0 [] (fun v H' => Gives 0 v H' r Ho)) : Abs.Fn Tryz.prog runnelref6_Arity_i [] [x0] r Ho :=
  fn_intro mixed runnelref6_Arity_ann (fn := Tryz.f92) (by kernel_rfl) (by kernel_rfl) (by rw [runnelref6_Arity_eq]; exact h)

/- runnel/runnelref6.nought -/
def runnelref6_nought (x0 : AV) (H : List Ob) (K : AV → List Ob → Prop) : Prop :=
  aBox x0 H fun v0 h1 =>
  aFieldAddr 0 v0 fun v2 =>
  aLoad false 1 v2 h1 fun v3 =>
  aBin false false .eql v3 (.p (.int .i64 0)) fun v4 =>
  aMerge true v4 (fun Q5 =>
  aFieldAddr 1 v0 fun v6 =>
  aLoad false 1 v6 h1 fun v7 =>
  aBin false false .eql v7 (.p (.int .i64 0)) fun v8 =>
  (h1 = h1 ∧ Q5 v8)) fun v9 =>
  aMerge true v9 (fun Q10 =>
  aFieldAddr 2 v0 fun v11 =>
  aLoad false 1 v11 h1 fun v12 =>
  aUn .not v12 fun v13 =>
  (h1 = h1 ∧ Q10 v13)) fun v14 =>
  aMerge true v14 (fun Q15 =>
  aFieldAddr 3 v0 fun v16 =>
  aLoad false 1 v16 h1 fun v17 =>
  aBin false false .eql v17 (.p (.str [])) fun v18 =>
  (h1 = h1 ∧ Q15 v18)) fun v19 =>
  aMerge true v19 (fun Q20 =>
  aFieldAddr 4 v0 fun v21 =>
  aLoad false 1 v21 h1 fun v22 =>
  aLenS false v22 fun v23 =>
  aBin false false .eql v23 (.p (.int .i64 0)) fun v24 =>
  (h1 = h1 ∧ Q20 v24)) fun v25 =>
  K v25 h1

def runnelref6_nought_ann : Nat → List Nat := fun _ => []

theorem runnelref6_nought_eq (x0 : AV) (H : List Ob) (r : AV) (Ho : List Ob) : aBody Tryz.prog runnelref6_nought_ann Tryz.f93 H [x0] r Ho = runnelref6_nought x0 H (fun v H' => Gives H.length v H' r Ho) := by kernel_rfl

theorem runnelref6_nought_fn {x0 : AV} {r : AV} {Ho : List Ob} (h : runnelref6_nought x0 [] (fun v H' => Gives 0 v H' r Ho)) : Abs.Fn Tryz.prog runnelref6_nought_i [] [x0] r Ho :=
  fn_intro mixed runnelref6_nought_ann (fn := Tryz.f93) (by kernel_rfl) (by kernel_rfl) (by rw [runnelref6_nought_eq]; exact h)

/- runnel/runnelref6.OpType -/
def runnelref6_OpType_L1 (q1s2 q1s6 q1s8 q1s9 y0 : AV) (H : List Ob) (B1 : List AV → List Ob → Prop) (K : AV → List Ob → Prop) : Prop :=
  aLen false false q1s2 fun v2 =>
  aBin false false .lss y0 v2 fun v3 =>
  aGuard v3
  (aIndexAddr 2 q1s2 y0 fun v4 =>
  aFieldAddr 0 v4 fun v5 =>
  aLoad false 1 v5 H fun v6 =>
  aBin false false .neq v6 q1s8 fun v7 =>
  aGuard v7
  (aBuild [(.p (.int .i64 0)), (.full [])] [] fun v8 =>
  aStore 2 q1s6 v8 H fun _ h10 =>
  aLoad true 2 q1s6 h10 fun v11 =>
  K (.tup [v11, (.p (.int .i64 5))]) h10)
  (aBin false false .add y0 (.p (.int .i64 1)) fun v12 =>
  B1 [v12] H))
  (aCall Tryz.prog (.p (.func runnelref6_Plain_i [])) [q1s9] H fun v13 h14 =>
  aStore 2 q1s6 v13 h14 fun _ h16 =>
  aLoad true 2 q1s6 h16 fun v17 =>
  K (.tup [v17, (.p (.int .i64 0))]) h16)

def runnelref6_OpType_J1 (j1s2 j1s6 j1s8 j1s9 : AV) (H : List Ob) (K : AV → List Ob → Prop) : Prop :=
  aLoopN 1 [(.p (.int .i64 0))] H fun xs H B1 => runnelref6_OpType_L1 j1s2 j1s6 j1s8 j1s9 (xs.getD 0 .top) H B1 K

def runnelref6_OpType (x0 x1 x2 : AV) (H : List Ob) (K : AV → List Ob → Prop) : Prop :=
  aAlloc [(.p (.int .i64 0)), (.full [])] H fun v0 h1 =>
  aBin false false .eql x0 (.p (.str [97, 116])) fun v18 =>
  aGuard v18
  (aIndexAddr 2 x2 (.p (.int .i64 0)) fun v19 =>
  aFieldAddr 0 v19 fun v20 =>
  aLoad false 1 v20 h1 fun v21 =>
  aBin false false .neq v21 (.p (.int .i64 4)) fun v22 =>
  aGuard v22
  (aBuild [(.p (.int .i64 0)), (.full [])] [] fun v23 =>
  aStore 2 v0 v23 h1 fun _ h25 =>
  aLoad true 2 v0 h25 fun v26 =>
  K (.tup [v26, (.p (.int .i64 5))]) h25)
  (aBin false false .lss x1 (.p (.int .i64 0)) fun v27 =>
  aMerge false v27 (fun Q28 =>
  aIndexAddr 2 x2 (.p (.int .i64 0)) fun v29 =>
  aFieldAddr 1 v29 fun v30 =>
  aLoad false 1 v30 h1 fun v31 =>
  aLenS false v31 fun v32 =>
  aBin false false .geq x1 v32 fun v33 =>
  (h1 = h1 ∧ Q28 v33)) fun v34 =>
  aGuard v34
  (aBuild [(.p (.int .i64 0)), (.full [])] [] fun v35 =>
  aStore 2 v0 v35 h1 fun _ h37 =>
  aLoad true 2 v0 h37 fun v38 =>
  K (.tup [v38, (.p (.int .i64 1))]) h37)
  (aIndexAddr 2 x2 (.p (.int .i64 0)) fun v39 =>
  aFieldAddr 1 v39 fun v40 =>
  aLoad false 1 v40 h1 fun v41 =>
  aIndexAddr 2 v41 x1 fun v42 =>
  aLoad true 2 v42 h1 fun v43 =>
  aStore 2 v0 v43 h1 fun _ h45 =>
  aLoad true 2 v0 h45 fun v46 =>
  K (.tup [v46, (.p (.int .i64 0))]) h45)))
  (aBin false false .eql x0 (.p (.str [116, 117, 112])) fun v47 =>
  aGuard v47
  (aBuild [(.p (.int .i64 0)), (.full [])] [(0, 1, (.p (.int .i64 4))), (1, 1, x2)] fun v48 =>
  aAlloc [(.p (.int .i64 0)), (.full [])] h1 fun v49 h50 =>
  aStore 2 v49 v48 h50 fun _ h52 =>
  aLoad true 2 v49 h52 fun v53 =>
  aCall Tryz.prog (.p (.func runnelref6_CheckType_i [])) [v53] h52 fun v54 h55 =>
  aBin false false .neq v54 (.p (.int .i64 0)) fun v56 =>
  aGuard v56
  (aBuild [(.p (.int .i64 0)), (.full [])] [] fun v57 =>
  aStore 2 v0 v57 h55 fun _ h59 =>
  aLoad true 2 v0 h59 fun v60 =>
  K (.tup [v60, (.p (.int .i64 9))]) h59)
  (aLoad true 2 v49 h55 fun v61 =>
  aStore 2 v0 v61 h55 fun _ h63 =>
  aLoad true 2 v0 h63 fun v64 =>
  K (.tup [v64, (.p (.int .i64 0))]) h63))
  (aBin false false .eql x0 (.p (.str [101, 113])) fun v65 =>
  aMerge false v65 (fun Q66 =>
  aBin false false .eql x0 (.p (.str [108, 116])) fun v67 =>
  (h1 = h1 ∧ Q66 v67)) fun v68 =>
  aGuard v68
  (aIndexAddr 2 x2 (.p (.int .i64 0)) fun v69 =>
  aLoad true 2 v69 h1 fun v70 =>
  aIndexAddr 2 x2 (.p (.int .i64 1)) fun v71 =>
  aLoad true 2 v71 h1 fun v72 =>
  aCallT Tryz.prog (.p (.func runnelref6_SameType_i [])) [v70, v72] fun v73 =>
  aUn .not v73 fun v74 =>
  aGuard v74
  (aBuild [(.p (.int .i64 0)), (.full [])] [] fun v75 =>
  aStore 2 v0 v75 h1 fun _ h77 =>
  aLoad true 2 v0 h77 fun v78 =>
  K (.tup [v78, (.p (.int .i64 5))]) h77)
  (aCall Tryz.prog (.p (.func runnelref6_Plain_i [])) [(.p (.int .i64 2))] h1 fun v79 h80 =>
  aStore 2 v0 v79 h80 fun _ h82 =>
  aLoad true 2 v0 h82 fun v83 =>
  K (.tup [v83, (.p (.int .i64 0))]) h82))
  (aBin false false .eql x0 (.p (.str [105, 102])) fun v84 =>
  aGuard v84
  (aIndexAddr 2 x2 (.p (.int .i64 0)) fun v85 =>
  aFieldAddr 0 v85 fun v86 =>
  aLoad false 1 v86 h1 fun v87 =>
  aBin false false .neq v87 (.p (.int .i64 2)) fun v88 =>
  aGuard v88
  (aBuild [(.p (.int .i64 0)), (.full [])] [] fun v89 =>
  aStore 2 v0 v89 h1 fun _ h91 =>
  aLoad true 2 v0 h91 fun v92 =>
  K (.tup [v92, (.p (.int .i64 5))]) h91)
  (aIndexAddr 2 x2 (.p (.int .i64 1)) fun v93 =>
  aLoad true 2 v93 h1 fun v94 =>
  aIndexAddr 2 x2 (.p (.int .i64 2)) fun v95 =>
  aLoad true 2 v95 h1 fun v96 =>
  aCallT Tryz.prog (.p (.func runnelref6_SameType_i [])) [v94, v96] fun v97 =>
  aUn .not v97 fun v98 =>
  aGuard v98
  (aBuild [(.p (.int .i64 0)), (.full [])] [] fun v99 =>
  aStore 2 v0 v99 h1 fun _ h101 =>
  aLoad true 2 v0 h101 fun v102 =>
  K (.tup [v102, (.p (.int .i64 5))]) h101)
  (aIndexAddr 2 x2 (.p (.int .i64 1)) fun v103 =>
  aLoad true 2 v103 h1 fun v104 =>
  aStore 2 v0 v104 h1 fun _ h106 =>
  aLoad true 2 v0 h106 fun v107 =>
  K (.tup [v107, (.p (.int .i64 0))]) h106)))
  (aBin false false .eql x0 (.p (.str [110, 101, 103])) fun v108 =>
  aMerge false v108 (fun Q109 =>
  aBin false false .eql x0 (.p (.str [97, 100, 100])) fun v110 =>
  aMerge false v110 (fun Q111 =>
  aBin false false .eql x0 (.p (.str [115, 117, 98])) fun v112 =>
  aMerge false v112 (fun Q113 =>
  aBin false false .eql x0 (.p (.str [109, 117, 108])) fun v114 =>
  aMerge false v114 (fun Q115 =>
  aBin false false .eql x0 (.p (.str [100, 105, 118])) fun v116 =>
  aMerge false v116 (fun Q117 =>
  aBin false false .eql x0 (.p (.str [114, 101, 109])) fun v118 =>
  (h1 = h1 ∧ Q117 v118)) fun v119 =>
  (h1 = h1 ∧ Q115 v119)) fun v120 =>
  (h1 = h1 ∧ Q113 v120)) fun v121 =>
  (h1 = h1 ∧ Q111 v121)) fun v122 =>
  (h1 = h1 ∧ Q109 v122)) fun v123 =>
  aGuard v123
  (runnelref6_OpType_J1 x2 v0 (.p (.int .i64 1)) (.p (.int .i64 1)) h1 K)
  (aBin false false .eql x0 (.p (.str [110, 111, 116])) fun v124 =>
  aMerge false v124 (fun Q125 =>
  aBin false false .eql x0 (.p (.str [97, 110, 100])) fun v126 =>
  aMerge false v126 (fun Q127 =>
  aBin false false .eql x0 (.p (.str [111, 114])) fun v128 =>
  (h1 = h1 ∧ Q127 v128)) fun v129 =>
  (h1 = h1 ∧ Q125 v129)) fun v130 =>
  aGuard v130
  (runnelref6_OpType_J1 x2 v0 (.p (.int .i64 2)) (.p (.int .i64 2)) h1 K)
  (aBin false false .eql x0 (.p (.str [99, 97, 116])) fun v131 =>
  aGuard v131
  (runnelref6_OpType_J1 x2 v0 (.p (.int .i64 3)) (.p (.int .i64 3)) h1 K)
  (aBin false false .eql x0 (.p (.str [108, 101, 110])) fun v132 =>
  aGuard v132
  (runnelref6_OpType_J1 x2 v0 (.p (.int .i64 3)) (.p (.int .i64 1)) h1 K)
  (runnelref6_OpType_J1 x2 v0 (.p (.int .i64 0)) (.p (.int .i64 0)) h1 K))))))))

def runnelref6_OpType_ann : Nat → List Nat := fun k => match k with | 44 => [11] | 1000016 => [1] | 1000029 => [1] | 1000028 => [1] | 1000027 => [1] | 1000026 => [1] | 1000025 => [1] | 1000034 => [1] | 1000033 => [1] | _ => []

theorem runnelref6_OpType_eq (x0 x1 x2 : AV) (H : List Ob) (r : AV) (Ho : List Ob) : aBody Tryz.prog runnelref6_OpType_ann Tryz.f96 H [x0, x1, x2] r Ho = runnelref6_OpType x0 x1 x2 H (fun v H' => Gives H.length v H' r Ho) := by kernel_rfl

theorem runnelref6_OpType_fn {x0 x1 x2 : AV} {r : AV} {Ho : List Ob} (h : runnelref6_OpType x0 x1 x2 [] (fun v H' => Gives 0 v H' r Ho)) : Abs.Fn Tryz.prog runnelref6_OpType_i [] [x0, x1, x2] r Ho :=
  fn_intro mixed runnelref6_OpType_ann (fn := Tryz.f96) (by kernel_rfl) (by kernel_rfl) (by rw [runnelref6_OpType_eq]; exact h)

/- runnel/runnellaw4.budget -/
def runnellaw4_budget_L1 (q1s1 q1s3 y0 y1 : AV) (H : List Ob) (B1 : List AV → List Ob → Prop) (K : AV → List Ob → Prop) : Prop :=
  aFieldAddr 7 q1s3 fun v26 =>
  aLoad false 1 v26 H fun v27 =>
  aLen false false v27 fun v28 =>
  aBin false false .lss y1 v28 fun v29 =>
  aMerge true v29 (fun Q30 =>
  aBin false false .gtr y0 (.p (.int .i64 0)) fun v31 =>
  (H = H ∧ Q30 v31)) fun v32 =>
  aGuard v32
  (aFieldAddr 7 q1s3 fun v33 =>
  aLoad false 1 v33 H fun v34 =>
  aIndexAddr 8 v34 y1 fun v35 =>
  aLoad true 8 v35 H fun v36 =>
  aBin false false .sub q1s1 (.p (.int .i64 1)) fun v37 =>
  aCall Tryz.prog (.p (.func runnellaw4_budget_i [])) [v36, v37, y0] H fun v38 h39 =>
  aBin false false .add y1 (.p (.int .i64 1)) fun v40 =>
  B1 [v38, v40] h39)
  (K y0 H)

def runnellaw4_budget (x0 x1 x2 : AV) (H : List Ob) (K : AV → List Ob → Prop) : Prop :=
  aBox x0 H fun v0 h1 =>
  aBin false false .leq x2 (.p (.int .i64 0)) fun v2 =>
  aMerge false v2 (fun Q3 =>
  aBin false false .leq x1 (.p (.int .i64 0)) fun v4 =>
  (h1 = h1 ∧ Q3 v4)) fun v5 =>
  aMerge false v5 (fun Q6 =>
  aFieldAddr 7 v0 fun v7 =>
  aLoad false 1 v7 h1 fun v8 =>
  aLenS false v8 fun v9 =>
  aBin false false .gtr v9 (.p (.int .i64 12)) fun v10 =>
  (h1 = h1 ∧ Q6 v10)) fun v11 =>
  aMerge false v11 (fun Q12 =>
  aFieldAddr 0 v0 fun v13 =>
  aLoad false 1 v13 h1 fun v14 =>
  aLenS true v14 fun v15 =>
  aBin false false .gtr v15 (.p (.int .i64 20)) fun v16 =>
  (h1 = h1 ∧ Q12 v16)) fun v17 =>
  aMerge false v17 (fun Q18 =>
  aFieldAddr 1 v0 fun v19 =>
  aLoad true 5 v19 h1 fun v20 =>
  aCall Tryz.prog (.p (.func runnellaw2_Few_i [])) [v20] h1 fun v21 h22 =>
  aUn .not v21 fun v23 =>
  (h22 = h1 ∧ Q18 v23)) fun v24 =>
  aGuard v24
  (K (.p (.int .i64 0)) h1)
  (aBin false false .sub x2 (.p (.int .i64 1)) fun v25 =>
  aLoopN 2 [v25, (.p (.int .i64 0))] h1 fun xs H B1 => runnellaw4_budget_L1 x1 v0 (xs.getD 0 .top) (xs.getD 1 .top) H B1 K)

def runnellaw4_budget_ann : Nat → List Nat := fun k => match k with | 5 => [2, 7] | _ => []

theorem runnellaw4_budget_eq (x0 x1 x2 : AV) (H : List Ob) (r : AV) (Ho : List Ob) : aBody Tryz.prog runnellaw4_budget_ann Tryz.f109 H [x0, x1, x2] r Ho = runnellaw4_budget x0 x1 x2 H (fun v H' => Gives H.length v H' r Ho) := by kernel_rfl

theorem runnellaw4_budget_fn {x0 x1 x2 : AV} {r : AV} {Ho : List Ob} (h : runnellaw4_budget x0 x1 x2 [] (fun v H' => Gives 0 v H' r Ho)) : Abs.Fn Tryz.prog runnellaw4_budget_i [] [x0, x1, x2] r Ho :=
  fn_intro mixed runnellaw4_budget_ann (fn := Tryz.f109) (by kernel_rfl) (by kernel_rfl) (by rw [runnellaw4_budget_eq]; exact h)

/- runnel/expr.none -/
def expr_none (x0 : AV) (H : List Ob) (K : AV → List Ob → Prop) : Prop :=
  aBox x0 H fun v0 h1 =>
  aLoad true 5 v0 h1 fun v2 =>
  aBuild [(.p (.int .i64 0)), (.p (.int .i64 0)), (.p (.bool false)), (.p (.str [])), (.full [])] [] fun v3 =>
  aCall Tryz.prog (.p (.func val_Same_i [])) [v2, v3] h1 fun v4 h5 =>
  K v4 h5

def expr_none_ann : Nat → List Nat := fun _ => []

theorem expr_none_eq (x0 : AV) (H : List Ob) (r : AV) (Ho : List Ob) : aBody Tryz.prog expr_none_ann Tryz.f120 H [x0] r Ho = expr_none x0 H (fun v H' => Gives H.length v H' r Ho) := by kernel_rfl

theorem expr_none_fn {x0 : AV} {r : AV} {Ho : List Ob} (h : expr_none x0 [] (fun v H' => Gives 0 v H' r Ho)) : Abs.Fn Tryz.prog expr_none_i [] [x0] r Ho :=
  fn_intro mixed expr_none_ann (fn := Tryz.f120) (by kernel_rfl) (by kernel_rfl) (by rw [expr_none_eq]; exact h)

/- runnel/runnelref6.Plain -/
def runnelref6_Plain (x0 : AV) (H : List Ob) (K : AV → List Ob → Prop) : Prop :=
  aAlloc [(.p (.int .i64 0)), (.full [])] H fun v0 h1 =>
  aBuild [(.p (.int .i64 0)), (.full [])] [(0, 1, x0)] fun v2 =>
  aStore 2 v0 v2 h1 fun _ h4 =>
  aLoad true 2 v0 h4 fun v5 =>
  K v5 h4

def runnelref6_Plain_ann : Nat → List Nat := fun _ => []

theorem runnelref6_Plain_eq (x0 : AV) (H : List Ob) (r : AV) (Ho : List Ob) : aBody Tryz.prog runnelref6_Plain_ann Tryz.f128 H [x0] r Ho = runnelref6_Plain x0 H (fun v H' => Gives H.length v H' r Ho) := by kernel_rfl

theorem runnelref6_Plain_fn {x0 : AV} {r : AV} {Ho : List Ob} (h : runnelref6_Plain x0 [] (fun v H' => Gives 0 v H' r Ho)) : Abs.Fn Tryz.prog runnelref6_Plain_i [] [x0] r Ho :=
  fn_intro mixed runnelref6_Plain_ann (fn := Tryz.f128) (by kernel_rfl) (by kernel_rfl) (by rw [runnelref6_Plain_eq]; exact h)

end Go.Proofs.YtijnpcociedigaaGreatDoor
end

section
/- Made by program (Gen.lean): functions of the dump, over trees. -/
set_option maxRecDepth 4000
set_option linter.unusedVariables false
namespace Go.Proofs.YtijnpcociedigaaGreatDoor
open Go Go.Abs

/- runnel/runnellaw7.Of -/
def runnellaw7_Of_L1 (q1s1 q1s2 q1s3 y0 : AV) (H : List Ob) (B1 : List AV → List Ob → Prop) (K : AV → List Ob → Prop) : Prop :=
  aFieldAddr 4 q1s1 fun v23 =>
  aLoad false 1 v23 H fun v24 =>
  aLen false false v24 fun v25 =>
  aBin false false .lss y0 v25 fun v26 =>
  aGuard v26
  (aFieldAddr 4 q1s3 fun v27 =>
  aLoad false 1 v27 H fun v28 =>
  aFieldAddr 4 q1s1 fun v29 =>
  aLoad false 1 v29 H fun v30 =>
  aIndexAddr 8 v30 y0 fun v31 =>
  aLoad true 8 v31 H fun v32 =>
  aCallT Tryz.prog (.p (.func runnellaw4_Of_i [])) [v32] fun v33 =>
  aBuildSlice 8 [v33] fun v34 =>
  aCalm [v28, v34] <|
  aAppend false 8 112 v28 v34 H fun v35 h36 =>
  aFieldAddr 4 q1s3 fun v37 =>
  aStore 1 v37 v35 h36 fun _ h39 =>
  aBin false false .add y0 (.p (.int .i64 1)) fun v40 =>
  B1 [v40] h39)
  (aLoad true 15 q1s3 H fun v41 =>
  aStore 15 q1s2 v41 H fun _ h43 =>
  aLoad true 15 q1s2 h43 fun v44 =>
  K v44 h43)

def runnellaw7_Of (x0 : AV) (H : List Ob) (K : AV → List Ob → Prop) : Prop :=
  aBox x0 H fun v0 h1 =>
  aAlloc [(.p (.int .i64 0)), (.p (.str [])), (.p (.int .i64 0)), (.full []), (.full []), (.p (.str [])), (.p (.int .i64 0)), (.p (.int .i64 0)), (.p (.bool false)), (.p (.str [])), (.full []), (.p (.int .i64 0)), (.full []), (.p (.int .i64 0)), (.p (.int .i64 0))] h1 fun v2 h3 =>
  aAlloc [(.p (.int .i64 0)), (.p (.str [])), (.p (.int .i64 0)), (.full []), (.full []), (.p (.str [])), (.p (.int .i64 0)), (.p (.int .i64 0)), (.p (.bool false)), (.p (.str [])), (.full []), (.p (.int .i64 0)), (.full []), (.p (.int .i64 0)), (.p (.int .i64 0))] h3 fun v4 h5 =>
  aFieldAddr 0 v0 fun v6 =>
  aLoad false 1 v6 h5 fun v7 =>
  aFieldAddr 1 v0 fun v8 =>
  aLoad false 1 v8 h5 fun v9 =>
  aFieldAddr 2 v0 fun v10 =>
  aLoad true 2 v10 h5 fun v11 =>
  aCallT Tryz.prog (.p (.func runnellaw1_Of_i [])) [v11] fun v12 =>
  aFieldAddr 5 v0 fun v13 =>
  aLoad true 8 v13 h5 fun v14 =>
  aCallT Tryz.prog (.p (.func runnellaw4_Of_i [])) [v14] fun v15 =>
  aFieldAddr 13 v0 fun v16 =>
  aLoad false 1 v16 h5 fun v17 =>
  aFieldAddr 14 v0 fun v18 =>
  aLoad false 1 v18 h5 fun v19 =>
  aBuild [(.p (.int .i64 0)), (.p (.str [])), (.p (.int .i64 0)), (.full []), (.full []), (.p (.str [])), (.p (.int .i64 0)), (.p (.int .i64 0)), (.p (.bool false)), (.p (.str [])), (.full []), (.p (.int .i64 0)), (.full []), (.p (.int .i64 0)), (.p (.int .i64 0))] [(0, 1, v7), (1, 1, v9), (2, 2, v12), (5, 8, v15), (13, 1, v17), (14, 1, v19)] fun v20 =>
  aStore 15 v4 v20 h5 fun _ h22 =>
  aLoopN 1 [(.p (.int .i64 0))] h22 fun xs H B1 => runnellaw7_Of_L1 v0 v2 v4 (xs.getD 0 .top) H B1 K

def runnellaw7_Of_ann : Nat → List Nat := fun k => match k with | 3 => [4] | _ => []

theorem runnellaw7_Of_eq (x0 : AV) (H : List Ob) (r : AV) (Ho : List Ob) : aBody Tryz.prog runnellaw7_Of_ann Tryz.f24 H [x0] r Ho = runnellaw7_Of x0 H (fun v H' => Gives H.length v H' r Ho) := by kernel_rfl

theorem runnellaw7_Of_fn {x0 : AV} {r : AV} {Ho : List Ob} (h : runnellaw7_Of x0 [] (fun v H' => Gives 0 v H' r Ho)) : Abs.Fn Tryz.prog runnellaw7_Of_i [] [x0] r Ho :=
  fn_intro mixed runnellaw7_Of_ann (fn := Tryz.f24) (by kernel_rfl) (by kernel_rfl) (by rw [runnellaw7_Of_eq]; exact h)

/- runnel/runnellaw7.Few -/
def runnellaw7_Few_L1 (q1s1 y0 : AV) (H : List Ob) (B1 : List AV → List Ob → Prop) (K : AV → List Ob → Prop) : Prop :=
  aFieldAddr 4 q1s1 fun v26 =>
  aLoad false 1 v26 H fun v27 =>
  aLen false false v27 fun v28 =>
  aBin false false .lss y0 v28 fun v29 =>
  aGuard v29
  (aFieldAddr 4 q1s1 fun v30 =>
  aLoad false 1 v30 H fun v31 =>
  aIndexAddr 8 v31 y0 fun v32 =>
  aLoad true 8 v32 H fun v33 =>
  aCall Tryz.prog (.p (.func runnellaw4_Few_i [])) [v33] H fun v34 h35 =>
  aUn .not v34 fun v36 =>
  aGuard v36
  (K (.p (.bool false)) h35)
  (aBin false false .add y0 (.p (.int .i64 1)) fun v37 =>
  B1 [v37] h35))
  (K (.p (.bool true)) H)

def runnellaw7_Few (x0 : AV) (H : List Ob) (K : AV → List Ob → Prop) : Prop :=
  aBox x0 H fun v0 h1 =>
  aFieldAddr 1 v0 fun v2 =>
  aLoad false 1 v2 h1 fun v3 =>
  aLen false true v3 fun v4 =>
  aBin false false .gtr v4 (.p (.int .i64 50)) fun v5 =>
  aMerge false v5 (fun Q6 =>
  aFieldAddr 2 v0 fun v7 =>
  aLoad true 2 v7 h1 fun v8 =>
  aCall Tryz.prog (.p (.func runnellaw1_Few_i [])) [v8] h1 fun v9 h10 =>
  aUn .not v9 fun v11 =>
  (h10 = h1 ∧ Q6 v11)) fun v12 =>
  aMerge false v12 (fun Q13 =>
  aFieldAddr 4 v0 fun v14 =>
  aLoad false 1 v14 h1 fun v15 =>
  aLenS false v15 fun v16 =>
  aBin false false .gtr v16 (.p (.int .i64 8)) fun v17 =>
  (h1 = h1 ∧ Q13 v17)) fun v18 =>
  aMerge false v18 (fun Q19 =>
  aFieldAddr 5 v0 fun v20 =>
  aLoad true 8 v20 h1 fun v21 =>
  aCall Tryz.prog (.p (.func runnellaw4_Few_i [])) [v21] h1 fun v22 h23 =>
  aUn .not v22 fun v24 =>
  (h23 = h1 ∧ Q19 v24)) fun v25 =>
  aGuard v25
  (K (.p (.bool false)) h1)
  (aLoopN 1 [(.p (.int .i64 0))] h1 fun xs H B1 => runnellaw7_Few_L1 v0 (xs.getD 0 .top) H B1 K)

def runnellaw7_Few_ann : Nat → List Nat := fun k => match k with | 4 => [3] | _ => []

theorem runnellaw7_Few_eq (x0 : AV) (H : List Ob) (r : AV) (Ho : List Ob) : aBody Tryz.prog runnellaw7_Few_ann Tryz.f42 H [x0] r Ho = runnellaw7_Few x0 H (fun v H' => Gives H.length v H' r Ho) := by kernel_rfl

theorem runnellaw7_Few_fn {x0 : AV} {r : AV} {Ho : List Ob} (h : runnellaw7_Few x0 [] (fun v H' => Gives 0 v H' r Ho)) : Abs.Fn Tryz.prog runnellaw7_Few_i [] [x0] r Ho :=
  fn_intro mixed runnellaw7_Few_ann (fn := Tryz.f42) (by kernel_rfl) (by kernel_rfl) (by rw [runnellaw7_Few_eq]; exact h)

/- runnel/op.Name -/
def op_Name_L1 (q1s0 q1s6 q1s7 y0 : AV) (H : List Ob) (B1 : List AV → List Ob → Prop) (K : AV → List Ob → Prop) : Prop :=
  aBin false false .lss y0 q1s7 fun v2 =>
  aGuard v2
  (aIndexAddr 1 q1s6 y0 fun v3 =>
  aLoad false 1 v3 H fun v4 =>
  aBin false false .geq v4 (.p (.int .u8 97)) fun v5 =>
  aMerge true v5 (fun Q6 =>
  aBin false false .leq v4 (.p (.int .u8 122)) fun v7 =>
  (H = H ∧ Q6 v7)) fun v8 =>
  aMerge false v8 (fun Q9 =>
  aBin false false .gtr y0 (.p (.int .i64 0)) fun v10 =>
  aMerge true v10 (fun Q11 =>
  aBin false false .geq v4 (.p (.int .u8 48)) fun v12 =>
  aMerge true v12 (fun Q13 =>
  aBin false false .leq v4 (.p (.int .u8 57)) fun v14 =>
  (H = H ∧ Q13 v14)) fun v15 =>
  aMerge false v15 (fun Q16 =>
  aBin false false .eql v4 (.p (.int .u8 95)) fun v17 =>
  (H = H ∧ Q16 v17)) fun v18 =>
  (H = H ∧ Q11 v18)) fun v19 =>
  (H = H ∧ Q9 v19)) fun v20 =>
  aUn .not v20 fun v21 =>
  aGuard v21
  (K (.p (.bool false)) H)
  (aBin false false .add y0 (.p (.int .i64 1)) fun v22 =>
  B1 [v22] H))
  (aBin false false .neq q1s0 (.p (.str [])) fun v23 =>
  aMerge true v23 (fun Q24 =>
  aLenS true q1s0 fun v25 =>
  aBin false false .leq v25 (.p (.int .i64 16)) fun v26 =>
  (H = H ∧ Q24 v26)) fun v27 =>
  K v27 H)

def op_Name (x0 : AV) (H : List Ob) (K : AV → List Ob → Prop) : Prop :=
  aStrBytes x0 fun v0 =>
  aLen false false v0 fun v1 =>
  aLoopN 1 [(.p (.int .i64 0))] H fun xs H B1 => op_Name_L1 x0 v0 v1 (xs.getD 0 .top) H B1 K

def op_Name_ann : Nat → List Nat := fun k => match k with | 2 => [8] | _ => []

theorem op_Name_eq (x0 : AV) (H : List Ob) (r : AV) (Ho : List Ob) : aBody Tryz.prog op_Name_ann Tryz.f65 H [x0] r Ho = op_Name x0 H (fun v H' => Gives H.length v H' r Ho) := by kernel_rfl

theorem op_Name_fn {x0 : AV} {r : AV} {Ho : List Ob} (h : op_Name x0 [] (fun v H' => Gives 0 v H' r Ho)) : Abs.Fn Tryz.prog op_Name_i [] [x0] r Ho :=
  fn_intro mixed op_Name_ann (fn := Tryz.f65) (by kernel_rfl) (by kernel_rfl) (by rw [op_Name_eq]; exact h)

/- runnel/op.Out -/
def op_Out_J2 (j2s1 j2s2 j2s4 j2s8 j2s10 : AV) (H : List Ob) (K : AV → List Ob → Prop) : Prop :=
  aLoad true 15 j2s2 H fun v61 =>
  aCall Tryz.prog (.p (.func op_Op_fits_i [])) [v61, j2s10, j2s1] H fun v62 h63 =>
  aUn .not v62 fun v64 =>
  aGuard v64
  (aBuild [(.p (.int .i64 0)), (.full [])] [] fun v65 =>
  aStore 2 j2s4 v65 h63 fun _ h67 =>
  aLoad true 2 j2s4 h67 fun v68 =>
  K (.tup [v68, (.p (.int .i64 5))]) h67)
  (aLoad true 15 j2s2 h63 fun v69 =>
  aLoad true 2 j2s8 h63 fun v70 =>
  aCall Tryz.prog (.p (.func op_Op_goes_i [])) [v69, v70, j2s10, j2s1] h63 fun v71 h72 =>
  aAlloc [(.p (.int .i64 0)), (.full [])] h72 fun v73 h74 =>
  aStore 2 v73 v71 h74 fun _ h76 =>
  aLoad true 2 v73 h76 fun v77 =>
  aCall Tryz.prog (.p (.func typ_Check_i [])) [v77] h76 fun v78 h79 =>
  aBin false false .neq v78 (.p (.int .i64 0)) fun v80 =>
  aGuard v80
  (aBuild [(.p (.int .i64 0)), (.full [])] [] fun v81 =>
  aStore 2 j2s4 v81 h79 fun _ h83 =>
  aLoad true 2 j2s4 h83 fun v84 =>
  K (.tup [v84, v78]) h83)
  (aLoad true 2 v73 h79 fun v85 =>
  aStore 2 j2s4 v85 h79 fun _ h87 =>
  aLoad true 2 j2s4 h87 fun v88 =>
  K (.tup [v88, (.p (.int .i64 0))]) h87))

def op_Out_J1 (j1s1 j1s2 j1s4 j1s8 : AV) (H : List Ob) (K : AV → List Ob → Prop) : Prop :=
  aFieldAddr 4 j1s2 fun v89 =>
  aLoad false 1 v89 H fun v90 =>
  aLen false false v90 fun v91 =>
  aBin false false .gtr v91 (.p (.int .i64 0)) fun v92 =>
  aGuard v92
  (aLoad true 15 j1s2 H fun v93 =>
  aIndexAddr 2 j1s1 (.p (.int .i64 0)) fun v94 =>
  aLoad true 2 v94 H fun v95 =>
  aCallT Tryz.prog (.p (.func op_Op_es_i [])) [v93, v95] fun v96 =>
  aExtract v96 0 fun v97 =>
  aExtract v96 1 fun v98 =>
  aBin false false .neq v98 (.p (.int .i64 0)) fun v99 =>
  aGuard v99
  (aBuild [(.p (.int .i64 0)), (.full [])] [] fun v100 =>
  aStore 2 j1s4 v100 H fun _ h102 =>
  aLoad true 2 j1s4 h102 fun v103 =>
  K (.tup [v103, v98]) h102)
  (op_Out_J2 j1s1 j1s2 j1s4 j1s8 v97 H K))
  (op_Out_J2 j1s1 j1s2 j1s4 j1s8 (.full []) H K)

def op_Out (x0 x1 : AV) (H : List Ob) (K : AV → List Ob → Prop) : Prop :=
  aBox x0 H fun v0 h1 =>
  aAlloc [(.p (.int .i64 0)), (.full [])] h1 fun v2 h3 =>
  aAlloc [(.p (.bool false)), (.p (.bool false)), (.p (.bool false)), (.p (.int .i64 0)), (.p (.int .i64 0)), (.p (.int .i64 0)), (.p (.int .i64 0)), (.p (.int .i64 0)), (.p (.int .i64 0)), (.p (.int .i64 0)), (.p (.int .i64 0))] h3 fun v4 h5 =>
  aCallT Tryz.prog (.p (.func op_shapes_i [])) [] fun v6 =>
  aFieldAddr 0 v0 fun v7 =>
  aLoad false 1 v7 h5 fun v8 =>
  aCallT Tryz.prog (.p (.func op_of_op_shape_i [])) [v6, v8] fun v9 =>
  aExtract v9 0 fun v10 =>
  aExtract v9 1 fun v11 =>
  aStore 11 v4 v10 h5 fun _ h13 =>
  aUn .not v11 fun v14 =>
  aMerge false v14 (fun Q15 =>
  aFieldAddr 0 v4 fun v16 =>
  aLoad false 1 v16 h13 fun v17 =>
  aMerge true v17 (fun Q18 =>
  aFieldAddr 1 v0 fun v19 =>
  aLoad false 1 v19 h13 fun v20 =>
  aCall Tryz.prog (.p (.func op_Name_i [])) [v20] h13 fun v21 h22 =>
  aUn .not v21 fun v23 =>
  (h22 = h13 ∧ Q18 v23)) fun v24 =>
  (h13 = h13 ∧ Q15 v24)) fun v25 =>
  aGuard v25
  (aBuild [(.p (.int .i64 0)), (.full [])] [] fun v26 =>
  aStore 2 v2 v26 h13 fun _ h28 =>
  aLoad true 2 v2 h28 fun v29 =>
  K (.tup [v29, (.p (.int .i64 6))]) h28)
  (aLoad true 15 v0 h13 fun v30 =>
  aLoad true 11 v4 h13 fun v31 =>
  aLen false false x1 fun v32 =>
  aCall Tryz.prog (.p (.func op_Op_fields_i [])) [v30, v31, v32] h13 fun v33 h34 =>
  aUn .not v33 fun v35 =>
  aGuard v35
  (aBuild [(.p (.int .i64 0)), (.full [])] [] fun v36 =>
  aStore 2 v2 v36 h34 fun _ h38 =>
  aLoad true 2 v2 h38 fun v39 =>
  K (.tup [v39, (.p (.int .i64 1))]) h38)
  (aCall Tryz.prog (.p (.func op_types_i [])) [x1] h34 fun v40 h41 =>
  aUn .not v40 fun v42 =>
  aMerge false v42 (fun Q43 =>
  aFieldAddr 1 v4 fun v44 =>
  aLoad false 1 v44 h41 fun v45 =>
  aMerge true v45 (fun Q46 =>
  aFieldAddr 2 v0 fun v47 =>
  aLoad true 2 v47 h41 fun v48 =>
  aBuildSlice 2 [v48] fun v49 =>
  aCall Tryz.prog (.p (.func op_types_i [])) [v49] h41 fun v50 h51 =>
  aUn .not v50 fun v52 =>
  (h51 = h41 ∧ Q46 v52)) fun v53 =>
  (h41 = h41 ∧ Q43 v53)) fun v54 =>
  aGuard v54
  (aBuild [(.p (.int .i64 0)), (.full [])] [] fun v55 =>
  aStore 2 v2 v55 h41 fun _ h57 =>
  aLoad true 2 v2 h57 fun v58 =>
  K (.tup [v58, (.p (.int .i64 5))]) h57)
  (aAlloc [(.p (.int .i64 0)), (.full [])] h41 fun v59 h60 =>
  aFieldAddr 2 v4 fun v104 =>
  aLoad false 1 v104 h60 fun v105 =>
  aGuard v105
  (aFieldAddr 5 v0 fun v106 =>
  aLoad true 8 v106 h60 fun v107 =>
  aIndexAddr 2 x1 (.p (.int .i64 0)) fun v108 =>
  aLoad true 2 v108 h60 fun v109 =>
  aCallT Tryz.prog (.p (.func expr_Check_i [])) [v107, v109] fun v110 =>
  aExtract v110 0 fun v111 =>
  aExtract v110 1 fun v112 =>
  aStore 2 v59 v111 h60 fun _ h114 =>
  aBin false false .neq v112 (.p (.int .i64 0)) fun v115 =>
  aGuard v115
  (aBuild [(.p (.int .i64 0)), (.full [])] [] fun v116 =>
  aStore 2 v2 v116 h114 fun _ h118 =>
  aLoad true 2 v2 h118 fun v119 =>
  K (.tup [v119, v112]) h118)
  (op_Out_J1 x1 v0 v2 v59 h114 K))
  (op_Out_J1 x1 v0 v2 v59 h60 K))))

def op_Out_ann : Nat → List Nat := fun k => match k with | 1000003 => [1] | 1000008 => [1] | _ => []

theorem op_Out_eq (x0 x1 : AV) (H : List Ob) (r : AV) (Ho : List Ob) : aBody Tryz.prog op_Out_ann Tryz.f68 H [x0, x1] r Ho = op_Out x0 x1 H (fun v H' => Gives H.length v H' r Ho) := by kernel_rfl

theorem op_Out_fn {x0 x1 : AV} {r : AV} {Ho : List Ob} (h : op_Out x0 x1 [] (fun v H' => Gives 0 v H' r Ho)) : Abs.Fn Tryz.prog op_Out_i [] [x0, x1] r Ho :=
  fn_intro mixed op_Out_ann (fn := Tryz.f68) (by kernel_rfl) (by kernel_rfl) (by rw [op_Out_eq]; exact h)

/- runnel/op.of[runnel/op.shape] -/
def op_of_op_shape_L1 (q1s1 q1s4 q1s9 q1s10 y0 : AV) (H : List Ob) (B1 : List AV → List Ob → Prop) (K : AV → List Ob → Prop) : Prop :=
  aBin false false .lss y0 q1s10 fun v3 =>
  aGuard v3
  (aIndexAddr 12 q1s9 y0 fun v4 =>
  aLoad true 12 v4 H fun v5 =>
  aAlloc [(.p (.int .i64 0)), (.p (.bool false)), (.p (.bool false)), (.p (.bool false)), (.p (.int .i64 0)), (.p (.int .i64 0)), (.p (.int .i64 0)), (.p (.int .i64 0)), (.p (.int .i64 0)), (.p (.int .i64 0)), (.p (.int .i64 0)), (.p (.int .i64 0))] H fun v6 h7 =>
  aStore 12 v6 v5 h7 fun _ h9 =>
  aFieldAddr 0 v6 fun v10 =>
  aLoad false 1 v10 h9 fun v11 =>
  aBin false false .eql v11 q1s1 fun v12 =>
  aGuard v12
  (aFieldAddr 1 v6 fun v13 =>
  aLoad true 11 v13 h9 fun v14 =>
  aStore 11 q1s4 v14 h9 fun _ h16 =>
  aLoad true 11 q1s4 h16 fun v17 =>
  K (.tup [v17, (.p (.bool true))]) h16)
  (aBin false false .add y0 (.p (.int .i64 1)) fun v18 =>
  B1 [v18] h9))
  (aAlloc [(.p (.bool false)), (.p (.bool false)), (.p (.bool false)), (.p (.int .i64 0)), (.p (.int .i64 0)), (.p (.int .i64 0)), (.p (.int .i64 0)), (.p (.int .i64 0)), (.p (.int .i64 0)), (.p (.int .i64 0)), (.p (.int .i64 0))] H fun v19 h20 =>
  aLoad true 11 v19 h20 fun v21 =>
  aStore 11 q1s4 v21 h20 fun _ h23 =>
  aLoad true 11 q1s4 h23 fun v24 =>
  K (.tup [v24, (.p (.bool false))]) h23)

def op_of_op_shape (x0 x1 : AV) (H : List Ob) (K : AV → List Ob → Prop) : Prop :=
  aAlloc [(.p (.bool false)), (.p (.bool false)), (.p (.bool false)), (.p (.int .i64 0)), (.p (.int .i64 0)), (.p (.int .i64 0)), (.p (.int .i64 0)), (.p (.int .i64 0)), (.p (.int .i64 0)), (.p (.int .i64 0)), (.p (.int .i64 0))] H fun v0 h1 =>
  aLen false false x0 fun v2 =>
  aLoopN 1 [(.p (.int .i64 0))] h1 fun xs H B1 => op_of_op_shape_L1 x1 v0 x0 v2 (xs.getD 0 .top) H B1 K

def op_of_op_shape_ann : Nat → List Nat := fun k => match k with | 2 => [11] | _ => []

theorem op_of_op_shape_eq (x0 x1 : AV) (H : List Ob) (r : AV) (Ho : List Ob) : aBody Tryz.prog op_of_op_shape_ann Tryz.f99 H [x0, x1] r Ho = op_of_op_shape x0 x1 H (fun v H' => Gives H.length v H' r Ho) := by kernel_rfl

theorem op_of_op_shape_fn {x0 x1 : AV} {r : AV} {Ho : List Ob} (h : op_of_op_shape x0 x1 [] (fun v H' => Gives 0 v H' r Ho)) : Abs.Fn Tryz.prog op_of_op_shape_i [] [x0, x1] r Ho :=
  fn_intro mixed op_of_op_shape_ann (fn := Tryz.f99) (by kernel_rfl) (by kernel_rfl) (by rw [op_of_op_shape_eq]; exact h)

/- runnel/op.shapes -/
def op_shapes (H : List Ob) (K : AV → List Ob → Prop) : Prop :=
  aBuild [(.p (.int .i64 0)), (.p (.int .i64 0))] [(0, 1, (.p (.int .i64 1))), (1, 1, (.p (.int .i64 1)))] fun v0 =>
  aAlloc [(.p (.int .i64 0)), (.p (.int .i64 0))] H fun v1 h2 =>
  aStore 2 v1 v0 h2 fun _ h4 =>
  aBuild [(.p (.bool false)), (.p (.bool false)), (.p (.bool false)), (.p (.int .i64 0)), (.p (.int .i64 0)), (.p (.int .i64 0)), (.p (.int .i64 0)), (.p (.int .i64 0)), (.p (.int .i64 0)), (.p (.int .i64 0)), (.p (.int .i64 0))] [(0, 1, (.p (.bool true))), (1, 1, (.p (.bool true)))] fun v5 =>
  aBuild [(.p (.int .i64 0)), (.p (.bool false)), (.p (.bool false)), (.p (.bool false)), (.p (.int .i64 0)), (.p (.int .i64 0)), (.p (.int .i64 0)), (.p (.int .i64 0)), (.p (.int .i64 0)), (.p (.int .i64 0)), (.p (.int .i64 0)), (.p (.int .i64 0))] [(0, 1, (.p (.int .i64 1))), (1, 11, v5)] fun v6 =>
  aLoad true 2 v1 h4 fun v7 =>
  aLoad true 2 v1 h4 fun v8 =>
  aBuild [(.p (.bool false)), (.p (.bool false)), (.p (.bool false)), (.p (.int .i64 0)), (.p (.int .i64 0)), (.p (.int .i64 0)), (.p (.int .i64 0)), (.p (.int .i64 0)), (.p (.int .i64 0)), (.p (.int .i64 0)), (.p (.int .i64 0))] [(3, 2, v7), (5, 2, v8)] fun v9 =>
  aBuild [(.p (.int .i64 0)), (.p (.bool false)), (.p (.bool false)), (.p (.bool false)), (.p (.int .i64 0)), (.p (.int .i64 0)), (.p (.int .i64 0)), (.p (.int .i64 0)), (.p (.int .i64 0)), (.p (.int .i64 0)), (.p (.int .i64 0)), (.p (.int .i64 0))] [(0, 1, (.p (.int .i64 2))), (1, 11, v9)] fun v10 =>
  aLoad true 2 v1 h4 fun v11 =>
  aLoad true 2 v1 h4 fun v12 =>
  aBuild [(.p (.bool false)), (.p (.bool false)), (.p (.bool false)), (.p (.int .i64 0)), (.p (.int .i64 0)), (.p (.int .i64 0)), (.p (.int .i64 0)), (.p (.int .i64 0)), (.p (.int .i64 0)), (.p (.int .i64 0)), (.p (.int .i64 0))] [(3, 2, v11), (5, 2, v12)] fun v13 =>
  aBuild [(.p (.int .i64 0)), (.p (.bool false)), (.p (.bool false)), (.p (.bool false)), (.p (.int .i64 0)), (.p (.int .i64 0)), (.p (.int .i64 0)), (.p (.int .i64 0)), (.p (.int .i64 0)), (.p (.int .i64 0)), (.p (.int .i64 0)), (.p (.int .i64 0))] [(0, 1, (.p (.int .i64 3))), (1, 11, v13)] fun v14 =>
  aBuild [(.p (.int .i64 0)), (.p (.int .i64 0))] [(0, 1, (.p (.int .i64 1))), (1, 1, (.p (.int .i64 4)))] fun v15 =>
  aLoad true 2 v1 h4 fun v16 =>
  aBuild [(.p (.bool false)), (.p (.bool false)), (.p (.bool false)), (.p (.int .i64 0)), (.p (.int .i64 0)), (.p (.int .i64 0)), (.p (.int .i64 0)), (.p (.int .i64 0)), (.p (.int .i64 0)), (.p (.int .i64 0)), (.p (.int .i64 0))] [(3, 2, v15), (5, 2, v16)] fun v17 =>
  aBuild [(.p (.int .i64 0)), (.p (.bool false)), (.p (.bool false)), (.p (.bool false)), (.p (.int .i64 0)), (.p (.int .i64 0)), (.p (.int .i64 0)), (.p (.int .i64 0)), (.p (.int .i64 0)), (.p (.int .i64 0)), (.p (.int .i64 0)), (.p (.int .i64 0))] [(0, 1, (.p (.int .i64 4))), (1, 11, v17)] fun v18 =>
  aLoad true 2 v1 h4 fun v19 =>
  aLoad true 2 v1 h4 fun v20 =>
  aBuild [(.p (.int .i64 0)), (.p (.int .i64 0))] [(0, 1, (.p (.int .i64 1))), (1, 1, (.p (.int .i64 4)))] fun v21 =>
  aBuild [(.p (.bool false)), (.p (.bool false)), (.p (.bool false)), (.p (.int .i64 0)), (.p (.int .i64 0)), (.p (.int .i64 0)), (.p (.int .i64 0)), (.p (.int .i64 0)), (.p (.int .i64 0)), (.p (.int .i64 0)), (.p (.int .i64 0))] [(2, 1, (.p (.bool true))), (3, 2, v19), (5, 2, v20), (7, 2, v21)] fun v22 =>
  aBuild [(.p (.int .i64 0)), (.p (.bool false)), (.p (.bool false)), (.p (.bool false)), (.p (.int .i64 0)), (.p (.int .i64 0)), (.p (.int .i64 0)), (.p (.int .i64 0)), (.p (.int .i64 0)), (.p (.int .i64 0)), (.p (.int .i64 0)), (.p (.int .i64 0))] [(0, 1, (.p (.int .i64 5))), (1, 11, v22)] fun v23 =>
  aLoad true 2 v1 h4 fun v24 =>
  aBuild [(.p (.int .i64 0)), (.p (.int .i64 0))] [(0, 1, (.p (.int .i64 1))), (1, 1, (.p (.int .i64 1000)))] fun v25 =>
  aBuild [(.p (.bool false)), (.p (.bool false)), (.p (.bool false)), (.p (.int .i64 0)), (.p (.int .i64 0)), (.p (.int .i64 0)), (.p (.int .i64 0)), (.p (.int .i64 0)), (.p (.int .i64 0)), (.p (.int .i64 0)), (.p (.int .i64 0))] [(2, 1, (.p (.bool true))), (5, 2, v24), (9, 2, v25)] fun v26 =>
  aBuild [(.p (.int .i64 0)), (.p (.bool false)), (.p (.bool false)), (.p (.bool false)), (.p (.int .i64 0)), (.p (.int .i64 0)), (.p (.int .i64 0)), (.p (.int .i64 0)), (.p (.int .i64 0)), (.p (.int .i64 0)), (.p (.int .i64 0)), (.p (.int .i64 0))] [(0, 1, (.p (.int .i64 6))), (1, 11, v26)] fun v27 =>
  aLoad true 2 v1 h4 fun v28 =>
  aBuild [(.p (.bool false)), (.p (.bool false)), (.p (.bool false)), (.p (.int .i64 0)), (.p (.int .i64 0)), (.p (.int .i64 0)), (.p (.int .i64 0)), (.p (.int .i64 0)), (.p (.int .i64 0)), (.p (.int .i64 0)), (.p (.int .i64 0))] [(2, 1, (.p (.bool true))), (5, 2, v28)] fun v29 =>
  aBuild [(.p (.int .i64 0)), (.p (.bool false)), (.p (.bool false)), (.p (.bool false)), (.p (.int .i64 0)), (.p (.int .i64 0)), (.p (.int .i64 0)), (.p (.int .i64 0)), (.p (.int .i64 0)), (.p (.int .i64 0)), (.p (.int .i64 0)), (.p (.int .i64 0))] [(0, 1, (.p (.int .i64 7))), (1, 11, v29)] fun v30 =>
  aBuild [(.p (.int .i64 0)), (.p (.int .i64 0))] [(0, 1, (.p (.int .i64 2))), (1, 1, (.p (.int .i64 4)))] fun v31 =>
  aBuild [(.p (.bool false)), (.p (.bool false)), (.p (.bool false)), (.p (.int .i64 0)), (.p (.int .i64 0)), (.p (.int .i64 0)), (.p (.int .i64 0)), (.p (.int .i64 0)), (.p (.int .i64 0)), (.p (.int .i64 0)), (.p (.int .i64 0))] [(5, 2, v31)] fun v32 =>
  aBuild [(.p (.int .i64 0)), (.p (.bool false)), (.p (.bool false)), (.p (.bool false)), (.p (.int .i64 0)), (.p (.int .i64 0)), (.p (.int .i64 0)), (.p (.int .i64 0)), (.p (.int .i64 0)), (.p (.int .i64 0)), (.p (.int .i64 0)), (.p (.int .i64 0))] [(0, 1, (.p (.int .i64 8))), (1, 11, v32)] fun v33 =>
  aLoad true 2 v1 h4 fun v34 =>
  aBuild [(.p (.bool false)), (.p (.bool false)), (.p (.bool false)), (.p (.int .i64 0)), (.p (.int .i64 0)), (.p (.int .i64 0)), (.p (.int .i64 0)), (.p (.int .i64 0)), (.p (.int .i64 0)), (.p (.int .i64 0)), (.p (.int .i64 0))] [(0, 1, (.p (.bool true))), (5, 2, v34)] fun v35 =>
  aBuild [(.p (.int .i64 0)), (.p (.bool false)), (.p (.bool false)), (.p (.bool false)), (.p (.int .i64 0)), (.p (.int .i64 0)), (.p (.int .i64 0)), (.p (.int .i64 0)), (.p (.int .i64 0)), (.p (.int .i64 0)), (.p (.int .i64 0)), (.p (.int .i64 0))] [(0, 1, (.p (.int .i64 9))), (1, 11, v35)] fun v36 =>
  aBuildSlice 12 [v6, v10, v14, v18, v23, v27, v30, v33, v36] fun v37 =>
  K v37 h4

def op_shapes_ann : Nat → List Nat := fun _ => []

theorem op_shapes_eq (H : List Ob) (r : AV) (Ho : List Ob) : aBody Tryz.prog op_shapes_ann Tryz.f100 H [] r Ho = op_shapes H (fun v H' => Gives H.length v H' r Ho) := by kernel_rfl

theorem op_shapes_fn {r : AV} {Ho : List Ob} (h : op_shapes [] (fun v H' => Gives 0 v H' r Ho)) : Abs.Fn Tryz.prog op_shapes_i [] [] r Ho :=
  fn_intro mixed op_shapes_ann (fn := Tryz.f100) (by kernel_rfl) (by kernel_rfl) (by rw [op_shapes_eq]; exact h)

/- (runnel/op.Op).fields -/
def op_Op_fields (x0 x1 x2 : AV) (H : List Ob) (K : AV → List Ob → Prop) : Prop :=
  aBox x0 H fun v0 h1 =>
  aBox x1 h1 fun v2 h3 =>
  aFieldAddr 0 v2 fun v4 =>
  aLoad false 1 v4 h3 fun v5 =>
  aMerge false v5 (fun Q6 =>
  aFieldAddr 1 v0 fun v7 =>
  aLoad false 1 v7 h3 fun v8 =>
  aBin false false .eql v8 (.p (.str [])) fun v9 =>
  (h3 = h3 ∧ Q6 v9)) fun v10 =>
  aMerge true v10 (fun Q11 =>
  aFieldAddr 1 v2 fun v12 =>
  aLoad false 1 v12 h3 fun v13 =>
  aMerge false v13 (fun Q14 =>
  aFieldAddr 2 v0 fun v15 =>
  aFieldAddr 0 v15 fun v16 =>
  aLoad false 1 v16 h3 fun v17 =>
  aBin false false .eql v17 (.p (.int .i64 0)) fun v18 =>
  aMerge true v18 (fun Q19 =>
  aFieldAddr 2 v0 fun v20 =>
  aFieldAddr 1 v20 fun v21 =>
  aLoad false 1 v21 h3 fun v22 =>
  aLenS false v22 fun v23 =>
  aBin false false .eql v23 (.p (.int .i64 0)) fun v24 =>
  (h3 = h3 ∧ Q19 v24)) fun v25 =>
  (h3 = h3 ∧ Q14 v25)) fun v26 =>
  (h3 = h3 ∧ Q11 v26)) fun v27 =>
  aMerge true v27 (fun Q28 =>
  aFieldAddr 2 v2 fun v29 =>
  aLoad false 1 v29 h3 fun v30 =>
  aMerge false v30 (fun Q31 =>
  aFieldAddr 5 v0 fun v32 =>
  aLoad true 8 v32 h3 fun v33 =>
  aCall Tryz.prog (.p (.func op_nothing_i [])) [v33] h3 fun v34 h35 =>
  (h35 = h3 ∧ Q31 v34)) fun v36 =>
  (h3 = h3 ∧ Q28 v36)) fun v37 =>
  aMerge true v37 (fun Q38 =>
  aFieldAddr 3 v2 fun v39 =>
  aLoad true 2 v39 h3 fun v40 =>
  aFieldAddr 4 v0 fun v41 =>
  aLoad false 1 v41 h3 fun v42 =>
  aLenS false v42 fun v43 =>
  aCall Tryz.prog (.p (.func op_span_in_i [])) [v40, v43] h3 fun v44 h45 =>
  (h45 = h3 ∧ Q38 v44)) fun v46 =>
  aMerge true v46 (fun Q47 =>
  aFieldAddr 7 v2 fun v48 =>
  aLoad true 2 v48 h3 fun v49 =>
  aFieldAddr 13 v0 fun v50 =>
  aLoad false 1 v50 h3 fun v51 =>
  aCall Tryz.prog (.p (.func op_span_in_i [])) [v49, v51] h3 fun v52 h53 =>
  (h53 = h3 ∧ Q47 v52)) fun v54 =>
  aMerge true v54 (fun Q55 =>
  aFieldAddr 9 v2 fun v56 =>
  aLoad true 2 v56 h3 fun v57 =>
  aFieldAddr 14 v0 fun v58 =>
  aLoad false 1 v58 h3 fun v59 =>
  aCall Tryz.prog (.p (.func op_span_in_i [])) [v57, v59] h3 fun v60 h61 =>
  (h61 = h3 ∧ Q55 v60)) fun v62 =>
  aMerge true v62 (fun Q63 =>
  aFieldAddr 5 v2 fun v64 =>
  aLoad true 2 v64 h3 fun v65 =>
  aCall Tryz.prog (.p (.func op_span_in_i [])) [v65, x2] h3 fun v66 h67 =>
  (h67 = h3 ∧ Q63 v66)) fun v68 =>
  K v68 h3

def op_Op_fields_ann : Nat → List Nat := fun _ => []

theorem op_Op_fields_eq (x0 x1 x2 : AV) (H : List Ob) (r : AV) (Ho : List Ob) : aBody Tryz.prog op_Op_fields_ann Tryz.f101 H [x0, x1, x2] r Ho = op_Op_fields x0 x1 x2 H (fun v H' => Gives H.length v H' r Ho) := by kernel_rfl

theorem op_Op_fields_fn {x0 x1 x2 : AV} {r : AV} {Ho : List Ob} (h : op_Op_fields x0 x1 x2 [] (fun v H' => Gives 0 v H' r Ho)) : Abs.Fn Tryz.prog op_Op_fields_i [] [x0, x1, x2] r Ho :=
  fn_intro mixed op_Op_fields_ann (fn := Tryz.f101) (by kernel_rfl) (by kernel_rfl) (by rw [op_Op_fields_eq]; exact h)

/- runnel/op.types -/
def op_types_L1 (q1s5 q1s6 y0 : AV) (H : List Ob) (B1 : List AV → List Ob → Prop) (K : AV → List Ob → Prop) : Prop :=
  aBin false false .lss y0 q1s6 fun v1 =>
  aGuard v1
  (aIndexAddr 2 q1s5 y0 fun v2 =>
  aLoad true 2 v2 H fun v3 =>
  aAlloc [(.p (.int .i64 0)), (.full [])] H fun v4 h5 =>
  aStore 2 v4 v3 h5 fun _ h7 =>
  aLoad true 2 v4 h7 fun v8 =>
  aCall Tryz.prog (.p (.func typ_Check_i [])) [v8] h7 fun v9 h10 =>
  aBin false false .neq v9 (.p (.int .i64 0)) fun v11 =>
  aGuard v11
  (K (.p (.bool false)) h10)
  (aBin false false .add y0 (.p (.int .i64 1)) fun v12 =>
  B1 [v12] h10))
  (K (.p (.bool true)) H)

def op_types (x0 : AV) (H : List Ob) (K : AV → List Ob → Prop) : Prop :=
  aLen false false x0 fun v0 =>
  aLoopN 1 [(.p (.int .i64 0))] H fun xs H B1 => op_types_L1 x0 v0 (xs.getD 0 .top) H B1 K

def op_types_ann : Nat → List Nat := fun k => match k with | 2 => [7] | _ => []

theorem op_types_eq (x0 : AV) (H : List Ob) (r : AV) (Ho : List Ob) : aBody Tryz.prog op_types_ann Tryz.f102 H [x0] r Ho = op_types x0 H (fun v H' => Gives H.length v H' r Ho) := by kernel_rfl

theorem op_types_fn {x0 : AV} {r : AV} {Ho : List Ob} (h : op_types x0 [] (fun v H' => Gives 0 v H' r Ho)) : Abs.Fn Tryz.prog op_types_i [] [x0] r Ho :=
  fn_intro mixed op_types_ann (fn := Tryz.f102) (by kernel_rfl) (by kernel_rfl) (by rw [op_types_eq]; exact h)

/- (runnel/op.Op).es -/
def op_Op_es_L1 (q1s3 q1s12 q1s13 y0 y1 : AV) (H : List Ob) (B1 : List AV → List Ob → Prop) (K : AV → List Ob → Prop) : Prop :=
  aBin false false .lss y1 q1s13 fun v7 =>
  aGuard v7
  (aIndexAddr 8 q1s12 y1 fun v8 =>
  aLoad true 8 v8 H fun v9 =>
  aAlloc [(.p (.str [])), (.p (.int .i64 0)), (.p (.int .i64 0)), (.p (.bool false)), (.p (.str [])), (.full []), (.p (.int .i64 0)), (.full [])] H fun v10 h11 =>
  aStore 8 v10 v9 h11 fun _ h13 =>
  aLoad true 8 v10 h13 fun v14 =>
  aLoad true 2 q1s3 h13 fun v15 =>
  aCall Tryz.prog (.p (.func expr_Check_i [])) [v14, v15] h13 fun v16 h17 =>
  aExtract v16 0 fun v18 =>
  aExtract v16 1 fun v19 =>
  aAlloc [(.p (.int .i64 0)), (.full [])] h17 fun v20 h21 =>
  aStore 2 v20 v18 h21 fun _ h23 =>
  aBin false false .neq v19 (.p (.int .i64 0)) fun v24 =>
  aGuard v24
  (K (.tup [(.full []), v19]) h23)
  (aLoad true 2 v20 h23 fun v25 =>
  aBuildSlice 2 [v25] fun v26 =>
  aAppend false 2 32 y0 v26 h23 fun v27 h28 =>
  aBin false false .add y1 (.p (.int .i64 1)) fun v29 =>
  B1 [v27, v29] h28))
  (K (.tup [y0, (.p (.int .i64 0))]) H)

def op_Op_es (x0 x1 : AV) (H : List Ob) (K : AV → List Ob → Prop) : Prop :=
  aBox x0 H fun v0 h1 =>
  aBox x1 h1 fun v2 h3 =>
  aFieldAddr 4 v0 fun v4 =>
  aLoad false 1 v4 h3 fun v5 =>
  aLen false false v5 fun v6 =>
  aLoopN 2 [(.full []), (.p (.int .i64 0))] h3 fun xs H B1 => op_Op_es_L1 v2 v5 v6 (xs.getD 0 .top) (xs.getD 1 .top) H B1 K

def op_Op_es_ann : Nat → List Nat := fun k => match k with | 3 => [6, 14] | _ => []

theorem op_Op_es_eq (x0 x1 : AV) (H : List Ob) (r : AV) (Ho : List Ob) : aBody Tryz.prog op_Op_es_ann Tryz.f103 H [x0, x1] r Ho = op_Op_es x0 x1 H (fun v H' => Gives H.length v H' r Ho) := by kernel_rfl

theorem op_Op_es_fn {x0 x1 : AV} {r : AV} {Ho : List Ob} (h : op_Op_es x0 x1 [] (fun v H' => Gives 0 v H' r Ho)) : Abs.Fn Tryz.prog op_Op_es_i [] [x0, x1] r Ho :=
  fn_intro mixed op_Op_es_ann (fn := Tryz.f103) (by kernel_rfl) (by kernel_rfl) (by rw [op_Op_es_eq]; exact h)

/- (runnel/op.Op).fits -/
def op_Op_fits (x0 x1 x2 : AV) (H : List Ob) (K : AV → List Ob → Prop) : Prop :=
  aBox x0 H fun v0 h1 =>
  aFieldAddr 0 v0 fun v2 =>
  aLoad false 1 v2 h1 fun v3 =>
  aBin false false .eql v3 (.p (.int .i64 3)) fun v4 =>
  aGuard v4
  (aIndexAddr 2 x1 (.p (.int .i64 0)) fun v5 =>
  aFieldAddr 0 v5 fun v6 =>
  aLoad false 1 v6 h1 fun v7 =>
  aBin false false .eql v7 (.p (.int .i64 2)) fun v8 =>
  K v8 h1)
  (aBin false false .eql v3 (.p (.int .i64 4)) fun v9 =>
  aGuard v9
  (aCall Tryz.prog (.p (.func op_alike_i [])) [x1] h1 fun v10 h11 =>
  K v10 h11)
  (aBin false false .eql v3 (.p (.int .i64 5)) fun v12 =>
  aGuard v12
  (aIndexAddr 2 x1 (.p (.int .i64 0)) fun v13 =>
  aFieldAddr 0 v13 fun v14 =>
  aLoad false 1 v14 h1 fun v15 =>
  aBin false false .eql v15 (.p (.int .i64 1)) fun v16 =>
  K v16 h1)
  (aBin false false .eql v3 (.p (.int .i64 8)) fun v17 =>
  aGuard v17
  (aCall Tryz.prog (.p (.func op_alike_i [])) [x2] h1 fun v18 h19 =>
  K v18 h19)
  (K (.p (.bool true)) h1))))

def op_Op_fits_ann : Nat → List Nat := fun _ => []

theorem op_Op_fits_eq (x0 x1 x2 : AV) (H : List Ob) (r : AV) (Ho : List Ob) : aBody Tryz.prog op_Op_fits_ann Tryz.f104 H [x0, x1, x2] r Ho = op_Op_fits x0 x1 x2 H (fun v H' => Gives H.length v H' r Ho) := by kernel_rfl

theorem op_Op_fits_fn {x0 x1 x2 : AV} {r : AV} {Ho : List Ob} (h : op_Op_fits x0 x1 x2 [] (fun v H' => Gives 0 v H' r Ho)) : Abs.Fn Tryz.prog op_Op_fits_i [] [x0, x1, x2] r Ho :=
  fn_intro mixed op_Op_fits_ann (fn := Tryz.f104) (by kernel_rfl) (by kernel_rfl) (by rw [op_Op_fits_eq]; exact h)

/- (runnel/op.Op).goes -/
def op_Op_goes (x0 x1 x2 x3 : AV) (H : List Ob) (K : AV → List Ob → Prop) : Prop :=
  aBox x0 H fun v0 h1 =>
  aBox x1 h1 fun v2 h3 =>
  aAlloc [(.p (.int .i64 0)), (.full [])] h3 fun v4 h5 =>
  aFieldAddr 0 v0 fun v6 =>
  aLoad false 1 v6 h5 fun v7 =>
  aBin false false .eql v7 (.p (.int .i64 1)) fun v8 =>
  aGuard v8
  (aFieldAddr 2 v0 fun v9 =>
  aLoad true 2 v9 h5 fun v10 =>
  aStore 2 v4 v10 h5 fun _ h12 =>
  aLoad true 2 v4 h12 fun v13 =>
  K v13 h12)
  (aBin false false .eql v7 (.p (.int .i64 2)) fun v14 =>
  aMerge false v14 (fun Q15 =>
  aBin false false .eql v7 (.p (.int .i64 4)) fun v16 =>
  (h5 = h5 ∧ Q15 v16)) fun v17 =>
  aGuard v17
  (aIndexAddr 2 x2 (.p (.int .i64 0)) fun v18 =>
  aLoad true 2 v18 h5 fun v19 =>
  aStore 2 v4 v19 h5 fun _ h21 =>
  aLoad true 2 v4 h21 fun v22 =>
  K v22 h21)
  (aBin false false .eql v7 (.p (.int .i64 5)) fun v23 =>
  aMerge false v23 (fun Q24 =>
  aBin false false .eql v7 (.p (.int .i64 6)) fun v25 =>
  (h5 = h5 ∧ Q24 v25)) fun v26 =>
  aGuard v26
  (aLoad true 2 v2 h5 fun v27 =>
  aBuild [(.p (.int .i64 0)), (.full [])] [(0, 1, (.p (.int .i64 1)))] fun v28 =>
  aBuildSlice 2 [v27, v28] fun v29 =>
  aBuild [(.p (.int .i64 0)), (.full [])] [(0, 1, (.p (.int .i64 4))), (1, 1, v29)] fun v30 =>
  aStore 2 v4 v30 h5 fun _ h32 =>
  aLoad true 2 v4 h32 fun v33 =>
  K v33 h32)
  (aBin false false .eql v7 (.p (.int .i64 7)) fun v34 =>
  aGuard v34
  (aLoad true 2 v2 h5 fun v35 =>
  aStore 2 v4 v35 h5 fun _ h37 =>
  aLoad true 2 v4 h37 fun v38 =>
  K v38 h37)
  (aIndexAddr 2 x3 (.p (.int .i64 0)) fun v39 =>
  aLoad true 2 v39 h5 fun v40 =>
  aStore 2 v4 v40 h5 fun _ h42 =>
  aLoad true 2 v4 h42 fun v43 =>
  K v43 h42))))

def op_Op_goes_ann : Nat → List Nat := fun k => match k with | 1000005 => [1] | 1000008 => [1] | _ => []

theorem op_Op_goes_eq (x0 x1 x2 x3 : AV) (H : List Ob) (r : AV) (Ho : List Ob) : aBody Tryz.prog op_Op_goes_ann Tryz.f105 H [x0, x1, x2, x3] r Ho = op_Op_goes x0 x1 x2 x3 H (fun v H' => Gives H.length v H' r Ho) := by kernel_rfl

theorem op_Op_goes_fn {x0 x1 x2 x3 : AV} {r : AV} {Ho : List Ob} (h : op_Op_goes x0 x1 x2 x3 [] (fun v H' => Gives 0 v H' r Ho)) : Abs.Fn Tryz.prog op_Op_goes_i [] [x0, x1, x2, x3] r Ho :=
  fn_intro mixed op_Op_goes_ann (fn := Tryz.f105) (by kernel_rfl) (by kernel_rfl) (by rw [op_Op_goes_eq]; exact h)

/- runnel/op.nothing -/
def op_nothing (x0 : AV) (H : List Ob) (K : AV → List Ob → Prop) : Prop :=
  aBox x0 H fun v0 h1 =>
  aFieldAddr 0 v0 fun v2 =>
  aLoad false 1 v2 h1 fun v3 =>
  aBin false false .eql v3 (.p (.str [])) fun v4 =>
  aMerge true v4 (fun Q5 =>
  aFieldAddr 1 v0 fun v6 =>
  aLoad true 5 v6 h1 fun v7 =>
  aBuild [(.p (.int .i64 0)), (.p (.int .i64 0)), (.p (.bool false)), (.p (.str [])), (.full [])] [] fun v8 =>
  aCall Tryz.prog (.p (.func val_Same_i [])) [v7, v8] h1 fun v9 h10 =>
  (h10 = h1 ∧ Q5 v9)) fun v11 =>
  aMerge true v11 (fun Q12 =>
  aFieldAddr 6 v0 fun v13 =>
  aLoad false 1 v13 h1 fun v14 =>
  aBin false false .eql v14 (.p (.int .i64 0)) fun v15 =>
  (h1 = h1 ∧ Q12 v15)) fun v16 =>
  aMerge true v16 (fun Q17 =>
  aFieldAddr 7 v0 fun v18 =>
  aLoad false 1 v18 h1 fun v19 =>
  aLenS false v19 fun v20 =>
  aBin false false .eql v20 (.p (.int .i64 0)) fun v21 =>
  (h1 = h1 ∧ Q17 v21)) fun v22 =>
  K v22 h1

def op_nothing_ann : Nat → List Nat := fun _ => []

theorem op_nothing_eq (x0 : AV) (H : List Ob) (r : AV) (Ho : List Ob) : aBody Tryz.prog op_nothing_ann Tryz.f129 H [x0] r Ho = op_nothing x0 H (fun v H' => Gives H.length v H' r Ho) := by kernel_rfl

theorem op_nothing_fn {x0 : AV} {r : AV} {Ho : List Ob} (h : op_nothing x0 [] (fun v H' => Gives 0 v H' r Ho)) : Abs.Fn Tryz.prog op_nothing_i [] [x0] r Ho :=
  fn_intro mixed op_nothing_ann (fn := Tryz.f129) (by kernel_rfl) (by kernel_rfl) (by rw [op_nothing_eq]; exact h)

/- (runnel/op.span).in -/
def op_span_in (x0 x1 : AV) (H : List Ob) (K : AV → List Ob → Prop) : Prop :=
  aBox x0 H fun v0 h1 =>
  aFieldAddr 0 v0 fun v2 =>
  aLoad false 1 v2 h1 fun v3 =>
  aBin false false .geq x1 v3 fun v4 =>
  aMerge true v4 (fun Q5 =>
  aFieldAddr 1 v0 fun v6 =>
  aLoad false 1 v6 h1 fun v7 =>
  aBin false false .leq x1 v7 fun v8 =>
  (h1 = h1 ∧ Q5 v8)) fun v9 =>
  K v9 h1

def op_span_in_ann : Nat → List Nat := fun _ => []

theorem op_span_in_eq (x0 x1 : AV) (H : List Ob) (r : AV) (Ho : List Ob) : aBody Tryz.prog op_span_in_ann Tryz.f130 H [x0, x1] r Ho = op_span_in x0 x1 H (fun v H' => Gives H.length v H' r Ho) := by kernel_rfl

theorem op_span_in_fn {x0 x1 : AV} {r : AV} {Ho : List Ob} (h : op_span_in x0 x1 [] (fun v H' => Gives 0 v H' r Ho)) : Abs.Fn Tryz.prog op_span_in_i [] [x0, x1] r Ho :=
  fn_intro mixed op_span_in_ann (fn := Tryz.f130) (by kernel_rfl) (by kernel_rfl) (by rw [op_span_in_eq]; exact h)

/- runnel/op.alike -/
def op_alike_L1 (q1s0 q1s5 q1s6 y0 : AV) (H : List Ob) (B1 : List AV → List Ob → Prop) (K : AV → List Ob → Prop) : Prop :=
  aBin false false .lss y0 q1s6 fun v1 =>
  aGuard v1
  (aIndexAddr 2 q1s5 y0 fun v2 =>
  aLoad true 2 v2 H fun v3 =>
  aAlloc [(.p (.int .i64 0)), (.full [])] H fun v4 h5 =>
  aStore 2 v4 v3 h5 fun _ h7 =>
  aLoad true 2 v4 h7 fun v8 =>
  aIndexAddr 2 q1s0 (.p (.int .i64 0)) fun v9 =>
  aLoad true 2 v9 h7 fun v10 =>
  aCallT Tryz.prog (.p (.func typ_Same_i [])) [v8, v10] fun v11 =>
  aUn .not v11 fun v12 =>
  aGuard v12
  (K (.p (.bool false)) h7)
  (aBin false false .add y0 (.p (.int .i64 1)) fun v13 =>
  B1 [v13] h7))
  (K (.p (.bool true)) H)

def op_alike (x0 : AV) (H : List Ob) (K : AV → List Ob → Prop) : Prop :=
  aLen false false x0 fun v0 =>
  aLoopN 1 [(.p (.int .i64 0))] H fun xs H B1 => op_alike_L1 x0 x0 v0 (xs.getD 0 .top) H B1 K

def op_alike_ann : Nat → List Nat := fun k => match k with | 2 => [7] | _ => []

theorem op_alike_eq (x0 : AV) (H : List Ob) (r : AV) (Ho : List Ob) : aBody Tryz.prog op_alike_ann Tryz.f131 H [x0] r Ho = op_alike x0 H (fun v H' => Gives H.length v H' r Ho) := by kernel_rfl

theorem op_alike_fn {x0 : AV} {r : AV} {Ho : List Ob} (h : op_alike x0 [] (fun v H' => Gives 0 v H' r Ho)) : Abs.Fn Tryz.prog op_alike_i [] [x0] r Ho :=
  fn_intro mixed op_alike_ann (fn := Tryz.f131) (by kernel_rfl) (by kernel_rfl) (by rw [op_alike_eq]; exact h)

end Go.Proofs.YtijnpcociedigaaGreatDoor
end

section
/- Made by program (Gen.lean): functions of the dump, over trees. -/
set_option maxRecDepth 4000
set_option linter.unusedVariables false
namespace Go.Proofs.YtijnpcociedigaaGreatDoor
open Go Go.Abs

/- slices.Contains[[]int,int] -/
def slices_Contains_int_int (x0 x1 : AV) (H : List Ob) (K : AV → List Ob → Prop) : Prop :=
  aCall Tryz.prog (.p (.func slices_Index_int_int_i [])) [x0, x1] H fun v0 h1 =>
  aBin false false .geq v0 (.p (.int .i64 0)) fun v2 =>
  K v2 h1

def slices_Contains_int_int_ann : Nat → List Nat := fun _ => []

theorem slices_Contains_int_int_eq (x0 x1 : AV) (H : List Ob) (r : AV) (Ho : List Ob) : aBody Tryz.prog slices_Contains_int_int_ann Tryz.f74 H [x0, x1] r Ho = slices_Contains_int_int x0 x1 H (fun v H' => Gives H.length v H' r Ho) := by kernel_rfl

theorem slices_Contains_int_int_fn {x0 x1 : AV} {r : AV} {Ho : List Ob} (h : slices_Contains_int_int x0 x1 [] (fun v H' => Gives 0 v H' r Ho)) : Abs.Fn Tryz.prog slices_Contains_int_int_i [] [x0, x1] r Ho :=
  fn_intro mixed slices_Contains_int_int_ann (fn := Tryz.f74) (by kernel_rfl) (by kernel_rfl) (by rw [slices_Contains_int_int_eq]; exact h)

/- slices.Index[[]int,int] -/
def slices_Index_int_int_L1 (q1s0 q1s1 q1s7 y0 : AV) (H : List Ob) (B1 : List AV → List Ob → Prop) (K : AV → List Ob → Prop) : Prop :=
  aBin false false .lss y0 q1s7 fun v1 =>
  aGuard v1
  (aIndexAddr 1 q1s0 y0 fun v2 =>
  aLoad false 1 v2 H fun v3 =>
  aBin false false .eql q1s1 v3 fun v4 =>
  aGuard v4
  (K y0 H)
  (aBin false false .add y0 (.p (.int .i64 1)) fun v5 =>
  B1 [v5] H))
  (K (.p (.int .i64 (-1))) H)

def slices_Index_int_int (x0 x1 : AV) (H : List Ob) (K : AV → List Ob → Prop) : Prop :=
  aLen false false x0 fun v0 =>
  aLoopN 1 [(.p (.int .i64 0))] H fun xs H B1 => slices_Index_int_int_L1 x0 x1 v0 (xs.getD 0 .top) H B1 K

def slices_Index_int_int_ann : Nat → List Nat := fun k => match k with | 2 => [8] | _ => []

theorem slices_Index_int_int_eq (x0 x1 : AV) (H : List Ob) (r : AV) (Ho : List Ob) : aBody Tryz.prog slices_Index_int_int_ann Tryz.f107 H [x0, x1] r Ho = slices_Index_int_int x0 x1 H (fun v H' => Gives H.length v H' r Ho) := by kernel_rfl

theorem slices_Index_int_int_fn {x0 x1 : AV} {r : AV} {Ho : List Ob} (h : slices_Index_int_int x0 x1 [] (fun v H' => Gives 0 v H' r Ho)) : Abs.Fn Tryz.prog slices_Index_int_int_i [] [x0, x1] r Ho :=
  fn_intro mixed slices_Index_int_int_ann (fn := Tryz.f107) (by kernel_rfl) (by kernel_rfl) (by rw [slices_Index_int_int_eq]; exact h)

end Go.Proofs.YtijnpcociedigaaGreatDoor
end

section
/- Made by program (Gen.lean): functions of the dump, over trees. -/
set_option maxRecDepth 4000
set_option linter.unusedVariables false
namespace Go.Proofs.YtijnpcociedigaaGreatDoor
open Go Go.Abs

/- runnel/runnellaw8.Good -/
def runnellaw8_Good (x0 : AV) (H : List Ob) (K : AV → List Ob → Prop) : Prop :=
  aCall Tryz.prog (.p (.func runnellaw8_Few_i [])) [x0] H fun v0 h1 =>
  aUn .not v0 fun v2 =>
  aGuard v2
  (K (.p (.bool false)) h1)
  (aCall Tryz.prog (.p (.func runnellaw8_Of_i [])) [x0] h1 fun v3 h4 =>
  aCall Tryz.prog (.p (.func runnelref10_Check_i [])) [v3] h4 fun v5 h6 =>
  aExtract v5 0 fun _ =>
  aExtract v5 1 fun v8 =>
  aBin false false .eql v8 (.p (.int .i64 0)) fun v9 =>
  K v9 h6)

def runnellaw8_Good_ann : Nat → List Nat := fun _ => []

theorem runnellaw8_Good_eq (x0 : AV) (H : List Ob) (r : AV) (Ho : List Ob) : aBody Tryz.prog runnellaw8_Good_ann Tryz.f8 H [x0] r Ho = runnellaw8_Good x0 H (fun v H' => Gives H.length v H' r Ho) := by kernel_rfl

theorem runnellaw8_Good_fn {x0 : AV} {r : AV} {Ho : List Ob} (h : runnellaw8_Good x0 [] (fun v H' => Gives 0 v H' r Ho)) : Abs.Fn Tryz.prog runnellaw8_Good_i [] [x0] r Ho :=
  fn_intro mixed runnellaw8_Good_ann (fn := Tryz.f8) (by kernel_rfl) (by kernel_rfl) (by rw [runnellaw8_Good_eq]; exact h)

/- runnel/runnellaw8.Of -/
def runnellaw8_Of_L1 (q1s0 y0 y1 : AV) (H : List Ob) (B1 : List AV → List Ob → Prop) (K : AV → List Ob → Prop) : Prop :=
  aLen false false q1s0 fun v0 =>
  aBin false false .lss y1 v0 fun v1 =>
  aGuard v1
  (aIndexAddr 21 q1s0 y1 fun v2 =>
  aLoad true 21 v2 H fun v3 =>
  aAlloc [(.p (.str [])), (.p (.int .i64 0)), (.p (.str [])), (.p (.int .i64 0)), (.full []), (.full []), (.p (.str [])), (.p (.int .i64 0)), (.p (.int .i64 0)), (.p (.bool false)), (.p (.str [])), (.full []), (.p (.int .i64 0)), (.full []), (.p (.int .i64 0)), (.p (.int .i64 0)), (.full []), (.p (.int .i64 0)), (.p (.int .i64 0)), (.p (.str [])), (.p (.bool false))] H fun v4 h5 =>
  aStore 21 v4 v3 h5 fun _ h7 =>
  aFieldAddr 0 v4 fun v8 =>
  aLoad false 1 v8 h7 fun v9 =>
  aFieldAddr 1 v4 fun v10 =>
  aLoad true 15 v10 h7 fun v11 =>
  aCallT Tryz.prog (.p (.func runnellaw7_Of_i [])) [v11] fun v12 =>
  aFieldAddr 16 v4 fun v13 =>
  aLoad false 1 v13 h7 fun v14 =>
  aFieldAddr 17 v4 fun v15 =>
  aLoad false 1 v15 h7 fun v16 =>
  aFieldAddr 18 v4 fun v17 =>
  aLoad false 1 v17 h7 fun v18 =>
  aFieldAddr 19 v4 fun v19 =>
  aLoad false 1 v19 h7 fun v20 =>
  aFieldAddr 20 v4 fun v21 =>
  aLoad false 1 v21 h7 fun v22 =>
  aBuild [(.p (.str [])), (.p (.int .i64 0)), (.p (.str [])), (.p (.int .i64 0)), (.full []), (.full []), (.p (.str [])), (.p (.int .i64 0)), (.p (.int .i64 0)), (.p (.bool false)), (.p (.str [])), (.full []), (.p (.int .i64 0)), (.full []), (.p (.int .i64 0)), (.p (.int .i64 0)), (.full []), (.p (.int .i64 0)), (.p (.int .i64 0)), (.p (.str [])), (.p (.bool false))] [(0, 1, v9), (1, 15, v12), (16, 1, v14), (17, 1, v16), (18, 1, v18), (19, 1, v20), (20, 1, v22)] fun v23 =>
  aBuildSlice 21 [v23] fun v24 =>
  aCalm [y0, v24] <|
  aAppend false 21 288 y0 v24 h7 fun v25 h26 =>
  aBin false false .add y1 (.p (.int .i64 1)) fun v27 =>
  B1 [v25, v27] h26)
  (K y0 H)

def runnellaw8_Of (x0 : AV) (H : List Ob) (K : AV → List Ob → Prop) : Prop :=
  aLoopN 2 [(.full []), (.p (.int .i64 0))] H fun xs H B1 => runnellaw8_Of_L1 x0 (xs.getD 0 .top) (xs.getD 1 .top) H B1 K

def runnellaw8_Of_ann : Nat → List Nat := fun k => match k with | 3 => [3, 4] | _ => []

theorem runnellaw8_Of_eq (x0 : AV) (H : List Ob) (r : AV) (Ho : List Ob) : aBody Tryz.prog runnellaw8_Of_ann Tryz.f9 H [x0] r Ho = runnellaw8_Of x0 H (fun v H' => Gives H.length v H' r Ho) := by kernel_rfl

theorem runnellaw8_Of_fn {x0 : AV} {r : AV} {Ho : List Ob} (h : runnellaw8_Of x0 [] (fun v H' => Gives 0 v H' r Ho)) : Abs.Fn Tryz.prog runnellaw8_Of_i [] [x0] r Ho :=
  fn_intro mixed runnellaw8_Of_ann (fn := Tryz.f9) (by kernel_rfl) (by kernel_rfl) (by rw [runnellaw8_Of_eq]; exact h)

/- runnel/runnellaw8.Few -/
def runnellaw8_Few_L1 (q1s0 y0 : AV) (H : List Ob) (B1 : List AV → List Ob → Prop) (K : AV → List Ob → Prop) : Prop :=
  aLen false false q1s0 fun v2 =>
  aBin false false .lss y0 v2 fun v3 =>
  aGuard v3
  (aIndexAddr 21 q1s0 y0 fun v4 =>
  aFieldAddr 0 v4 fun v5 =>
  aLoad false 1 v5 H fun v6 =>
  aLen false true v6 fun v7 =>
  aBin false false .gtr v7 (.p (.int .i64 50)) fun v8 =>
  aMerge false v8 (fun Q9 =>
  aIndexAddr 21 q1s0 y0 fun v10 =>
  aFieldAddr 19 v10 fun v11 =>
  aLoad false 1 v11 H fun v12 =>
  aLenS true v12 fun v13 =>
  aBin false false .gtr v13 (.p (.int .i64 50)) fun v14 =>
  (H = H ∧ Q9 v14)) fun v15 =>
  aMerge false v15 (fun Q16 =>
  aIndexAddr 21 q1s0 y0 fun v17 =>
  aFieldAddr 16 v17 fun v18 =>
  aLoad false 1 v18 H fun v19 =>
  aLenS false v19 fun v20 =>
  aBin false false .gtr v20 (.p (.int .i64 8)) fun v21 =>
  (H = H ∧ Q16 v21)) fun v22 =>
  aMerge false v22 (fun Q23 =>
  aIndexAddr 21 q1s0 y0 fun v24 =>
  aFieldAddr 1 v24 fun v25 =>
  aLoad true 15 v25 H fun v26 =>
  aCall Tryz.prog (.p (.func runnellaw7_Few_i [])) [v26] H fun v27 h28 =>
  aUn .not v27 fun v29 =>
  (h28 = H ∧ Q23 v29)) fun v30 =>
  aGuard v30
  (K (.p (.bool false)) H)
  (aBin false false .add y0 (.p (.int .i64 1)) fun v31 =>
  B1 [v31] H))
  (K (.p (.bool true)) H)

def runnellaw8_Few (x0 : AV) (H : List Ob) (K : AV → List Ob → Prop) : Prop :=
  aLen false false x0 fun v0 =>
  aBin false false .gtr v0 (.p (.int .i64 20)) fun v1 =>
  aGuard v1
  (K (.p (.bool false)) H)
  (aLoopN 1 [(.p (.int .i64 0))] H fun xs H B1 => runnellaw8_Few_L1 x0 (xs.getD 0 .top) H B1 K)

def runnellaw8_Few_ann : Nat → List Nat := fun k => match k with | 4 => [3] | _ => []

theorem runnellaw8_Few_eq (x0 : AV) (H : List Ob) (r : AV) (Ho : List Ob) : aBody Tryz.prog runnellaw8_Few_ann Tryz.f22 H [x0] r Ho = runnellaw8_Few x0 H (fun v H' => Gives H.length v H' r Ho) := by kernel_rfl

theorem runnellaw8_Few_fn {x0 : AV} {r : AV} {Ho : List Ob} (h : runnellaw8_Few x0 [] (fun v H' => Gives 0 v H' r Ho)) : Abs.Fn Tryz.prog runnellaw8_Few_i [] [x0] r Ho :=
  fn_intro mixed runnellaw8_Few_ann (fn := Tryz.f22) (by kernel_rfl) (by kernel_rfl) (by rw [runnellaw8_Few_eq]; exact h)

/- runnel/graph.Types -/
def graph_Types_L1 (q1s0 q1s8 q1s9 y0 y1 : AV) (H : List Ob) (B1 : List AV → List Ob → Prop) (K : AV → List Ob → Prop) : Prop :=
  aBin false false .lss y1 q1s9 fun v1 =>
  aGuard v1
  (aIndexAddr 21 q1s8 y1 fun v2 =>
  aLoad true 21 v2 H fun v3 =>
  aAlloc [(.p (.str [])), (.p (.int .i64 0)), (.p (.str [])), (.p (.int .i64 0)), (.full []), (.full []), (.p (.str [])), (.p (.int .i64 0)), (.p (.int .i64 0)), (.p (.bool false)), (.p (.str [])), (.full []), (.p (.int .i64 0)), (.full []), (.p (.int .i64 0)), (.p (.int .i64 0)), (.full []), (.p (.int .i64 0)), (.p (.int .i64 0)), (.p (.str [])), (.p (.bool false))] H fun v4 h5 =>
  aStore 21 v4 v3 h5 fun _ h7 =>
  aAlloc [(.p (.int .i64 0)), (.full [])] h7 fun v8 h9 =>
  aLoad true 21 v4 h9 fun v10 =>
  aSlice false 21 q1s0 none (some y1) none fun v11 =>
  aCallT Tryz.prog (.p (.func graph_Node_check_i [])) [v10, v11, y0] fun v12 =>
  aExtract v12 0 fun v13 =>
  aExtract v12 1 fun v14 =>
  aStore 2 v8 v13 h9 fun _ h16 =>
  aBin false false .neq v14 (.p (.int .i64 0)) fun v17 =>
  aGuard v17
  (K (.full []) h16)
  (aLoad true 2 v8 h16 fun v18 =>
  aBuildSlice 2 [v18] fun v19 =>
  aAppend false 2 32 y0 v19 h16 fun v20 h21 =>
  aBin false false .add y1 (.p (.int .i64 1)) fun v22 =>
  B1 [v20, v22] h21))
  (aCall Tryz.prog (.p (.func slices_Clip_typ_Type_typ_Type_i [])) [y0] H fun v23 h24 =>
  K v23 h24)

def graph_Types (x0 : AV) (H : List Ob) (K : AV → List Ob → Prop) : Prop :=
  aLen false false x0 fun v0 =>
  aLoopN 2 [(.full []), (.p (.int .i64 0))] H fun xs H B1 => graph_Types_L1 x0 x0 v0 (xs.getD 0 .top) (xs.getD 1 .top) H B1 K

def graph_Types_ann : Nat → List Nat := fun k => match k with | 3 => [3, 10] | _ => []

theorem graph_Types_eq (x0 : AV) (H : List Ob) (r : AV) (Ho : List Ob) : aBody Tryz.prog graph_Types_ann Tryz.f30 H [x0] r Ho = graph_Types x0 H (fun v H' => Gives H.length v H' r Ho) := by kernel_rfl

theorem graph_Types_fn {x0 : AV} {r : AV} {Ho : List Ob} (h : graph_Types x0 [] (fun v H' => Gives 0 v H' r Ho)) : Abs.Fn Tryz.prog graph_Types_i [] [x0] r Ho :=
  fn_intro mixed graph_Types_ann (fn := Tryz.f30) (by kernel_rfl) (by kernel_rfl) (by rw [graph_Types_eq]; exact h)

/- (runnel/graph.Node).check (in pieces) -/
def graph_Node_check_ann : Nat → List Nat := fun k => match k with | 1000999999 => [1] | 2000001 => [1, 2, 3, 6, 9999] | 2000002 => [1, 2, 3, 6, 8, 9999] | 2000003 => [1, 2, 3, 6, 8, 9, 9999] | 2000004 => [1, 2, 3, 6, 8, 9, 14, 9999] | 2000005 => [1, 2, 3, 6, 8, 9, 14, 9999] | 2000007 => [1, 2, 3, 6, 9, 29, 9999] | 2000009 => [1, 2, 3, 6, 9, 39, 9999] | 2000010 => [1, 2, 3, 6, 9, 39, 9999] | 2000011 => [1, 2, 3, 6, 9, 39, 9999] | 2000012 => [1, 2, 3, 6, 9, 39, 9999] | 2000013 => [1, 2, 3, 6, 9, 39, 9999] | 2000014 => [1, 2, 3, 6, 9, 9999] | 2000015 => [1, 3, 6, 9, 10, 11, 9999] | 2000017 => [1, 3, 6, 9, 10, 11, 9999] | 2000019 => [6, 10, 11, 9999] | 3000015 => [1000] | _ => []
def graph_Node_check_cut : Nat → Bool := fun k => match k with | 1 => true | 2 => true | 3 => true | 4 => true | 5 => true | 7 => true | 9 => true | 10 => true | 11 => true | 12 => true | 13 => true | 14 => true | 15 => true | 17 => true | 19 => true | _ => false
noncomputable def graph_Node_check_c : Code := Tryz.f40.body.getD .skip
noncomputable def graph_Node_check_c1 : Code := (cr graph_Node_check_c)
noncomputable def graph_Node_check_c2 : Code := (cr (cr graph_Node_check_c))
noncomputable def graph_Node_check_c3 : Code := (cr (cr (cr graph_Node_check_c)))
noncomputable def graph_Node_check_c4 : Code := (cr (cl (cl (cl (cr (cr (cr graph_Node_check_c)))))))
noncomputable def graph_Node_check_c5 : Code := (cr (cl (cl (cr (cr (cr graph_Node_check_c))))))
noncomputable def graph_Node_check_c7 : Code := (cr (cr (cr (cl (cl (cr (cr (cr graph_Node_check_c))))))))
noncomputable def graph_Node_check_c9 : Code := (cr (cl (cr (cr (cr (cr (cl (cl (cr (cr (cr graph_Node_check_c)))))))))))
noncomputable def graph_Node_check_c10 : Code := (cr (cr (cr (cl (cr (cr (cr (cr (cl (cl (cr (cr (cr graph_Node_check_c)))))))))))))
noncomputable def graph_Node_check_c11 : Code := (cr (cr (cr (cr (cr (cl (cr (cr (cr (cr (cl (cl (cr (cr (cr graph_Node_check_c)))))))))))))))
noncomputable def graph_Node_check_c12 : Code := (cr (cr (cr (cr (cr (cr (cr (cl (cr (cr (cr (cr (cl (cl (cr (cr (cr graph_Node_check_c)))))))))))))))))
noncomputable def graph_Node_check_c13 : Code := (cr (cr (cr (cr (cr (cl (cl (cr (cr (cr graph_Node_check_c))))))))))
noncomputable def graph_Node_check_c14 : Code := (cr (cr (cr (cr graph_Node_check_c))))
noncomputable def graph_Node_check_c15 : Code := (cr (cr (cr (cr (cr graph_Node_check_c)))))
noncomputable def graph_Node_check_c17 : Code := (cr (cr (cr (cr (cr (cr graph_Node_check_c))))))
noncomputable def graph_Node_check_c19 : Code := (cr (cr (cr (cr (cr (cr (cr graph_Node_check_c)))))))

def graph_Node_check_P0 (j0 j1 j2 : AV) (H : List Ob) (self : Code → List AV → List Ob → Ko → Prop) (kp : Ko) : Prop :=
  aBox j0 H fun v0 h1 =>
  aAlloc [(.p (.int .i64 0)), (.full [])] h1 fun v2 h3 =>
  self graph_Node_check_c1 (keepS [1, 2, 3, 6, 9999] 0 [j0,j1,j2,v0,.top,.top,v2,(.p (.int .i64 0)),.top,.top,.top,.top,.top,.top,.top,.top,.top,.top,.top,.top,.top,.top,.top,.top,.top,.top,.top,.top,.top,.top,.top,.top,.top,.top,.top,.top,.top,.top,.top,.top,.top,.top,.top,.top,.top,.top,.top,.top,.top,.top,.top,.top,.top,.top,.top,.top,.top,.top,.top,.top,.top,.top,.top,.top,.top,.top,.top,.top,.top,.top,.top,.top,.top,.top,.top,.top,.top,.top,.top,.top,.top,.top,.top,.top,.top,.top,.top,.top,.top,.top,.top,.top,.top,.top,.top]) h3 kp

theorem graph_Node_check_P0_x (j0 j1 j2 : AV) (H : List Ob) (self : Code → List AV → List Ob → Ko → Prop) (kp : Ko) : awpX Tryz.prog graph_Node_check_ann self graph_Node_check_cut graph_Node_check_c ([j0,j1,j2] ++ List.replicate 92 .top) H kp = graph_Node_check_P0 j0 j1 j2 H self kp := by kernel_rfl

theorem graph_Node_check_c_eq (j0 j1 j2 : AV) (H : List Ob) (kp : Ko) : awp Tryz.prog graph_Node_check_ann graph_Node_check_c [j0,j1,j2,.top,.top,.top,.top,.top,.top,.top,.top,.top,.top,.top,.top,.top,.top,.top,.top,.top,.top,.top,.top,.top,.top,.top,.top,.top,.top,.top,.top,.top,.top,.top,.top,.top,.top,.top,.top,.top,.top,.top,.top,.top,.top,.top,.top,.top,.top,.top,.top,.top,.top,.top,.top,.top,.top,.top,.top,.top,.top,.top,.top,.top,.top,.top,.top,.top,.top,.top,.top,.top,.top,.top,.top,.top,.top,.top,.top,.top,.top,.top,.top,.top,.top,.top,.top,.top,.top,.top,.top,.top,.top,.top,.top] H kp = graph_Node_check_P0 j0 j1 j2 H (awp Tryz.prog graph_Node_check_ann) kp :=
  Eq.trans (by kernel_rfl) ((awpX_eq Tryz.prog graph_Node_check_ann graph_Node_check_cut _ _ _ _).symm.trans (graph_Node_check_P0_x j0 j1 j2 H _ kp))

theorem graph_Node_check_eq (j0 j1 j2 : AV) (H : List Ob) (r : AV) (Ho : List Ob) : aBody Tryz.prog graph_Node_check_ann Tryz.f40 H [j0, j1, j2] r Ho = graph_Node_check_P0 j0 j1 j2 H (awp Tryz.prog graph_Node_check_ann) (kEnd Tryz.prog [.cell 6 39, .tmp 7] fun v H' => Gives H.length v H' r Ho) :=
  (show aBody Tryz.prog graph_Node_check_ann Tryz.f40 H [j0, j1, j2] r Ho = awp Tryz.prog graph_Node_check_ann graph_Node_check_c [j0,j1,j2,.top,.top,.top,.top,.top,.top,.top,.top,.top,.top,.top,.top,.top,.top,.top,.top,.top,.top,.top,.top,.top,.top,.top,.top,.top,.top,.top,.top,.top,.top,.top,.top,.top,.top,.top,.top,.top,.top,.top,.top,.top,.top,.top,.top,.top,.top,.top,.top,.top,.top,.top,.top,.top,.top,.top,.top,.top,.top,.top,.top,.top,.top,.top,.top,.top,.top,.top,.top,.top,.top,.top,.top,.top,.top,.top,.top,.top,.top,.top,.top,.top,.top,.top,.top,.top,.top,.top,.top,.top,.top,.top,.top] H (kEnd Tryz.prog [.cell 6 39, .tmp 7] fun v H' => Gives H.length v H' r Ho) from by kernel_rfl).trans (graph_Node_check_c_eq j0 j1 j2 H _)

theorem graph_Node_check_fn {j0 j1 j2 : AV} {r : AV} {Ho : List Ob} (h : graph_Node_check_P0 j0 j1 j2 [] (awp Tryz.prog graph_Node_check_ann) (kEnd Tryz.prog [.cell 6 39, .tmp 7] fun v H' => Gives 0 v H' r Ho)) : Abs.Fn Tryz.prog graph_Node_check_i [] [j0, j1, j2] r Ho :=
  fn_intro mixed graph_Node_check_ann (fn := Tryz.f40) (by kernel_rfl) (by kernel_rfl) (by rw [graph_Node_check_eq]; exact h)

def graph_Node_check_P1 (j1 j2 j3 j6 : AV) (H : List Ob) (self : Code → List AV → List Ob → Ko → Prop) (kp : Ko) : Prop :=
  aMakeFunc graph_Node_check_1_i [j3] H fun v4 h5 =>
  self graph_Node_check_c2 (keepS [1, 2, 3, 6, 8, 9999] 0 [.top,j1,j2,j3,.top,.top,j6,.top,v4,.top,.top,.top,v4,.top,.top,.top,.top,.top,.top,.top,.top,.top,.top,.top,.top,.top,.top,.top,.top,.top,.top,.top,.top,.top,.top,.top,.top,.top,.top,.top,.top,.top,.top,.top,.top,.top,.top,.top,.top,.top,.top,.top,.top,.top,.top,.top,.top,.top,.top,.top,.top,.top,.top,.top,.top,.top,.top,.top,.top,.top,.top,.top,.top,.top,.top,.top,.top,.top,.top,.top,.top,.top,.top,.top,.top,.top,.top,.top,.top,.top,.top,.top,.top,.top,.top]) h5 kp

theorem graph_Node_check_P1_x (j1 j2 j3 j6 : AV) (H : List Ob) (self : Code → List AV → List Ob → Ko → Prop) (kp : Ko) : awpX Tryz.prog graph_Node_check_ann self graph_Node_check_cut graph_Node_check_c1 ([.top,j1,j2,j3,.top,.top,j6] ++ List.replicate 88 .top) H kp = graph_Node_check_P1 j1 j2 j3 j6 H self kp := by kernel_rfl

theorem graph_Node_check_c1_eq (j0 j1 j2 j3 j4 j5 j6 j7 j8 j9 j10 j11 j12 j13 j14 j15 j16 j17 j18 j19 j20 j21 j22 j23 j24 j25 j26 j27 j28 j29 j30 j31 j32 j33 j34 j35 j36 j37 j38 j39 j40 j41 j42 j43 j44 j45 j46 j47 j48 j49 j50 j51 j52 j53 j54 j55 j56 j57 j58 j59 j60 j61 j62 j63 j64 j65 j66 j67 j68 j69 j70 j71 j72 j73 j74 j75 j76 j77 j78 j79 j80 j81 j82 j83 j84 j85 j86 j87 j88 j89 j90 j91 j92 j93 j94 : AV) (H : List Ob) (kp : Ko) : awp Tryz.prog graph_Node_check_ann graph_Node_check_c1 (keepS [1, 2, 3, 6, 9999] 0 [j0,j1,j2,j3,j4,j5,j6,j7,j8,j9,j10,j11,j12,j13,j14,j15,j16,j17,j18,j19,j20,j21,j22,j23,j24,j25,j26,j27,j28,j29,j30,j31,j32,j33,j34,j35,j36,j37,j38,j39,j40,j41,j42,j43,j44,j45,j46,j47,j48,j49,j50,j51,j52,j53,j54,j55,j56,j57,j58,j59,j60,j61,j62,j63,j64,j65,j66,j67,j68,j69,j70,j71,j72,j73,j74,j75,j76,j77,j78,j79,j80,j81,j82,j83,j84,j85,j86,j87,j88,j89,j90,j91,j92,j93,j94]) H kp = graph_Node_check_P1 j1 j2 j3 j6 H (awp Tryz.prog graph_Node_check_ann) kp :=
  Eq.trans (by kernel_rfl) ((awpX_eq Tryz.prog graph_Node_check_ann graph_Node_check_cut _ _ _ _).symm.trans (graph_Node_check_P1_x j1 j2 j3 j6 H _ kp))

def graph_Node_check_P2 (j1 j2 j3 j6 j8 : AV) (H : List Ob) (self : Code → List AV → List Ob → Ko → Prop) (kp : Ko) : Prop :=
  aMakeFunc graph_Node_check_2_i [j3] H fun v6 h7 =>
  self graph_Node_check_c3 (keepS [1, 2, 3, 6, 8, 9, 9999] 0 [.top,j1,j2,j3,.top,.top,j6,.top,j8,v6,.top,.top,.top,v6,.top,.top,.top,.top,.top,.top,.top,.top,.top,.top,.top,.top,.top,.top,.top,.top,.top,.top,.top,.top,.top,.top,.top,.top,.top,.top,.top,.top,.top,.top,.top,.top,.top,.top,.top,.top,.top,.top,.top,.top,.top,.top,.top,.top,.top,.top,.top,.top,.top,.top,.top,.top,.top,.top,.top,.top,.top,.top,.top,.top,.top,.top,.top,.top,.top,.top,.top,.top,.top,.top,.top,.top,.top,.top,.top,.top,.top,.top,.top,.top,.top]) h7 kp

theorem graph_Node_check_P2_x (j1 j2 j3 j6 j8 : AV) (H : List Ob) (self : Code → List AV → List Ob → Ko → Prop) (kp : Ko) : awpX Tryz.prog graph_Node_check_ann self graph_Node_check_cut graph_Node_check_c2 ([.top,j1,j2,j3,.top,.top,j6,.top,j8] ++ List.replicate 86 .top) H kp = graph_Node_check_P2 j1 j2 j3 j6 j8 H self kp := by kernel_rfl

theorem graph_Node_check_c2_eq (j0 j1 j2 j3 j4 j5 j6 j7 j8 j9 j10 j11 j12 j13 j14 j15 j16 j17 j18 j19 j20 j21 j22 j23 j24 j25 j26 j27 j28 j29 j30 j31 j32 j33 j34 j35 j36 j37 j38 j39 j40 j41 j42 j43 j44 j45 j46 j47 j48 j49 j50 j51 j52 j53 j54 j55 j56 j57 j58 j59 j60 j61 j62 j63 j64 j65 j66 j67 j68 j69 j70 j71 j72 j73 j74 j75 j76 j77 j78 j79 j80 j81 j82 j83 j84 j85 j86 j87 j88 j89 j90 j91 j92 j93 j94 : AV) (H : List Ob) (kp : Ko) : awp Tryz.prog graph_Node_check_ann graph_Node_check_c2 (keepS [1, 2, 3, 6, 8, 9999] 0 [j0,j1,j2,j3,j4,j5,j6,j7,j8,j9,j10,j11,j12,j13,j14,j15,j16,j17,j18,j19,j20,j21,j22,j23,j24,j25,j26,j27,j28,j29,j30,j31,j32,j33,j34,j35,j36,j37,j38,j39,j40,j41,j42,j43,j44,j45,j46,j47,j48,j49,j50,j51,j52,j53,j54,j55,j56,j57,j58,j59,j60,j61,j62,j63,j64,j65,j66,j67,j68,j69,j70,j71,j72,j73,j74,j75,j76,j77,j78,j79,j80,j81,j82,j83,j84,j85,j86,j87,j88,j89,j90,j91,j92,j93,j94]) H kp = graph_Node_check_P2 j1 j2 j3 j6 j8 H (awp Tryz.prog graph_Node_check_ann) kp :=
  Eq.trans (by kernel_rfl) ((awpX_eq Tryz.prog graph_Node_check_ann graph_Node_check_cut _ _ _ _).symm.trans (graph_Node_check_P2_x j1 j2 j3 j6 j8 H _ kp))

def graph_Node_check_P3 (j1 j2 j3 j6 j8 j9 : AV) (H : List Ob) (self : Code → List AV → List Ob → Ko → Prop) (kp : Ko) : Prop :=
  aFieldAddr 0 j3 fun v8 =>
  aLoad false 1 v8 H fun v9 =>
  aBin false false .neq v9 (.p (.str [])) fun v10 =>
  aMerge true v10 (fun Q11 =>
  aFieldAddr 0 j3 fun v12 =>
  aLoad false 1 v12 H fun v13 =>
  aCall Tryz.prog (.p (.func op_Name_i [])) [v13] H fun v14 h15 =>
  aUn .not v14 fun v16 =>
  (h15 = H ∧ Q11 v16)) fun v17 =>
  self graph_Node_check_c4 (keepS [1, 2, 3, 6, 8, 9, 14, 9999] 0 [.top,j1,j2,j3,.top,.top,j6,.top,j8,j9,.top,.top,.top,.top,v17,v8,v9,v10,v10,.top,.top,.top,.top,v17,.top,.top,.top,.top,.top,.top,.top,.top,.top,.top,.top,.top,.top,.top,.top,.top,.top,.top,.top,.top,.top,.top,.top,.top,.top,.top,.top,.top,.top,.top,.top,.top,.top,.top,.top,.top,.top,.top,.top,.top,.top,.top,.top,.top,.top,.top,.top,.top,.top,.top,.top,.top,.top,.top,.top,.top,.top,.top,.top,.top,.top,.top,.top,.top,.top,.top,.top,.top,.top,.top,.top]) H (kSeq self graph_Node_check_c5 [1, 2, 3, 6, 8, 9, 14, 9999] (kBlock 0 (kSeq self graph_Node_check_c14 [1, 2, 3, 6, 9, 9999] kp)))

theorem graph_Node_check_P3_x (j1 j2 j3 j6 j8 j9 : AV) (H : List Ob) (self : Code → List AV → List Ob → Ko → Prop) (kp : Ko) : awpX Tryz.prog graph_Node_check_ann self graph_Node_check_cut graph_Node_check_c3 ([.top,j1,j2,j3,.top,.top,j6,.top,j8,j9] ++ List.replicate 85 .top) H kp = graph_Node_check_P3 j1 j2 j3 j6 j8 j9 H self kp := by kernel_rfl

theorem graph_Node_check_c3_eq (j0 j1 j2 j3 j4 j5 j6 j7 j8 j9 j10 j11 j12 j13 j14 j15 j16 j17 j18 j19 j20 j21 j22 j23 j24 j25 j26 j27 j28 j29 j30 j31 j32 j33 j34 j35 j36 j37 j38 j39 j40 j41 j42 j43 j44 j45 j46 j47 j48 j49 j50 j51 j52 j53 j54 j55 j56 j57 j58 j59 j60 j61 j62 j63 j64 j65 j66 j67 j68 j69 j70 j71 j72 j73 j74 j75 j76 j77 j78 j79 j80 j81 j82 j83 j84 j85 j86 j87 j88 j89 j90 j91 j92 j93 j94 : AV) (H : List Ob) (kp : Ko) : awp Tryz.prog graph_Node_check_ann graph_Node_check_c3 (keepS [1, 2, 3, 6, 8, 9, 9999] 0 [j0,j1,j2,j3,j4,j5,j6,j7,j8,j9,j10,j11,j12,j13,j14,j15,j16,j17,j18,j19,j20,j21,j22,j23,j24,j25,j26,j27,j28,j29,j30,j31,j32,j33,j34,j35,j36,j37,j38,j39,j40,j41,j42,j43,j44,j45,j46,j47,j48,j49,j50,j51,j52,j53,j54,j55,j56,j57,j58,j59,j60,j61,j62,j63,j64,j65,j66,j67,j68,j69,j70,j71,j72,j73,j74,j75,j76,j77,j78,j79,j80,j81,j82,j83,j84,j85,j86,j87,j88,j89,j90,j91,j92,j93,j94]) H kp = graph_Node_check_P3 j1 j2 j3 j6 j8 j9 H (awp Tryz.prog graph_Node_check_ann) kp :=
  Eq.trans (by kernel_rfl) ((awpX_eq Tryz.prog graph_Node_check_ann graph_Node_check_cut _ _ _ _).symm.trans (graph_Node_check_P3_x j1 j2 j3 j6 j8 j9 H _ kp))

def graph_Node_check_P4 (j1 j2 j3 j6 j8 j9 j14 : AV) (H : List Ob) (_ : Code → List AV → List Ob → Ko → Prop) (kp : Ko) : Prop :=
  aGuard j14
  (kp .normal [.top,j1,j2,j3,.top,.top,j6,.top,j8,j9,.top,.top,.top,.top,(.p (.bool true)),.top,.top,.top,.top,.top,.top,.top,.top,.top,.top,.top,.top,.top,.top,.top,.top,.top,.top,.top,.top,.top,.top,.top,.top,.top,.top,.top,.top,.top,.top,.top,.top,.top,.top,.top,.top,.top,.top,.top,.top,.top,.top,.top,.top,.top,.top,.top,.top,.top,.top,.top,.top,.top,.top,.top,.top,.top,.top,.top,.top,.top,.top,.top,.top,.top,.top,.top,.top,.top,.top,.top,.top,.top,.top,.top,.top,.top,.top,.top,.top] H)
  (aFieldAddr 19 j3 fun v18 =>
  aLoad false 1 v18 H fun v19 =>
  aCall Tryz.prog (.p (.func op_Name_i [])) [v19] H fun v20 h21 =>
  aUn .not v20 fun v22 =>
  kp .normal [.top,j1,j2,j3,.top,.top,j6,.top,j8,j9,.top,.top,.top,.top,v22,.top,.top,.top,.top,.top,.top,.top,.top,.top,v18,v19,v20,v22,.top,.top,.top,.top,.top,.top,.top,.top,.top,.top,.top,.top,.top,.top,.top,.top,.top,.top,.top,.top,.top,.top,.top,.top,.top,.top,.top,.top,.top,.top,.top,.top,.top,.top,.top,.top,.top,.top,.top,.top,.top,.top,.top,.top,.top,.top,.top,.top,.top,.top,.top,.top,.top,.top,.top,.top,.top,.top,.top,.top,.top,.top,.top,.top,.top,.top,.top] h21)

theorem graph_Node_check_P4_x (j1 j2 j3 j6 j8 j9 j14 : AV) (H : List Ob) (self : Code → List AV → List Ob → Ko → Prop) (kp : Ko) : awpX Tryz.prog graph_Node_check_ann self graph_Node_check_cut graph_Node_check_c4 ([.top,j1,j2,j3,.top,.top,j6,.top,j8,j9,.top,.top,.top,.top,j14] ++ List.replicate 80 .top) H kp = graph_Node_check_P4 j1 j2 j3 j6 j8 j9 j14 H self kp := by kernel_rfl

theorem graph_Node_check_c4_eq (j0 j1 j2 j3 j4 j5 j6 j7 j8 j9 j10 j11 j12 j13 j14 j15 j16 j17 j18 j19 j20 j21 j22 j23 j24 j25 j26 j27 j28 j29 j30 j31 j32 j33 j34 j35 j36 j37 j38 j39 j40 j41 j42 j43 j44 j45 j46 j47 j48 j49 j50 j51 j52 j53 j54 j55 j56 j57 j58 j59 j60 j61 j62 j63 j64 j65 j66 j67 j68 j69 j70 j71 j72 j73 j74 j75 j76 j77 j78 j79 j80 j81 j82 j83 j84 j85 j86 j87 j88 j89 j90 j91 j92 j93 j94 : AV) (H : List Ob) (kp : Ko) : awp Tryz.prog graph_Node_check_ann graph_Node_check_c4 (keepS [1, 2, 3, 6, 8, 9, 14, 9999] 0 [j0,j1,j2,j3,j4,j5,j6,j7,j8,j9,j10,j11,j12,j13,j14,j15,j16,j17,j18,j19,j20,j21,j22,j23,j24,j25,j26,j27,j28,j29,j30,j31,j32,j33,j34,j35,j36,j37,j38,j39,j40,j41,j42,j43,j44,j45,j46,j47,j48,j49,j50,j51,j52,j53,j54,j55,j56,j57,j58,j59,j60,j61,j62,j63,j64,j65,j66,j67,j68,j69,j70,j71,j72,j73,j74,j75,j76,j77,j78,j79,j80,j81,j82,j83,j84,j85,j86,j87,j88,j89,j90,j91,j92,j93,j94]) H kp = graph_Node_check_P4 j1 j2 j3 j6 j8 j9 j14 H (awp Tryz.prog graph_Node_check_ann) kp :=
  Eq.trans (by kernel_rfl) ((awpX_eq Tryz.prog graph_Node_check_ann graph_Node_check_cut _ _ _ _).symm.trans (graph_Node_check_P4_x j1 j2 j3 j6 j8 j9 j14 H _ kp))

def graph_Node_check_P5 (j1 j2 j3 j6 j8 j9 j14 : AV) (H : List Ob) (self : Code → List AV → List Ob → Ko → Prop) (kp : Ko) : Prop :=
  aGuard j14
  (aBuild [(.p (.int .i64 0)), (.full [])] [] fun v23 =>
  aStore 2 j6 v23 H fun _ h25 =>
  kp .ret [.top,j1,j2,j3,.top,.top,j6,(.p (.int .i64 6)),j8,j9,.top,.top,.top,.top,(.p (.bool true)),.top,.top,.top,.top,.top,.top,.top,.top,.top,.top,.top,.top,.top,v23,.top,.top,.top,.top,.top,.top,.top,.top,.top,.top,.top,.top,.top,.top,.top,.top,.top,.top,.top,.top,.top,.top,.top,.top,.top,.top,.top,.top,.top,.top,.top,.top,.top,.top,.top,.top,.top,.top,.top,.top,.top,.top,.top,.top,.top,.top,.top,.top,.top,.top,.top,.top,.top,.top,.top,.top,.top,.top,.top,.top,.top,.top,.top,.top,.top,.top] h25)
  (aFieldAddr 0 j3 fun v26 =>
  aLoad false 1 v26 H fun v27 =>
  aBin false false .neq v27 (.p (.str [])) fun v28 =>
  aMerge true v28 (fun Q29 =>
  aCall Tryz.prog (.p (.func slices_ContainsFunc_graph_Graph_graph_Node_i [])) [j1, j8] H fun v30 h31 =>
  (h31 = H ∧ Q29 v30)) fun v32 =>
  self graph_Node_check_c7 (keepS [1, 2, 3, 6, 9, 29, 9999] 0 [.top,j1,j2,j3,.top,.top,j6,.top,j8,j9,.top,.top,.top,.top,(.p (.bool false)),.top,.top,.top,.top,.top,.top,.top,.top,.top,.top,.top,.top,.top,.top,v32,v26,v27,v28,v28,.top,.top,.top,v32,.top,.top,.top,.top,.top,.top,.top,.top,.top,.top,.top,.top,.top,.top,.top,.top,.top,.top,.top,.top,.top,.top,.top,.top,.top,.top,.top,.top,.top,.top,.top,.top,.top,.top,.top,.top,.top,.top,.top,.top,.top,.top,.top,.top,.top,.top,.top,.top,.top,.top,.top,.top,.top,.top,.top,.top,.top]) H kp)

theorem graph_Node_check_P5_x (j1 j2 j3 j6 j8 j9 j14 : AV) (H : List Ob) (self : Code → List AV → List Ob → Ko → Prop) (kp : Ko) : awpX Tryz.prog graph_Node_check_ann self graph_Node_check_cut graph_Node_check_c5 ([.top,j1,j2,j3,.top,.top,j6,.top,j8,j9,.top,.top,.top,.top,j14] ++ List.replicate 80 .top) H kp = graph_Node_check_P5 j1 j2 j3 j6 j8 j9 j14 H self kp := by kernel_rfl

theorem graph_Node_check_c5_eq (j0 j1 j2 j3 j4 j5 j6 j7 j8 j9 j10 j11 j12 j13 j14 j15 j16 j17 j18 j19 j20 j21 j22 j23 j24 j25 j26 j27 j28 j29 j30 j31 j32 j33 j34 j35 j36 j37 j38 j39 j40 j41 j42 j43 j44 j45 j46 j47 j48 j49 j50 j51 j52 j53 j54 j55 j56 j57 j58 j59 j60 j61 j62 j63 j64 j65 j66 j67 j68 j69 j70 j71 j72 j73 j74 j75 j76 j77 j78 j79 j80 j81 j82 j83 j84 j85 j86 j87 j88 j89 j90 j91 j92 j93 j94 : AV) (H : List Ob) (kp : Ko) : awp Tryz.prog graph_Node_check_ann graph_Node_check_c5 (keepS [1, 2, 3, 6, 8, 9, 14, 9999] 0 [j0,j1,j2,j3,j4,j5,j6,j7,j8,j9,j10,j11,j12,j13,j14,j15,j16,j17,j18,j19,j20,j21,j22,j23,j24,j25,j26,j27,j28,j29,j30,j31,j32,j33,j34,j35,j36,j37,j38,j39,j40,j41,j42,j43,j44,j45,j46,j47,j48,j49,j50,j51,j52,j53,j54,j55,j56,j57,j58,j59,j60,j61,j62,j63,j64,j65,j66,j67,j68,j69,j70,j71,j72,j73,j74,j75,j76,j77,j78,j79,j80,j81,j82,j83,j84,j85,j86,j87,j88,j89,j90,j91,j92,j93,j94]) H kp = graph_Node_check_P5 j1 j2 j3 j6 j8 j9 j14 H (awp Tryz.prog graph_Node_check_ann) kp :=
  Eq.trans (by kernel_rfl) ((awpX_eq Tryz.prog graph_Node_check_ann graph_Node_check_cut _ _ _ _).symm.trans (graph_Node_check_P5_x j1 j2 j3 j6 j8 j9 j14 H _ kp))

def graph_Node_check_P7 (j1 j2 j3 j6 j9 j29 : AV) (H : List Ob) (self : Code → List AV → List Ob → Ko → Prop) (kp : Ko) : Prop :=
  aGuard j29
  (aBuild [(.p (.int .i64 0)), (.full [])] [] fun v33 =>
  aStore 2 j6 v33 H fun _ h35 =>
  kp .ret [.top,j1,j2,j3,.top,.top,j6,(.p (.int .i64 7)),.top,j9,.top,.top,.top,.top,.top,.top,.top,.top,.top,.top,.top,.top,.top,.top,.top,.top,.top,.top,.top,(.p (.bool true)),.top,.top,.top,.top,.top,.top,.top,.top,v33,.top,.top,.top,.top,.top,.top,.top,.top,.top,.top,.top,.top,.top,.top,.top,.top,.top,.top,.top,.top,.top,.top,.top,.top,.top,.top,.top,.top,.top,.top,.top,.top,.top,.top,.top,.top,.top,.top,.top,.top,.top,.top,.top,.top,.top,.top,.top,.top,.top,.top,.top,.top,.top,.top,.top,.top] h35)
  (aFieldAddr 17 j3 fun v36 =>
  aLoad false 1 v36 H fun v37 =>
  aBin false false .lss v37 (.p (.int .i64 1)) fun v38 =>
  self graph_Node_check_c9 (keepS [1, 2, 3, 6, 9, 39, 9999] 0 [.top,j1,j2,j3,.top,.top,j6,.top,.top,j9,.top,.top,.top,.top,.top,.top,.top,.top,.top,.top,.top,.top,.top,.top,.top,.top,.top,.top,.top,(.p (.bool false)),.top,.top,.top,.top,.top,.top,.top,.top,.top,v38,v36,v37,v38,.top,.top,.top,.top,.top,.top,.top,.top,.top,.top,.top,.top,.top,.top,.top,.top,.top,.top,.top,.top,.top,.top,.top,.top,.top,.top,.top,.top,.top,.top,.top,.top,.top,.top,.top,.top,.top,.top,.top,.top,.top,.top,.top,.top,.top,.top,.top,.top,.top,.top,.top,.top]) H (kSeq self graph_Node_check_c13 [1, 2, 3, 6, 9, 39, 9999] kp))

theorem graph_Node_check_P7_x (j1 j2 j3 j6 j9 j29 : AV) (H : List Ob) (self : Code → List AV → List Ob → Ko → Prop) (kp : Ko) : awpX Tryz.prog graph_Node_check_ann self graph_Node_check_cut graph_Node_check_c7 ([.top,j1,j2,j3,.top,.top,j6,.top,.top,j9] ++ List.replicate 19 .top ++ [j29] ++ List.replicate 65 .top) H kp = graph_Node_check_P7 j1 j2 j3 j6 j9 j29 H self kp := by kernel_rfl

theorem graph_Node_check_c7_eq (j0 j1 j2 j3 j4 j5 j6 j7 j8 j9 j10 j11 j12 j13 j14 j15 j16 j17 j18 j19 j20 j21 j22 j23 j24 j25 j26 j27 j28 j29 j30 j31 j32 j33 j34 j35 j36 j37 j38 j39 j40 j41 j42 j43 j44 j45 j46 j47 j48 j49 j50 j51 j52 j53 j54 j55 j56 j57 j58 j59 j60 j61 j62 j63 j64 j65 j66 j67 j68 j69 j70 j71 j72 j73 j74 j75 j76 j77 j78 j79 j80 j81 j82 j83 j84 j85 j86 j87 j88 j89 j90 j91 j92 j93 j94 : AV) (H : List Ob) (kp : Ko) : awp Tryz.prog graph_Node_check_ann graph_Node_check_c7 (keepS [1, 2, 3, 6, 9, 29, 9999] 0 [j0,j1,j2,j3,j4,j5,j6,j7,j8,j9,j10,j11,j12,j13,j14,j15,j16,j17,j18,j19,j20,j21,j22,j23,j24,j25,j26,j27,j28,j29,j30,j31,j32,j33,j34,j35,j36,j37,j38,j39,j40,j41,j42,j43,j44,j45,j46,j47,j48,j49,j50,j51,j52,j53,j54,j55,j56,j57,j58,j59,j60,j61,j62,j63,j64,j65,j66,j67,j68,j69,j70,j71,j72,j73,j74,j75,j76,j77,j78,j79,j80,j81,j82,j83,j84,j85,j86,j87,j88,j89,j90,j91,j92,j93,j94]) H kp = graph_Node_check_P7 j1 j2 j3 j6 j9 j29 H (awp Tryz.prog graph_Node_check_ann) kp :=
  Eq.trans (by kernel_rfl) ((awpX_eq Tryz.prog graph_Node_check_ann graph_Node_check_cut _ _ _ _).symm.trans (graph_Node_check_P7_x j1 j2 j3 j6 j9 j29 H _ kp))

def graph_Node_check_P9 (j1 j2 j3 j6 j9 j39 : AV) (H : List Ob) (self : Code → List AV → List Ob → Ko → Prop) (kp : Ko) : Prop :=
  aGuard j39
  (kp .normal [.top,j1,j2,j3,.top,.top,j6,.top,.top,j9,.top,.top,.top,.top,.top,.top,.top,.top,.top,.top,.top,.top,.top,.top,.top,.top,.top,.top,.top,.top,.top,.top,.top,.top,.top,.top,.top,.top,.top,(.p (.bool true)),.top,.top,.top,.top,.top,.top,.top,.top,.top,.top,.top,.top,.top,.top,.top,.top,.top,.top,.top,.top,.top,.top,.top,.top,.top,.top,.top,.top,.top,.top,.top,.top,.top,.top,.top,.top,.top,.top,.top,.top,.top,.top,.top,.top,.top,.top,.top,.top,.top,.top,.top,.top,.top,.top,.top] H)
  (aFieldAddr 17 j3 fun v39 =>
  aLoad false 1 v39 H fun v40 =>
  aBin false false .gtr v40 (.p (.int .i64 4)) fun v41 =>
  self graph_Node_check_c10 (keepS [1, 2, 3, 6, 9, 39, 9999] 0 [.top,j1,j2,j3,.top,.top,j6,.top,.top,j9,.top,.top,.top,.top,.top,.top,.top,.top,.top,.top,.top,.top,.top,.top,.top,.top,.top,.top,.top,.top,.top,.top,.top,.top,.top,.top,.top,.top,.top,v41,.top,.top,.top,v39,v40,v41,.top,.top,.top,.top,.top,.top,.top,.top,.top,.top,.top,.top,.top,.top,.top,.top,.top,.top,.top,.top,.top,.top,.top,.top,.top,.top,.top,.top,.top,.top,.top,.top,.top,.top,.top,.top,.top,.top,.top,.top,.top,.top,.top,.top,.top,.top,.top,.top,.top]) H kp)

theorem graph_Node_check_P9_x (j1 j2 j3 j6 j9 j39 : AV) (H : List Ob) (self : Code → List AV → List Ob → Ko → Prop) (kp : Ko) : awpX Tryz.prog graph_Node_check_ann self graph_Node_check_cut graph_Node_check_c9 ([.top,j1,j2,j3,.top,.top,j6,.top,.top,j9] ++ List.replicate 29 .top ++ [j39] ++ List.replicate 55 .top) H kp = graph_Node_check_P9 j1 j2 j3 j6 j9 j39 H self kp := by kernel_rfl

theorem graph_Node_check_c9_eq (j0 j1 j2 j3 j4 j5 j6 j7 j8 j9 j10 j11 j12 j13 j14 j15 j16 j17 j18 j19 j20 j21 j22 j23 j24 j25 j26 j27 j28 j29 j30 j31 j32 j33 j34 j35 j36 j37 j38 j39 j40 j41 j42 j43 j44 j45 j46 j47 j48 j49 j50 j51 j52 j53 j54 j55 j56 j57 j58 j59 j60 j61 j62 j63 j64 j65 j66 j67 j68 j69 j70 j71 j72 j73 j74 j75 j76 j77 j78 j79 j80 j81 j82 j83 j84 j85 j86 j87 j88 j89 j90 j91 j92 j93 j94 : AV) (H : List Ob) (kp : Ko) : awp Tryz.prog graph_Node_check_ann graph_Node_check_c9 (keepS [1, 2, 3, 6, 9, 39, 9999] 0 [j0,j1,j2,j3,j4,j5,j6,j7,j8,j9,j10,j11,j12,j13,j14,j15,j16,j17,j18,j19,j20,j21,j22,j23,j24,j25,j26,j27,j28,j29,j30,j31,j32,j33,j34,j35,j36,j37,j38,j39,j40,j41,j42,j43,j44,j45,j46,j47,j48,j49,j50,j51,j52,j53,j54,j55,j56,j57,j58,j59,j60,j61,j62,j63,j64,j65,j66,j67,j68,j69,j70,j71,j72,j73,j74,j75,j76,j77,j78,j79,j80,j81,j82,j83,j84,j85,j86,j87,j88,j89,j90,j91,j92,j93,j94]) H kp = graph_Node_check_P9 j1 j2 j3 j6 j9 j39 H (awp Tryz.prog graph_Node_check_ann) kp :=
  Eq.trans (by kernel_rfl) ((awpX_eq Tryz.prog graph_Node_check_ann graph_Node_check_cut _ _ _ _).symm.trans (graph_Node_check_P9_x j1 j2 j3 j6 j9 j39 H _ kp))

def graph_Node_check_P10 (j1 j2 j3 j6 j9 j39 : AV) (H : List Ob) (self : Code → List AV → List Ob → Ko → Prop) (kp : Ko) : Prop :=
  aGuard j39
  (kp .normal [.top,j1,j2,j3,.top,.top,j6,.top,.top,j9,.top,.top,.top,.top,.top,.top,.top,.top,.top,.top,.top,.top,.top,.top,.top,.top,.top,.top,.top,.top,.top,.top,.top,.top,.top,.top,.top,.top,.top,(.p (.bool true)),.top,.top,.top,.top,.top,.top,.top,.top,.top,.top,.top,.top,.top,.top,.top,.top,.top,.top,.top,.top,.top,.top,.top,.top,.top,.top,.top,.top,.top,.top,.top,.top,.top,.top,.top,.top,.top,.top,.top,.top,.top,.top,.top,.top,.top,.top,.top,.top,.top,.top,.top,.top,.top,.top,.top] H)
  (aFieldAddr 18 j3 fun v42 =>
  aLoad false 1 v42 H fun v43 =>
  aFieldAddr 17 j3 fun v44 =>
  aLoad false 1 v44 H fun v45 =>
  aBin false false .lss v43 v45 fun v46 =>
  self graph_Node_check_c11 (keepS [1, 2, 3, 6, 9, 39, 9999] 0 [.top,j1,j2,j3,.top,.top,j6,.top,.top,j9,.top,.top,.top,.top,.top,.top,.top,.top,.top,.top,.top,.top,.top,.top,.top,.top,.top,.top,.top,.top,.top,.top,.top,.top,.top,.top,.top,.top,.top,v46,.top,.top,.top,.top,.top,.top,v42,v43,v44,v45,v46,.top,.top,.top,.top,.top,.top,.top,.top,.top,.top,.top,.top,.top,.top,.top,.top,.top,.top,.top,.top,.top,.top,.top,.top,.top,.top,.top,.top,.top,.top,.top,.top,.top,.top,.top,.top,.top,.top,.top,.top,.top,.top,.top,.top]) H kp)

theorem graph_Node_check_P10_x (j1 j2 j3 j6 j9 j39 : AV) (H : List Ob) (self : Code → List AV → List Ob → Ko → Prop) (kp : Ko) : awpX Tryz.prog graph_Node_check_ann self graph_Node_check_cut graph_Node_check_c10 ([.top,j1,j2,j3,.top,.top,j6,.top,.top,j9] ++ List.replicate 29 .top ++ [j39] ++ List.replicate 55 .top) H kp = graph_Node_check_P10 j1 j2 j3 j6 j9 j39 H self kp := by kernel_rfl

theorem graph_Node_check_c10_eq (j0 j1 j2 j3 j4 j5 j6 j7 j8 j9 j10 j11 j12 j13 j14 j15 j16 j17 j18 j19 j20 j21 j22 j23 j24 j25 j26 j27 j28 j29 j30 j31 j32 j33 j34 j35 j36 j37 j38 j39 j40 j41 j42 j43 j44 j45 j46 j47 j48 j49 j50 j51 j52 j53 j54 j55 j56 j57 j58 j59 j60 j61 j62 j63 j64 j65 j66 j67 j68 j69 j70 j71 j72 j73 j74 j75 j76 j77 j78 j79 j80 j81 j82 j83 j84 j85 j86 j87 j88 j89 j90 j91 j92 j93 j94 : AV) (H : List Ob) (kp : Ko) : awp Tryz.prog graph_Node_check_ann graph_Node_check_c10 (keepS [1, 2, 3, 6, 9, 39, 9999] 0 [j0,j1,j2,j3,j4,j5,j6,j7,j8,j9,j10,j11,j12,j13,j14,j15,j16,j17,j18,j19,j20,j21,j22,j23,j24,j25,j26,j27,j28,j29,j30,j31,j32,j33,j34,j35,j36,j37,j38,j39,j40,j41,j42,j43,j44,j45,j46,j47,j48,j49,j50,j51,j52,j53,j54,j55,j56,j57,j58,j59,j60,j61,j62,j63,j64,j65,j66,j67,j68,j69,j70,j71,j72,j73,j74,j75,j76,j77,j78,j79,j80,j81,j82,j83,j84,j85,j86,j87,j88,j89,j90,j91,j92,j93,j94]) H kp = graph_Node_check_P10 j1 j2 j3 j6 j9 j39 H (awp Tryz.prog graph_Node_check_ann) kp :=
  Eq.trans (by kernel_rfl) ((awpX_eq Tryz.prog graph_Node_check_ann graph_Node_check_cut _ _ _ _).symm.trans (graph_Node_check_P10_x j1 j2 j3 j6 j9 j39 H _ kp))

def graph_Node_check_P11 (j1 j2 j3 j6 j9 j39 : AV) (H : List Ob) (self : Code → List AV → List Ob → Ko → Prop) (kp : Ko) : Prop :=
  aGuard j39
  (kp .normal [.top,j1,j2,j3,.top,.top,j6,.top,.top,j9,.top,.top,.top,.top,.top,.top,.top,.top,.top,.top,.top,.top,.top,.top,.top,.top,.top,.top,.top,.top,.top,.top,.top,.top,.top,.top,.top,.top,.top,(.p (.bool true)),.top,.top,.top,.top,.top,.top,.top,.top,.top,.top,.top,.top,.top,.top,.top,.top,.top,.top,.top,.top,.top,.top,.top,.top,.top,.top,.top,.top,.top,.top,.top,.top,.top,.top,.top,.top,.top,.top,.top,.top,.top,.top,.top,.top,.top,.top,.top,.top,.top,.top,.top,.top,.top,.top,.top] H)
  (aFieldAddr 18 j3 fun v47 =>
  aLoad false 1 v47 H fun v48 =>
  aBin false false .gtr v48 (.p (.int .i64 16)) fun v49 =>
  self graph_Node_check_c12 (keepS [1, 2, 3, 6, 9, 39, 9999] 0 [.top,j1,j2,j3,.top,.top,j6,.top,.top,j9,.top,.top,.top,.top,.top,.top,.top,.top,.top,.top,.top,.top,.top,.top,.top,.top,.top,.top,.top,.top,.top,.top,.top,.top,.top,.top,.top,.top,.top,v49,.top,.top,.top,.top,.top,.top,.top,.top,.top,.top,.top,v47,v48,v49,.top,.top,.top,.top,.top,.top,.top,.top,.top,.top,.top,.top,.top,.top,.top,.top,.top,.top,.top,.top,.top,.top,.top,.top,.top,.top,.top,.top,.top,.top,.top,.top,.top,.top,.top,.top,.top,.top,.top,.top,.top]) H kp)

theorem graph_Node_check_P11_x (j1 j2 j3 j6 j9 j39 : AV) (H : List Ob) (self : Code → List AV → List Ob → Ko → Prop) (kp : Ko) : awpX Tryz.prog graph_Node_check_ann self graph_Node_check_cut graph_Node_check_c11 ([.top,j1,j2,j3,.top,.top,j6,.top,.top,j9] ++ List.replicate 29 .top ++ [j39] ++ List.replicate 55 .top) H kp = graph_Node_check_P11 j1 j2 j3 j6 j9 j39 H self kp := by kernel_rfl

theorem graph_Node_check_c11_eq (j0 j1 j2 j3 j4 j5 j6 j7 j8 j9 j10 j11 j12 j13 j14 j15 j16 j17 j18 j19 j20 j21 j22 j23 j24 j25 j26 j27 j28 j29 j30 j31 j32 j33 j34 j35 j36 j37 j38 j39 j40 j41 j42 j43 j44 j45 j46 j47 j48 j49 j50 j51 j52 j53 j54 j55 j56 j57 j58 j59 j60 j61 j62 j63 j64 j65 j66 j67 j68 j69 j70 j71 j72 j73 j74 j75 j76 j77 j78 j79 j80 j81 j82 j83 j84 j85 j86 j87 j88 j89 j90 j91 j92 j93 j94 : AV) (H : List Ob) (kp : Ko) : awp Tryz.prog graph_Node_check_ann graph_Node_check_c11 (keepS [1, 2, 3, 6, 9, 39, 9999] 0 [j0,j1,j2,j3,j4,j5,j6,j7,j8,j9,j10,j11,j12,j13,j14,j15,j16,j17,j18,j19,j20,j21,j22,j23,j24,j25,j26,j27,j28,j29,j30,j31,j32,j33,j34,j35,j36,j37,j38,j39,j40,j41,j42,j43,j44,j45,j46,j47,j48,j49,j50,j51,j52,j53,j54,j55,j56,j57,j58,j59,j60,j61,j62,j63,j64,j65,j66,j67,j68,j69,j70,j71,j72,j73,j74,j75,j76,j77,j78,j79,j80,j81,j82,j83,j84,j85,j86,j87,j88,j89,j90,j91,j92,j93,j94]) H kp = graph_Node_check_P11 j1 j2 j3 j6 j9 j39 H (awp Tryz.prog graph_Node_check_ann) kp :=
  Eq.trans (by kernel_rfl) ((awpX_eq Tryz.prog graph_Node_check_ann graph_Node_check_cut _ _ _ _).symm.trans (graph_Node_check_P11_x j1 j2 j3 j6 j9 j39 H _ kp))

def graph_Node_check_P12 (j1 j2 j3 j6 j9 j39 : AV) (H : List Ob) (_ : Code → List AV → List Ob → Ko → Prop) (kp : Ko) : Prop :=
  aGuard j39
  (kp .normal [.top,j1,j2,j3,.top,.top,j6,.top,.top,j9,.top,.top,.top,.top,.top,.top,.top,.top,.top,.top,.top,.top,.top,.top,.top,.top,.top,.top,.top,.top,.top,.top,.top,.top,.top,.top,.top,.top,.top,(.p (.bool true)),.top,.top,.top,.top,.top,.top,.top,.top,.top,.top,.top,.top,.top,.top,.top,.top,.top,.top,.top,.top,.top,.top,.top,.top,.top,.top,.top,.top,.top,.top,.top,.top,.top,.top,.top,.top,.top,.top,.top,.top,.top,.top,.top,.top,.top,.top,.top,.top,.top,.top,.top,.top,.top,.top,.top] H)
  (aLoad true 21 j3 H fun v50 =>
  aCall Tryz.prog (.p (.func graph_Node_ins_i [])) [v50, j1] H fun v51 h52 =>
  aUn .not v51 fun v53 =>
  kp .normal [.top,j1,j2,j3,.top,.top,j6,.top,.top,j9,.top,.top,.top,.top,.top,.top,.top,.top,.top,.top,.top,.top,.top,.top,.top,.top,.top,.top,.top,.top,.top,.top,.top,.top,.top,.top,.top,.top,.top,v53,.top,.top,.top,.top,.top,.top,.top,.top,.top,.top,.top,.top,.top,.top,v50,j1,v51,v53,.top,.top,.top,.top,.top,.top,.top,.top,.top,.top,.top,.top,.top,.top,.top,.top,.top,.top,.top,.top,.top,.top,.top,.top,.top,.top,.top,.top,.top,.top,.top,.top,.top,.top,.top,.top,.top] h52)

theorem graph_Node_check_P12_x (j1 j2 j3 j6 j9 j39 : AV) (H : List Ob) (self : Code → List AV → List Ob → Ko → Prop) (kp : Ko) : awpX Tryz.prog graph_Node_check_ann self graph_Node_check_cut graph_Node_check_c12 ([.top,j1,j2,j3,.top,.top,j6,.top,.top,j9] ++ List.replicate 29 .top ++ [j39] ++ List.replicate 55 .top) H kp = graph_Node_check_P12 j1 j2 j3 j6 j9 j39 H self kp := by kernel_rfl

theorem graph_Node_check_c12_eq (j0 j1 j2 j3 j4 j5 j6 j7 j8 j9 j10 j11 j12 j13 j14 j15 j16 j17 j18 j19 j20 j21 j22 j23 j24 j25 j26 j27 j28 j29 j30 j31 j32 j33 j34 j35 j36 j37 j38 j39 j40 j41 j42 j43 j44 j45 j46 j47 j48 j49 j50 j51 j52 j53 j54 j55 j56 j57 j58 j59 j60 j61 j62 j63 j64 j65 j66 j67 j68 j69 j70 j71 j72 j73 j74 j75 j76 j77 j78 j79 j80 j81 j82 j83 j84 j85 j86 j87 j88 j89 j90 j91 j92 j93 j94 : AV) (H : List Ob) (kp : Ko) : awp Tryz.prog graph_Node_check_ann graph_Node_check_c12 (keepS [1, 2, 3, 6, 9, 39, 9999] 0 [j0,j1,j2,j3,j4,j5,j6,j7,j8,j9,j10,j11,j12,j13,j14,j15,j16,j17,j18,j19,j20,j21,j22,j23,j24,j25,j26,j27,j28,j29,j30,j31,j32,j33,j34,j35,j36,j37,j38,j39,j40,j41,j42,j43,j44,j45,j46,j47,j48,j49,j50,j51,j52,j53,j54,j55,j56,j57,j58,j59,j60,j61,j62,j63,j64,j65,j66,j67,j68,j69,j70,j71,j72,j73,j74,j75,j76,j77,j78,j79,j80,j81,j82,j83,j84,j85,j86,j87,j88,j89,j90,j91,j92,j93,j94]) H kp = graph_Node_check_P12 j1 j2 j3 j6 j9 j39 H (awp Tryz.prog graph_Node_check_ann) kp :=
  Eq.trans (by kernel_rfl) ((awpX_eq Tryz.prog graph_Node_check_ann graph_Node_check_cut _ _ _ _).symm.trans (graph_Node_check_P12_x j1 j2 j3 j6 j9 j39 H _ kp))

def graph_Node_check_P13 (j1 j2 j3 j6 j9 j39 : AV) (H : List Ob) (_ : Code → List AV → List Ob → Ko → Prop) (kp : Ko) : Prop :=
  aGuard j39
  (aBuild [(.p (.int .i64 0)), (.full [])] [] fun v54 =>
  aStore 2 j6 v54 H fun _ h56 =>
  kp .ret [.top,j1,j2,j3,.top,.top,j6,(.p (.int .i64 1)),.top,j9,.top,.top,.top,.top,.top,.top,.top,.top,.top,.top,.top,.top,.top,.top,.top,.top,.top,.top,.top,.top,.top,.top,.top,.top,.top,.top,.top,.top,.top,(.p (.bool true)),.top,.top,.top,.top,.top,.top,.top,.top,.top,.top,.top,.top,.top,.top,.top,.top,.top,.top,v54,.top,.top,.top,.top,.top,.top,.top,.top,.top,.top,.top,.top,.top,.top,.top,.top,.top,.top,.top,.top,.top,.top,.top,.top,.top,.top,.top,.top,.top,.top,.top,.top,.top,.top,.top,.top] h56)
  (kp .normal [.top,j1,j2,j3,.top,.top,j6,.top,.top,j9,.top,.top,.top,.top,.top,.top,.top,.top,.top,.top,.top,.top,.top,.top,.top,.top,.top,.top,.top,.top,.top,.top,.top,.top,.top,.top,.top,.top,.top,(.p (.bool false)),.top,.top,.top,.top,.top,.top,.top,.top,.top,.top,.top,.top,.top,.top,.top,.top,.top,.top,.top,.top,.top,.top,.top,.top,.top,.top,.top,.top,.top,.top,.top,.top,.top,.top,.top,.top,.top,.top,.top,.top,.top,.top,.top,.top,.top,.top,.top,.top,.top,.top,.top,.top,.top,.top,.top] H)

theorem graph_Node_check_P13_x (j1 j2 j3 j6 j9 j39 : AV) (H : List Ob) (self : Code → List AV → List Ob → Ko → Prop) (kp : Ko) : awpX Tryz.prog graph_Node_check_ann self graph_Node_check_cut graph_Node_check_c13 ([.top,j1,j2,j3,.top,.top,j6,.top,.top,j9] ++ List.replicate 29 .top ++ [j39] ++ List.replicate 55 .top) H kp = graph_Node_check_P13 j1 j2 j3 j6 j9 j39 H self kp := by kernel_rfl

theorem graph_Node_check_c13_eq (j0 j1 j2 j3 j4 j5 j6 j7 j8 j9 j10 j11 j12 j13 j14 j15 j16 j17 j18 j19 j20 j21 j22 j23 j24 j25 j26 j27 j28 j29 j30 j31 j32 j33 j34 j35 j36 j37 j38 j39 j40 j41 j42 j43 j44 j45 j46 j47 j48 j49 j50 j51 j52 j53 j54 j55 j56 j57 j58 j59 j60 j61 j62 j63 j64 j65 j66 j67 j68 j69 j70 j71 j72 j73 j74 j75 j76 j77 j78 j79 j80 j81 j82 j83 j84 j85 j86 j87 j88 j89 j90 j91 j92 j93 j94 : AV) (H : List Ob) (kp : Ko) : awp Tryz.prog graph_Node_check_ann graph_Node_check_c13 (keepS [1, 2, 3, 6, 9, 39, 9999] 0 [j0,j1,j2,j3,j4,j5,j6,j7,j8,j9,j10,j11,j12,j13,j14,j15,j16,j17,j18,j19,j20,j21,j22,j23,j24,j25,j26,j27,j28,j29,j30,j31,j32,j33,j34,j35,j36,j37,j38,j39,j40,j41,j42,j43,j44,j45,j46,j47,j48,j49,j50,j51,j52,j53,j54,j55,j56,j57,j58,j59,j60,j61,j62,j63,j64,j65,j66,j67,j68,j69,j70,j71,j72,j73,j74,j75,j76,j77,j78,j79,j80,j81,j82,j83,j84,j85,j86,j87,j88,j89,j90,j91,j92,j93,j94]) H kp = graph_Node_check_P13 j1 j2 j3 j6 j9 j39 H (awp Tryz.prog graph_Node_check_ann) kp :=
  Eq.trans (by kernel_rfl) ((awpX_eq Tryz.prog graph_Node_check_ann graph_Node_check_cut _ _ _ _).symm.trans (graph_Node_check_P13_x j1 j2 j3 j6 j9 j39 H _ kp))

def graph_Node_check_P14 (j1 j2 j3 j6 j9 : AV) (H : List Ob) (self : Code → List AV → List Ob → Ko → Prop) (kp : Ko) : Prop :=
  aAlloc [(.p (.int .i64 0)), (.full [])] H fun v57 h58 =>
  aFieldAddr 1 j3 fun v59 =>
  aLoad true 15 v59 h58 fun v60 =>
  aFieldAddr 16 j3 fun v61 =>
  aLoad false 1 v61 h58 fun v62 =>
  aCallT Tryz.prog (.p (.func graph_of_i [])) [j2, v62] fun v63 =>
  aCallT Tryz.prog (.p (.func op_Out_i [])) [v60, v63] fun v64 =>
  aExtract v64 0 fun v65 =>
  aExtract v64 1 fun v66 =>
  aStore 2 v57 v65 h58 fun _ h68 =>
  self graph_Node_check_c15 (keepS [1, 3, 6, 9, 10, 11, 9999] 0 [.top,j1,j2,j3,.top,.top,j6,.top,.top,j9,v57,v66,.top,.top,.top,.top,.top,.top,.top,.top,.top,.top,.top,.top,.top,.top,.top,.top,.top,.top,.top,.top,.top,.top,.top,.top,.top,.top,.top,.top,.top,.top,.top,.top,.top,.top,.top,.top,.top,.top,.top,.top,.top,.top,.top,.top,.top,.top,.top,v64,v59,v60,j2,v61,v62,v63,v64,v65,v66,.top,.top,.top,.top,.top,.top,.top,.top,.top,.top,.top,.top,.top,.top,.top,.top,.top,.top,.top,.top,.top,.top,.top,.top,.top,.top]) h68 kp

theorem graph_Node_check_P14_x (j1 j2 j3 j6 j9 : AV) (H : List Ob) (self : Code → List AV → List Ob → Ko → Prop) (kp : Ko) : awpX Tryz.prog graph_Node_check_ann self graph_Node_check_cut graph_Node_check_c14 ([.top,j1,j2,j3,.top,.top,j6,.top,.top,j9] ++ List.replicate 85 .top) H kp = graph_Node_check_P14 j1 j2 j3 j6 j9 H self kp := by kernel_rfl

theorem graph_Node_check_c14_eq (j0 j1 j2 j3 j4 j5 j6 j7 j8 j9 j10 j11 j12 j13 j14 j15 j16 j17 j18 j19 j20 j21 j22 j23 j24 j25 j26 j27 j28 j29 j30 j31 j32 j33 j34 j35 j36 j37 j38 j39 j40 j41 j42 j43 j44 j45 j46 j47 j48 j49 j50 j51 j52 j53 j54 j55 j56 j57 j58 j59 j60 j61 j62 j63 j64 j65 j66 j67 j68 j69 j70 j71 j72 j73 j74 j75 j76 j77 j78 j79 j80 j81 j82 j83 j84 j85 j86 j87 j88 j89 j90 j91 j92 j93 j94 : AV) (H : List Ob) (kp : Ko) : awp Tryz.prog graph_Node_check_ann graph_Node_check_c14 (keepS [1, 2, 3, 6, 9, 9999] 0 [j0,j1,j2,j3,j4,j5,j6,j7,j8,j9,j10,j11,j12,j13,j14,j15,j16,j17,j18,j19,j20,j21,j22,j23,j24,j25,j26,j27,j28,j29,j30,j31,j32,j33,j34,j35,j36,j37,j38,j39,j40,j41,j42,j43,j44,j45,j46,j47,j48,j49,j50,j51,j52,j53,j54,j55,j56,j57,j58,j59,j60,j61,j62,j63,j64,j65,j66,j67,j68,j69,j70,j71,j72,j73,j74,j75,j76,j77,j78,j79,j80,j81,j82,j83,j84,j85,j86,j87,j88,j89,j90,j91,j92,j93,j94]) H kp = graph_Node_check_P14 j1 j2 j3 j6 j9 H (awp Tryz.prog graph_Node_check_ann) kp :=
  Eq.trans (by kernel_rfl) ((awpX_eq Tryz.prog graph_Node_check_ann graph_Node_check_cut _ _ _ _).symm.trans (graph_Node_check_P14_x j1 j2 j3 j6 j9 H _ kp))

def graph_Node_check_P15 (j1 j3 j6 j9 j10 j11 : AV) (H : List Ob) (self : Code → List AV → List Ob → Ko → Prop) (kp : Ko) : Prop :=
  aBin false false .eql j11 (.p (.int .i64 0)) fun v69 =>
  (aGuard v69
  ((aCall Tryz.prog (.p (.func slices_Clone_graph_Graph_graph_Node_i [])) [j1] H fun v70 h71 =>
  aLoad true 21 j3 h71 fun v72 =>
  aBuildSlice 21 [v72] fun v73 =>
  aAppend false 21 288 v70 v73 h71 fun v74 h75 =>
  aCall Tryz.prog (.p (.func graph_weight_i [])) [v74] h75 fun v76 h77 =>
  aBin false false .gtr v76 (.p (.int .i64 64)) fun v78 =>
  aGuard v78
  (self graph_Node_check_c17 (keepS [1, 3, 6, 9, 10, 11, 9999] 0 [.top,j1,.top,j3,.top,.top,j6,.top,.top,j9,j10,(.p (.int .i64 10)),.top,.top,.top,.top,.top,.top,.top,.top,.top,.top,.top,.top,.top,.top,.top,.top,.top,.top,.top,.top,.top,.top,.top,.top,.top,.top,.top,.top,.top,.top,.top,.top,.top,.top,.top,.top,.top,.top,.top,.top,.top,.top,.top,.top,.top,.top,.top,.top,.top,.top,.top,.top,.top,.top,.top,.top,.top,j11,v69,(.p (.bool true)),j1,v70,v72,v73,v74,v76,v78,(.p (.bool true)),.top,.top,.top,.top,.top,.top,.top,.top,.top,.top,.top,.top,.top,.top,.top]) h77 kp)
  (self graph_Node_check_c17 (keepS [1, 3, 6, 9, 10, 11, 9999] 0 [.top,j1,.top,j3,.top,.top,j6,.top,.top,j9,j10,j11,.top,.top,.top,.top,.top,.top,.top,.top,.top,.top,.top,.top,.top,.top,.top,.top,.top,.top,.top,.top,.top,.top,.top,.top,.top,.top,.top,.top,.top,.top,.top,.top,.top,.top,.top,.top,.top,.top,.top,.top,.top,.top,.top,.top,.top,.top,.top,.top,.top,.top,.top,.top,.top,.top,.top,.top,.top,j11,v69,(.p (.bool true)),j1,v70,v72,v73,v74,v76,v78,(.p (.bool false)),.top,.top,.top,.top,.top,.top,.top,.top,.top,.top,.top,.top,.top,.top,.top]) h77 kp)) ∧
  (aLoad true 21 j3 H fun v79 =>
  (aCall Tryz.prog (.p (.func slices_Clone_graph_Graph_graph_Node_i [])) [j1] H fun v80 h81 =>
  aBuildSlice 21 [v79] fun v82 =>
  aAppend false 21 288 v80 v82 h81 fun v83 h84 =>
  aCall Tryz.prog (.p (.func graph_weight_i [])) [v83] h84 fun v85 h86 =>
  aBin false false .gtr v85 (.p (.int .i64 64)) fun v87 =>
  aGuard v87
  (self graph_Node_check_c17 (keepS [1, 3, 6, 9, 10, 11, 9999] 0 [.top,j1,.top,j3,.top,.top,j6,.top,.top,j9,j10,(.p (.int .i64 10)),.top,.top,.top,.top,.top,.top,.top,.top,.top,.top,.top,.top,.top,.top,.top,.top,.top,.top,.top,.top,.top,.top,.top,.top,.top,.top,.top,.top,.top,.top,.top,.top,.top,.top,.top,.top,.top,.top,.top,.top,.top,.top,.top,.top,.top,.top,.top,.top,.top,.top,.top,.top,.top,.top,.top,.top,.top,j11,v69,(.p (.bool true)),j1,v80,v79,v82,v83,v85,v87,(.p (.bool true)),.top,.top,.top,.top,.top,.top,.top,.top,.top,.top,.top,.top,.top,.top,.top]) h86 kp)
  (self graph_Node_check_c17 (keepS [1, 3, 6, 9, 10, 11, 9999] 0 [.top,j1,.top,j3,.top,.top,j6,.top,.top,j9,j10,j11,.top,.top,.top,.top,.top,.top,.top,.top,.top,.top,.top,.top,.top,.top,.top,.top,.top,.top,.top,.top,.top,.top,.top,.top,.top,.top,.top,.top,.top,.top,.top,.top,.top,.top,.top,.top,.top,.top,.top,.top,.top,.top,.top,.top,.top,.top,.top,.top,.top,.top,.top,.top,.top,.top,.top,.top,.top,j11,v69,(.p (.bool true)),j1,v80,v79,v82,v83,v85,v87,(.p (.bool false)),.top,.top,.top,.top,.top,.top,.top,.top,.top,.top,.top,.top,.top,.top,.top]) h86 kp)) ∧
  (aBuildSlice 21 [v79] fun v88 =>
  aCall Tryz.prog (.p (.func slices_Clone_graph_Graph_graph_Node_i [])) [j1] H fun v89 h90 =>
  aAppend false 21 288 v89 v88 h90 fun v91 h92 =>
  aCall Tryz.prog (.p (.func graph_weight_i [])) [v91] h92 fun v93 h94 =>
  aBin false false .gtr v93 (.p (.int .i64 64)) fun v95 =>
  aGuard v95
  (self graph_Node_check_c17 (keepS [1, 3, 6, 9, 10, 11, 9999] 0 [.top,j1,.top,j3,.top,.top,j6,.top,.top,j9,j10,(.p (.int .i64 10)),.top,.top,.top,.top,.top,.top,.top,.top,.top,.top,.top,.top,.top,.top,.top,.top,.top,.top,.top,.top,.top,.top,.top,.top,.top,.top,.top,.top,.top,.top,.top,.top,.top,.top,.top,.top,.top,.top,.top,.top,.top,.top,.top,.top,.top,.top,.top,.top,.top,.top,.top,.top,.top,.top,.top,.top,.top,j11,v69,(.p (.bool true)),j1,v89,v79,v88,v91,v93,v95,(.p (.bool true)),.top,.top,.top,.top,.top,.top,.top,.top,.top,.top,.top,.top,.top,.top,.top]) h94 kp)
  (self graph_Node_check_c17 (keepS [1, 3, 6, 9, 10, 11, 9999] 0 [.top,j1,.top,j3,.top,.top,j6,.top,.top,j9,j10,j11,.top,.top,.top,.top,.top,.top,.top,.top,.top,.top,.top,.top,.top,.top,.top,.top,.top,.top,.top,.top,.top,.top,.top,.top,.top,.top,.top,.top,.top,.top,.top,.top,.top,.top,.top,.top,.top,.top,.top,.top,.top,.top,.top,.top,.top,.top,.top,.top,.top,.top,.top,.top,.top,.top,.top,.top,.top,j11,v69,(.p (.bool true)),j1,v89,v79,v88,v91,v93,v95,(.p (.bool false)),.top,.top,.top,.top,.top,.top,.top,.top,.top,.top,.top,.top,.top,.top,.top]) h94 kp))))
  ((self graph_Node_check_c17 (keepS [1, 3, 6, 9, 10, 11, 9999] 0 [.top,j1,.top,j3,.top,.top,j6,.top,.top,j9,j10,j11,.top,.top,.top,.top,.top,.top,.top,.top,.top,.top,.top,.top,.top,.top,.top,.top,.top,.top,.top,.top,.top,.top,.top,.top,.top,.top,.top,.top,.top,.top,.top,.top,.top,.top,.top,.top,.top,.top,.top,.top,.top,.top,.top,.top,.top,.top,.top,.top,.top,.top,.top,.top,.top,.top,.top,.top,.top,j11,v69,(.p (.bool false)),(.tup []),(.tup []),(.tup []),(.tup []),(.tup []),(.tup []),(.tup []),(.p (.bool false)),.top,.top,.top,.top,.top,.top,.top,.top,.top,.top,.top,.top,.top,.top,.top]) H kp) ∧
  ((self graph_Node_check_c17 (keepS [1, 3, 6, 9, 10, 11, 9999] 0 [.top,j1,.top,j3,.top,.top,j6,.top,.top,j9,j10,j11,.top,.top,.top,.top,.top,.top,.top,.top,.top,.top,.top,.top,.top,.top,.top,.top,.top,.top,.top,.top,.top,.top,.top,.top,.top,.top,.top,.top,.top,.top,.top,.top,.top,.top,.top,.top,.top,.top,.top,.top,.top,.top,.top,.top,.top,.top,.top,.top,.top,.top,.top,.top,.top,.top,.top,.top,.top,j11,v69,(.p (.bool false)),(.tup []),(.tup []),(.tup []),(.tup []),(.tup []),(.tup []),(.tup []),(.p (.bool false)),.top,.top,.top,.top,.top,.top,.top,.top,.top,.top,.top,.top,.top,.top,.top]) H kp) ∧
  (self graph_Node_check_c17 (keepS [1, 3, 6, 9, 10, 11, 9999] 0 [.top,j1,.top,j3,.top,.top,j6,.top,.top,j9,j10,j11,.top,.top,.top,.top,.top,.top,.top,.top,.top,.top,.top,.top,.top,.top,.top,.top,.top,.top,.top,.top,.top,.top,.top,.top,.top,.top,.top,.top,.top,.top,.top,.top,.top,.top,.top,.top,.top,.top,.top,.top,.top,.top,.top,.top,.top,.top,.top,.top,.top,.top,.top,.top,.top,.top,.top,.top,.top,j11,v69,(.p (.bool false)),(.tup []),(.tup []),(.tup []),(.tup []),(.tup []),(.tup []),(.tup []),(.p (.bool false)),.top,.top,.top,.top,.top,.top,.top,.top,.top,.top,.top,.top,.top,.top,.top]) H kp)))) ∧
  (aGuard v69
  (aLoad true 21 j3 H fun v96 =>
  ((aCall Tryz.prog (.p (.func slices_Clone_graph_Graph_graph_Node_i [])) [j1] H fun v97 h98 =>
  aBuildSlice 21 [v96] fun v99 =>
  aAppend false 21 288 v97 v99 h98 fun v100 h101 =>
  aCall Tryz.prog (.p (.func graph_weight_i [])) [v100] h101 fun v102 h103 =>
  aBin false false .gtr v102 (.p (.int .i64 64)) fun v104 =>
  aGuard v104
  (self graph_Node_check_c17 (keepS [1, 3, 6, 9, 10, 11, 9999] 0 [.top,j1,.top,j3,.top,.top,j6,.top,.top,j9,j10,(.p (.int .i64 10)),.top,.top,.top,.top,.top,.top,.top,.top,.top,.top,.top,.top,.top,.top,.top,.top,.top,.top,.top,.top,.top,.top,.top,.top,.top,.top,.top,.top,.top,.top,.top,.top,.top,.top,.top,.top,.top,.top,.top,.top,.top,.top,.top,.top,.top,.top,.top,.top,.top,.top,.top,.top,.top,.top,.top,.top,.top,j11,v69,(.p (.bool true)),j1,v97,v96,v99,v100,v102,v104,(.p (.bool true)),.top,.top,.top,.top,.top,.top,.top,.top,.top,.top,.top,.top,.top,.top,.top]) h103 kp)
  (self graph_Node_check_c17 (keepS [1, 3, 6, 9, 10, 11, 9999] 0 [.top,j1,.top,j3,.top,.top,j6,.top,.top,j9,j10,j11,.top,.top,.top,.top,.top,.top,.top,.top,.top,.top,.top,.top,.top,.top,.top,.top,.top,.top,.top,.top,.top,.top,.top,.top,.top,.top,.top,.top,.top,.top,.top,.top,.top,.top,.top,.top,.top,.top,.top,.top,.top,.top,.top,.top,.top,.top,.top,.top,.top,.top,.top,.top,.top,.top,.top,.top,.top,j11,v69,(.p (.bool true)),j1,v97,v96,v99,v100,v102,v104,(.p (.bool false)),.top,.top,.top,.top,.top,.top,.top,.top,.top,.top,.top,.top,.top,.top,.top]) h103 kp)) ∧
  (aBuildSlice 21 [v96] fun v105 =>
  aCall Tryz.prog (.p (.func slices_Clone_graph_Graph_graph_Node_i [])) [j1] H fun v106 h107 =>
  aAppend false 21 288 v106 v105 h107 fun v108 h109 =>
  aCall Tryz.prog (.p (.func graph_weight_i [])) [v108] h109 fun v110 h111 =>
  aBin false false .gtr v110 (.p (.int .i64 64)) fun v112 =>
  aGuard v112
  (self graph_Node_check_c17 (keepS [1, 3, 6, 9, 10, 11, 9999] 0 [.top,j1,.top,j3,.top,.top,j6,.top,.top,j9,j10,(.p (.int .i64 10)),.top,.top,.top,.top,.top,.top,.top,.top,.top,.top,.top,.top,.top,.top,.top,.top,.top,.top,.top,.top,.top,.top,.top,.top,.top,.top,.top,.top,.top,.top,.top,.top,.top,.top,.top,.top,.top,.top,.top,.top,.top,.top,.top,.top,.top,.top,.top,.top,.top,.top,.top,.top,.top,.top,.top,.top,.top,j11,v69,(.p (.bool true)),j1,v106,v96,v105,v108,v110,v112,(.p (.bool true)),.top,.top,.top,.top,.top,.top,.top,.top,.top,.top,.top,.top,.top,.top,.top]) h111 kp)
  (self graph_Node_check_c17 (keepS [1, 3, 6, 9, 10, 11, 9999] 0 [.top,j1,.top,j3,.top,.top,j6,.top,.top,j9,j10,j11,.top,.top,.top,.top,.top,.top,.top,.top,.top,.top,.top,.top,.top,.top,.top,.top,.top,.top,.top,.top,.top,.top,.top,.top,.top,.top,.top,.top,.top,.top,.top,.top,.top,.top,.top,.top,.top,.top,.top,.top,.top,.top,.top,.top,.top,.top,.top,.top,.top,.top,.top,.top,.top,.top,.top,.top,.top,j11,v69,(.p (.bool true)),j1,v106,v96,v105,v108,v110,v112,(.p (.bool false)),.top,.top,.top,.top,.top,.top,.top,.top,.top,.top,.top,.top,.top,.top,.top]) h111 kp))) ∧
  (aBuildSlice 21 [v96] fun v113 =>
  aCall Tryz.prog (.p (.func slices_Clone_graph_Graph_graph_Node_i [])) [j1] H fun v114 h115 =>
  aAppend false 21 288 v114 v113 h115 fun v116 h117 =>
  aCall Tryz.prog (.p (.func graph_weight_i [])) [v116] h117 fun v118 h119 =>
  aBin false false .gtr v118 (.p (.int .i64 64)) fun v120 =>
  aGuard v120
  (self graph_Node_check_c17 (keepS [1, 3, 6, 9, 10, 11, 9999] 0 [.top,j1,.top,j3,.top,.top,j6,.top,.top,j9,j10,(.p (.int .i64 10)),.top,.top,.top,.top,.top,.top,.top,.top,.top,.top,.top,.top,.top,.top,.top,.top,.top,.top,.top,.top,.top,.top,.top,.top,.top,.top,.top,.top,.top,.top,.top,.top,.top,.top,.top,.top,.top,.top,.top,.top,.top,.top,.top,.top,.top,.top,.top,.top,.top,.top,.top,.top,.top,.top,.top,.top,.top,j11,v69,(.p (.bool true)),j1,v114,v96,v113,v116,v118,v120,(.p (.bool true)),.top,.top,.top,.top,.top,.top,.top,.top,.top,.top,.top,.top,.top,.top,.top]) h119 kp)
  (self graph_Node_check_c17 (keepS [1, 3, 6, 9, 10, 11, 9999] 0 [.top,j1,.top,j3,.top,.top,j6,.top,.top,j9,j10,j11,.top,.top,.top,.top,.top,.top,.top,.top,.top,.top,.top,.top,.top,.top,.top,.top,.top,.top,.top,.top,.top,.top,.top,.top,.top,.top,.top,.top,.top,.top,.top,.top,.top,.top,.top,.top,.top,.top,.top,.top,.top,.top,.top,.top,.top,.top,.top,.top,.top,.top,.top,.top,.top,.top,.top,.top,.top,j11,v69,(.p (.bool true)),j1,v114,v96,v113,v116,v118,v120,(.p (.bool false)),.top,.top,.top,.top,.top,.top,.top,.top,.top,.top,.top,.top,.top,.top,.top]) h119 kp)))
  (((self graph_Node_check_c17 (keepS [1, 3, 6, 9, 10, 11, 9999] 0 [.top,j1,.top,j3,.top,.top,j6,.top,.top,j9,j10,j11,.top,.top,.top,.top,.top,.top,.top,.top,.top,.top,.top,.top,.top,.top,.top,.top,.top,.top,.top,.top,.top,.top,.top,.top,.top,.top,.top,.top,.top,.top,.top,.top,.top,.top,.top,.top,.top,.top,.top,.top,.top,.top,.top,.top,.top,.top,.top,.top,.top,.top,.top,.top,.top,.top,.top,.top,.top,j11,v69,(.p (.bool false)),(.tup []),(.tup []),(.tup []),(.tup []),(.tup []),(.tup []),(.tup []),(.p (.bool false)),.top,.top,.top,.top,.top,.top,.top,.top,.top,.top,.top,.top,.top,.top,.top]) H kp) ∧
  (self graph_Node_check_c17 (keepS [1, 3, 6, 9, 10, 11, 9999] 0 [.top,j1,.top,j3,.top,.top,j6,.top,.top,j9,j10,j11,.top,.top,.top,.top,.top,.top,.top,.top,.top,.top,.top,.top,.top,.top,.top,.top,.top,.top,.top,.top,.top,.top,.top,.top,.top,.top,.top,.top,.top,.top,.top,.top,.top,.top,.top,.top,.top,.top,.top,.top,.top,.top,.top,.top,.top,.top,.top,.top,.top,.top,.top,.top,.top,.top,.top,.top,.top,j11,v69,(.p (.bool false)),(.tup []),(.tup []),(.tup []),(.tup []),(.tup []),(.tup []),(.tup []),(.p (.bool false)),.top,.top,.top,.top,.top,.top,.top,.top,.top,.top,.top,.top,.top,.top,.top]) H kp)) ∧
  (self graph_Node_check_c17 (keepS [1, 3, 6, 9, 10, 11, 9999] 0 [.top,j1,.top,j3,.top,.top,j6,.top,.top,j9,j10,j11,.top,.top,.top,.top,.top,.top,.top,.top,.top,.top,.top,.top,.top,.top,.top,.top,.top,.top,.top,.top,.top,.top,.top,.top,.top,.top,.top,.top,.top,.top,.top,.top,.top,.top,.top,.top,.top,.top,.top,.top,.top,.top,.top,.top,.top,.top,.top,.top,.top,.top,.top,.top,.top,.top,.top,.top,.top,j11,v69,(.p (.bool false)),(.tup []),(.tup []),(.tup []),(.tup []),(.tup []),(.tup []),(.tup []),(.p (.bool false)),.top,.top,.top,.top,.top,.top,.top,.top,.top,.top,.top,.top,.top,.top,.top]) H kp)))

theorem graph_Node_check_P15_x (j1 j3 j6 j9 j10 j11 : AV) (H : List Ob) (self : Code → List AV → List Ob → Ko → Prop) (kp : Ko) : awpX Tryz.prog graph_Node_check_ann self graph_Node_check_cut graph_Node_check_c15 ([.top,j1,.top,j3,.top,.top,j6,.top,.top,j9,j10,j11] ++ List.replicate 83 .top) H kp = graph_Node_check_P15 j1 j3 j6 j9 j10 j11 H self kp := by kernel_rfl

theorem graph_Node_check_c15_eq (j0 j1 j2 j3 j4 j5 j6 j7 j8 j9 j10 j11 j12 j13 j14 j15 j16 j17 j18 j19 j20 j21 j22 j23 j24 j25 j26 j27 j28 j29 j30 j31 j32 j33 j34 j35 j36 j37 j38 j39 j40 j41 j42 j43 j44 j45 j46 j47 j48 j49 j50 j51 j52 j53 j54 j55 j56 j57 j58 j59 j60 j61 j62 j63 j64 j65 j66 j67 j68 j69 j70 j71 j72 j73 j74 j75 j76 j77 j78 j79 j80 j81 j82 j83 j84 j85 j86 j87 j88 j89 j90 j91 j92 j93 j94 : AV) (H : List Ob) (kp : Ko) : awp Tryz.prog graph_Node_check_ann graph_Node_check_c15 (keepS [1, 3, 6, 9, 10, 11, 9999] 0 [j0,j1,j2,j3,j4,j5,j6,j7,j8,j9,j10,j11,j12,j13,j14,j15,j16,j17,j18,j19,j20,j21,j22,j23,j24,j25,j26,j27,j28,j29,j30,j31,j32,j33,j34,j35,j36,j37,j38,j39,j40,j41,j42,j43,j44,j45,j46,j47,j48,j49,j50,j51,j52,j53,j54,j55,j56,j57,j58,j59,j60,j61,j62,j63,j64,j65,j66,j67,j68,j69,j70,j71,j72,j73,j74,j75,j76,j77,j78,j79,j80,j81,j82,j83,j84,j85,j86,j87,j88,j89,j90,j91,j92,j93,j94]) H kp = graph_Node_check_P15 j1 j3 j6 j9 j10 j11 H (awp Tryz.prog graph_Node_check_ann) kp :=
  Eq.trans (by kernel_rfl) ((awpX_eq Tryz.prog graph_Node_check_ann graph_Node_check_cut _ _ _ _).symm.trans (graph_Node_check_P15_x j1 j3 j6 j9 j10 j11 H _ kp))

def graph_Node_check_P17 (j1 j3 j6 j9 j10 j11 : AV) (H : List Ob) (self : Code → List AV → List Ob → Ko → Prop) (kp : Ko) : Prop :=
  aBin false false .eql j11 (.p (.int .i64 0)) fun v121 =>
  aMerge true v121 (fun Q122 =>
  aFieldAddr 1 j3 fun v123 =>
  aFieldAddr 1 v123 fun v124 =>
  aLoad false 1 v124 H fun v125 =>
  aBin false false .neq v125 (.p (.str [])) fun v126 =>
  (H = H ∧ Q122 v126)) fun v127 =>
  aMerge true v127 (fun Q128 =>
  aCall Tryz.prog (.p (.func slices_ContainsFunc_graph_Graph_graph_Node_i [])) [j1, j9] H fun v129 h130 =>
  (h130 = H ∧ Q128 v129)) fun v131 =>
  aGuard v131
  (self graph_Node_check_c19 (keepS [6, 10, 11, 9999] 0 [.top,j1,.top,j3,.top,.top,j6,.top,.top,j9,j10,(.p (.int .i64 7)),.top,.top,.top,.top,.top,.top,.top,.top,.top,.top,.top,.top,.top,.top,.top,.top,.top,.top,.top,.top,.top,.top,.top,.top,.top,.top,.top,.top,.top,.top,.top,.top,.top,.top,.top,.top,.top,.top,.top,.top,.top,.top,.top,.top,.top,.top,.top,.top,.top,.top,.top,.top,.top,.top,.top,.top,.top,.top,.top,.top,.top,.top,.top,.top,.top,.top,.top,.top,j11,v121,v121,.top,.top,.top,.top,v127,v127,.top,.top,.top,(.p (.bool true)),.top,.top]) H kp)
  (self graph_Node_check_c19 (keepS [6, 10, 11, 9999] 0 [.top,j1,.top,j3,.top,.top,j6,.top,.top,j9,j10,j11,.top,.top,.top,.top,.top,.top,.top,.top,.top,.top,.top,.top,.top,.top,.top,.top,.top,.top,.top,.top,.top,.top,.top,.top,.top,.top,.top,.top,.top,.top,.top,.top,.top,.top,.top,.top,.top,.top,.top,.top,.top,.top,.top,.top,.top,.top,.top,.top,.top,.top,.top,.top,.top,.top,.top,.top,.top,.top,.top,.top,.top,.top,.top,.top,.top,.top,.top,.top,j11,v121,v121,.top,.top,.top,.top,v127,v127,.top,.top,.top,(.p (.bool false)),.top,.top]) H kp)

theorem graph_Node_check_P17_x (j1 j3 j6 j9 j10 j11 : AV) (H : List Ob) (self : Code → List AV → List Ob → Ko → Prop) (kp : Ko) : awpX Tryz.prog graph_Node_check_ann self graph_Node_check_cut graph_Node_check_c17 ([.top,j1,.top,j3,.top,.top,j6,.top,.top,j9,j10,j11] ++ List.replicate 83 .top) H kp = graph_Node_check_P17 j1 j3 j6 j9 j10 j11 H self kp := by kernel_rfl

theorem graph_Node_check_c17_eq (j0 j1 j2 j3 j4 j5 j6 j7 j8 j9 j10 j11 j12 j13 j14 j15 j16 j17 j18 j19 j20 j21 j22 j23 j24 j25 j26 j27 j28 j29 j30 j31 j32 j33 j34 j35 j36 j37 j38 j39 j40 j41 j42 j43 j44 j45 j46 j47 j48 j49 j50 j51 j52 j53 j54 j55 j56 j57 j58 j59 j60 j61 j62 j63 j64 j65 j66 j67 j68 j69 j70 j71 j72 j73 j74 j75 j76 j77 j78 j79 j80 j81 j82 j83 j84 j85 j86 j87 j88 j89 j90 j91 j92 j93 j94 : AV) (H : List Ob) (kp : Ko) : awp Tryz.prog graph_Node_check_ann graph_Node_check_c17 (keepS [1, 3, 6, 9, 10, 11, 9999] 0 [j0,j1,j2,j3,j4,j5,j6,j7,j8,j9,j10,j11,j12,j13,j14,j15,j16,j17,j18,j19,j20,j21,j22,j23,j24,j25,j26,j27,j28,j29,j30,j31,j32,j33,j34,j35,j36,j37,j38,j39,j40,j41,j42,j43,j44,j45,j46,j47,j48,j49,j50,j51,j52,j53,j54,j55,j56,j57,j58,j59,j60,j61,j62,j63,j64,j65,j66,j67,j68,j69,j70,j71,j72,j73,j74,j75,j76,j77,j78,j79,j80,j81,j82,j83,j84,j85,j86,j87,j88,j89,j90,j91,j92,j93,j94]) H kp = graph_Node_check_P17 j1 j3 j6 j9 j10 j11 H (awp Tryz.prog graph_Node_check_ann) kp :=
  Eq.trans (by kernel_rfl) ((awpX_eq Tryz.prog graph_Node_check_ann graph_Node_check_cut _ _ _ _).symm.trans (graph_Node_check_P17_x j1 j3 j6 j9 j10 j11 H _ kp))

def graph_Node_check_P19 (j6 j10 j11 : AV) (H : List Ob) (_ : Code → List AV → List Ob → Ko → Prop) (kp : Ko) : Prop :=
  aLoad true 2 j10 H fun v132 =>
  aStore 2 j6 v132 H fun _ h134 =>
  kp .ret [.top,.top,.top,.top,.top,.top,j6,j11,.top,.top,j10,j11,.top,.top,.top,.top,.top,.top,.top,.top,.top,.top,.top,.top,.top,.top,.top,.top,.top,.top,.top,.top,.top,.top,.top,.top,.top,.top,.top,.top,.top,.top,.top,.top,.top,.top,.top,.top,.top,.top,.top,.top,.top,.top,.top,.top,.top,.top,.top,.top,.top,.top,.top,.top,.top,.top,.top,.top,.top,.top,.top,.top,.top,.top,.top,.top,.top,.top,.top,.top,.top,.top,.top,.top,.top,.top,.top,.top,.top,.top,.top,.top,.top,v132,j11] h134

theorem graph_Node_check_P19_x (j6 j10 j11 : AV) (H : List Ob) (self : Code → List AV → List Ob → Ko → Prop) (kp : Ko) : awpX Tryz.prog graph_Node_check_ann self graph_Node_check_cut graph_Node_check_c19 (List.replicate 6 .top ++ [j6,.top,.top,.top,j10,j11] ++ List.replicate 83 .top) H kp = graph_Node_check_P19 j6 j10 j11 H self kp := by kernel_rfl

theorem graph_Node_check_c19_eq (j0 j1 j2 j3 j4 j5 j6 j7 j8 j9 j10 j11 j12 j13 j14 j15 j16 j17 j18 j19 j20 j21 j22 j23 j24 j25 j26 j27 j28 j29 j30 j31 j32 j33 j34 j35 j36 j37 j38 j39 j40 j41 j42 j43 j44 j45 j46 j47 j48 j49 j50 j51 j52 j53 j54 j55 j56 j57 j58 j59 j60 j61 j62 j63 j64 j65 j66 j67 j68 j69 j70 j71 j72 j73 j74 j75 j76 j77 j78 j79 j80 j81 j82 j83 j84 j85 j86 j87 j88 j89 j90 j91 j92 j93 j94 : AV) (H : List Ob) (kp : Ko) : awp Tryz.prog graph_Node_check_ann graph_Node_check_c19 (keepS [6, 10, 11, 9999] 0 [j0,j1,j2,j3,j4,j5,j6,j7,j8,j9,j10,j11,j12,j13,j14,j15,j16,j17,j18,j19,j20,j21,j22,j23,j24,j25,j26,j27,j28,j29,j30,j31,j32,j33,j34,j35,j36,j37,j38,j39,j40,j41,j42,j43,j44,j45,j46,j47,j48,j49,j50,j51,j52,j53,j54,j55,j56,j57,j58,j59,j60,j61,j62,j63,j64,j65,j66,j67,j68,j69,j70,j71,j72,j73,j74,j75,j76,j77,j78,j79,j80,j81,j82,j83,j84,j85,j86,j87,j88,j89,j90,j91,j92,j93,j94]) H kp = graph_Node_check_P19 j6 j10 j11 H (awp Tryz.prog graph_Node_check_ann) kp :=
  Eq.trans (by kernel_rfl) ((awpX_eq Tryz.prog graph_Node_check_ann graph_Node_check_cut _ _ _ _).symm.trans (graph_Node_check_P19_x j6 j10 j11 H _ kp))

/- (runnel/graph.Node).check$1 -/
def graph_Node_check_1 (x0 x1 : AV) (H : List Ob) (K : AV → List Ob → Prop) : Prop :=
  aBox x0 H fun v0 h1 =>
  aFieldAddr 0 v0 fun v2 =>
  aLoad false 1 v2 h1 fun v3 =>
  aFieldAddr 0 x1 fun v4 =>
  aLoad false 1 v4 h1 fun v5 =>
  aBin false false .eql v3 v5 fun v6 =>
  K v6 h1

def graph_Node_check_1_ann : Nat → List Nat := fun _ => []

theorem graph_Node_check_1_eq (x0 x1 : AV) (H : List Ob) (r : AV) (Ho : List Ob) : aBody Tryz.prog graph_Node_check_1_ann Tryz.f63 H [x0, x1] r Ho = graph_Node_check_1 x0 x1 H (fun v H' => Gives H.length v H' r Ho) := by kernel_rfl

theorem graph_Node_check_1_fn {x0 x1 : AV} {r : AV} {Ho : List Ob} (h : graph_Node_check_1 x0 x1 [] (fun v H' => Gives 0 v H' r Ho)) : Abs.Fn Tryz.prog graph_Node_check_1_i [] [x0, x1] r Ho :=
  fn_intro mixed graph_Node_check_1_ann (fn := Tryz.f63) (by kernel_rfl) (by kernel_rfl) (by rw [graph_Node_check_1_eq]; exact h)

/- (runnel/graph.Node).check$2 -/
def graph_Node_check_2 (x0 x1 : AV) (H : List Ob) (K : AV → List Ob → Prop) : Prop :=
  aBox x0 H fun v0 h1 =>
  aFieldAddr 1 v0 fun v2 =>
  aFieldAddr 0 v2 fun v3 =>
  aLoad false 1 v3 h1 fun v4 =>
  aFieldAddr 1 x1 fun v5 =>
  aFieldAddr 0 v5 fun v6 =>
  aLoad false 1 v6 h1 fun v7 =>
  aBin false false .eql v4 v7 fun v8 =>
  aMerge true v8 (fun Q9 =>
  aFieldAddr 1 v0 fun v10 =>
  aFieldAddr 1 v10 fun v11 =>
  aLoad false 1 v11 h1 fun v12 =>
  aFieldAddr 1 x1 fun v13 =>
  aFieldAddr 1 v13 fun v14 =>
  aLoad false 1 v14 h1 fun v15 =>
  aBin false false .eql v12 v15 fun v16 =>
  (h1 = h1 ∧ Q9 v16)) fun v17 =>
  K v17 h1

def graph_Node_check_2_ann : Nat → List Nat := fun _ => []

theorem graph_Node_check_2_eq (x0 x1 : AV) (H : List Ob) (r : AV) (Ho : List Ob) : aBody Tryz.prog graph_Node_check_2_ann Tryz.f64 H [x0, x1] r Ho = graph_Node_check_2 x0 x1 H (fun v H' => Gives H.length v H' r Ho) := by kernel_rfl

theorem graph_Node_check_2_fn {x0 x1 : AV} {r : AV} {Ho : List Ob} (h : graph_Node_check_2 x0 x1 [] (fun v H' => Gives 0 v H' r Ho)) : Abs.Fn Tryz.prog graph_Node_check_2_i [] [x0, x1] r Ho :=
  fn_intro mixed graph_Node_check_2_ann (fn := Tryz.f64) (by kernel_rfl) (by kernel_rfl) (by rw [graph_Node_check_2_eq]; exact h)

/- slices.ContainsFunc[runnel/graph.Graph,runnel/graph.Node] -/
def slices_ContainsFunc_graph_Graph_graph_Node (x0 x1 : AV) (H : List Ob) (K : AV → List Ob → Prop) : Prop :=
  aCall Tryz.prog (.p (.func slices_IndexFunc_graph_Graph_graph_Node_i [])) [x0, x1] H fun v0 h1 =>
  aBin false false .geq v0 (.p (.int .i64 0)) fun v2 =>
  K v2 h1

def slices_ContainsFunc_graph_Graph_graph_Node_ann : Nat → List Nat := fun _ => []

theorem slices_ContainsFunc_graph_Graph_graph_Node_eq (x0 x1 : AV) (H : List Ob) (r : AV) (Ho : List Ob) : aBody Tryz.prog slices_ContainsFunc_graph_Graph_graph_Node_ann Tryz.f66 H [x0, x1] r Ho = slices_ContainsFunc_graph_Graph_graph_Node x0 x1 H (fun v H' => Gives H.length v H' r Ho) := by kernel_rfl

theorem slices_ContainsFunc_graph_Graph_graph_Node_fn {x0 x1 : AV} {r : AV} {Ho : List Ob} (h : slices_ContainsFunc_graph_Graph_graph_Node x0 x1 [] (fun v H' => Gives 0 v H' r Ho)) : Abs.Fn Tryz.prog slices_ContainsFunc_graph_Graph_graph_Node_i [] [x0, x1] r Ho :=
  fn_intro mixed slices_ContainsFunc_graph_Graph_graph_Node_ann (fn := Tryz.f66) (by kernel_rfl) (by kernel_rfl) (by rw [slices_ContainsFunc_graph_Graph_graph_Node_eq]; exact h)

/- (runnel/graph.Node).ins -/
def graph_Node_ins_L1 (q1s1 q1s2 q1s8 q1s9 y0 : AV) (H : List Ob) (B1 : List AV → List Ob → Prop) (K : AV → List Ob → Prop) : Prop :=
  aBin false false .lss y0 q1s9 fun v5 =>
  aGuard v5
  (aIndexAddr 1 q1s8 y0 fun v6 =>
  aLoad false 1 v6 H fun v7 =>
  aBin false false .lss v7 (.p (.int .i64 0)) fun v8 =>
  aMerge false v8 (fun Q9 =>
  aLenS false q1s1 fun v10 =>
  aBin false false .geq v7 v10 fun v11 =>
  (H = H ∧ Q9 v11)) fun v12 =>
  aMerge false v12 (fun Q13 =>
  aIndexAddr 21 q1s1 v7 fun v14 =>
  aFieldAddr 1 v14 fun v15 =>
  aFieldAddr 0 v15 fun v16 =>
  aLoad false 1 v16 H fun v17 =>
  aBin false false .eql v17 (.p (.int .i64 9)) fun v18 =>
  (H = H ∧ Q13 v18)) fun v19 =>
  aMerge false v19 (fun Q20 =>
  aFieldAddr 16 q1s2 fun v21 =>
  aLoad false 1 v21 H fun v22 =>
  aSlice false 1 v22 none (some y0) none fun v23 =>
  aCall Tryz.prog (.p (.func slices_Contains_int_int_i [])) [v23, v7] H fun v24 h25 =>
  (h25 = H ∧ Q20 v24)) fun v26 =>
  aGuard v26
  (K (.p (.bool false)) H)
  (aBin false false .add y0 (.p (.int .i64 1)) fun v27 =>
  B1 [v27] H))
  (K (.p (.bool true)) H)

def graph_Node_ins (x0 x1 : AV) (H : List Ob) (K : AV → List Ob → Prop) : Prop :=
  aBox x0 H fun v0 h1 =>
  aFieldAddr 16 v0 fun v2 =>
  aLoad false 1 v2 h1 fun v3 =>
  aLen false false v3 fun v4 =>
  aLoopN 1 [(.p (.int .i64 0))] h1 fun xs H B1 => graph_Node_ins_L1 x1 v0 v3 v4 (xs.getD 0 .top) H B1 K

def graph_Node_ins_ann : Nat → List Nat := fun k => match k with | 2 => [10] | _ => []

theorem graph_Node_ins_eq (x0 x1 : AV) (H : List Ob) (r : AV) (Ho : List Ob) : aBody Tryz.prog graph_Node_ins_ann Tryz.f67 H [x0, x1] r Ho = graph_Node_ins x0 x1 H (fun v H' => Gives H.length v H' r Ho) := by kernel_rfl

theorem graph_Node_ins_fn {x0 x1 : AV} {r : AV} {Ho : List Ob} (h : graph_Node_ins x0 x1 [] (fun v H' => Gives 0 v H' r Ho)) : Abs.Fn Tryz.prog graph_Node_ins_i [] [x0, x1] r Ho :=
  fn_intro mixed graph_Node_ins_ann (fn := Tryz.f67) (by kernel_rfl) (by kernel_rfl) (by rw [graph_Node_ins_eq]; exact h)

/- runnel/graph.of -/
def graph_of_L1 (q1s0 q1s8 q1s9 y0 y1 : AV) (H : List Ob) (B1 : List AV → List Ob → Prop) (K : AV → List Ob → Prop) : Prop :=
  aBin false false .lss y1 q1s9 fun v1 =>
  aGuard v1
  (aIndexAddr 1 q1s8 y1 fun v2 =>
  aLoad false 1 v2 H fun v3 =>
  aIndexAddr 2 q1s0 v3 fun v4 =>
  aLoad true 2 v4 H fun v5 =>
  aBuildSlice 2 [v5] fun v6 =>
  aAppend false 2 32 y0 v6 H fun v7 h8 =>
  aBin false false .add y1 (.p (.int .i64 1)) fun v9 =>
  B1 [v7, v9] h8)
  (K y0 H)

def graph_of (x0 x1 : AV) (H : List Ob) (K : AV → List Ob → Prop) : Prop :=
  aLen false false x1 fun v0 =>
  aLoopN 2 [(.full []), (.p (.int .i64 0))] H fun xs H B1 => graph_of_L1 x0 x1 v0 (xs.getD 0 .top) (xs.getD 1 .top) H B1 K

def graph_of_ann : Nat → List Nat := fun k => match k with | 3 => [5, 10] | _ => []

theorem graph_of_eq (x0 x1 : AV) (H : List Ob) (r : AV) (Ho : List Ob) : aBody Tryz.prog graph_of_ann Tryz.f69 H [x0, x1] r Ho = graph_of x0 x1 H (fun v H' => Gives H.length v H' r Ho) := by kernel_rfl

theorem graph_of_fn {x0 x1 : AV} {r : AV} {Ho : List Ob} (h : graph_of x0 x1 [] (fun v H' => Gives 0 v H' r Ho)) : Abs.Fn Tryz.prog graph_of_i [] [x0, x1] r Ho :=
  fn_intro mixed graph_of_ann (fn := Tryz.f69) (by kernel_rfl) (by kernel_rfl) (by rw [graph_of_eq]; exact h)

/- runnel/graph.weight -/
def graph_weight_L2 (q2s3 q2s5 q2s11 q2s16 q2s17 y0 y1 : AV) (H : List Ob) (B2 : List AV → List Ob → Prop) (B1 : List AV → List Ob → Prop) (K : AV → List Ob → Prop) : Prop :=
  aBin false false .lss y1 q2s17 fun v11 =>
  aGuard v11
  (aIndexAddr 1 q2s16 y1 fun v12 =>
  aLoad false 1 v12 H fun v13 =>
  aIndexAddr 1 q2s3 v13 fun v14 =>
  aLoad false 1 v14 H fun v15 =>
  aBin false false .add y0 v15 fun v16 =>
  aBin false false .add y1 (.p (.int .i64 1)) fun v17 =>
  B2 [v16, v17] H)
  (aFieldAddr 1 q2s5 fun v18 =>
  aFieldAddr 0 v18 fun v19 =>
  aLoad false 1 v19 H fun v20 =>
  aBin false false .eql v20 (.p (.int .i64 1)) fun v21 =>
  aGuard v21
  (aBuildSlice 1 [(.p (.int .i64 1))] fun v22 =>
  aAppend false 1 8 q2s3 v22 H fun v23 h24 =>
  aBin false false .add q2s11 (.p (.int .i64 1)) fun v25 =>
  B1 [v23, v25] h24)
  (aBin false false .eql v20 (.p (.int .i64 4)) fun v26 =>
  aGuard v26
  (aFieldAddr 1 q2s5 fun v27 =>
  aFieldAddr 4 v27 fun v28 =>
  aLoad false 1 v28 H fun v29 =>
  aLen false false v29 fun v30 =>
  aBin false false .mul y0 v30 fun v31 =>
  aBuildSlice 1 [v31] fun v32 =>
  aAppend false 1 8 q2s3 v32 H fun v33 h34 =>
  aBin false false .add q2s11 (.p (.int .i64 1)) fun v35 =>
  B1 [v33, v35] h34)
  (aBuildSlice 1 [y0] fun v36 =>
  aAppend false 1 8 q2s3 v36 H fun v37 h38 =>
  aBin false false .add q2s11 (.p (.int .i64 1)) fun v39 =>
  B1 [v37, v39] h38)))

def graph_weight_L1 (q1s9 q1s10 y0 y1 : AV) (H : List Ob) (B1 : List AV → List Ob → Prop) (K : AV → List Ob → Prop) : Prop :=
  aBin false false .lss y1 q1s10 fun v1 =>
  aGuard v1
  (aIndexAddr 21 q1s9 y1 fun v2 =>
  aLoad true 21 v2 H fun v3 =>
  aAlloc [(.p (.str [])), (.p (.int .i64 0)), (.p (.str [])), (.p (.int .i64 0)), (.full []), (.full []), (.p (.str [])), (.p (.int .i64 0)), (.p (.int .i64 0)), (.p (.bool false)), (.p (.str [])), (.full []), (.p (.int .i64 0)), (.full []), (.p (.int .i64 0)), (.p (.int .i64 0)), (.full []), (.p (.int .i64 0)), (.p (.int .i64 0)), (.p (.str [])), (.p (.bool false))] H fun v4 h5 =>
  aStore 21 v4 v3 h5 fun _ h7 =>
  aFieldAddr 16 v4 fun v8 =>
  aLoad false 1 v8 h7 fun v9 =>
  aLen false false v9 fun v10 =>
  aLoopN 2 [(.p (.int .i64 0)), (.p (.int .i64 0))] h7 fun xs H B2 => graph_weight_L2 y0 v4 y1 v9 v10 (xs.getD 0 .top) (xs.getD 1 .top) H B2 B1 K)
  (aLen false false y0 fun v40 =>
  aBin false false .sub v40 (.p (.int .i64 1)) fun v41 =>
  aIndexAddr 1 y0 v41 fun v42 =>
  aLoad false 1 v42 H fun v43 =>
  K v43 H)

def graph_weight (x0 : AV) (H : List Ob) (K : AV → List Ob → Prop) : Prop :=
  aLen false false x0 fun v0 =>
  aLoopN 2 [(.full []), (.p (.int .i64 0))] H fun xs H B1 => graph_weight_L1 x0 v0 (xs.getD 0 .top) (xs.getD 1 .top) H B1 K

def graph_weight_ann : Nat → List Nat := fun k => match k with | 3 => [3, 11] | 7 => [6, 18] | _ => []

theorem graph_weight_eq (x0 : AV) (H : List Ob) (r : AV) (Ho : List Ob) : aBody Tryz.prog graph_weight_ann Tryz.f70 H [x0] r Ho = graph_weight x0 H (fun v H' => Gives H.length v H' r Ho) := by kernel_rfl

theorem graph_weight_fn {x0 : AV} {r : AV} {Ho : List Ob} (h : graph_weight x0 [] (fun v H' => Gives 0 v H' r Ho)) : Abs.Fn Tryz.prog graph_weight_i [] [x0] r Ho :=
  fn_intro mixed graph_weight_ann (fn := Tryz.f70) (by kernel_rfl) (by kernel_rfl) (by rw [graph_weight_eq]; exact h)

/- slices.Clone[runnel/graph.Graph,runnel/graph.Node] -/
def slices_Clone_graph_Graph_graph_Node (x0 : AV) (H : List Ob) (K : AV → List Ob → Prop) : Prop :=
  aNil true .eql x0 fun v0 =>
  aGuard v0
  (K (.full []) H)
  (aBuildSlice 21 [] fun v1 =>
  aAppend false 21 288 v1 x0 H fun v2 h3 =>
  K v2 h3)

def slices_Clone_graph_Graph_graph_Node_ann : Nat → List Nat := fun _ => []

theorem slices_Clone_graph_Graph_graph_Node_eq (x0 : AV) (H : List Ob) (r : AV) (Ho : List Ob) : aBody Tryz.prog slices_Clone_graph_Graph_graph_Node_ann Tryz.f71 H [x0] r Ho = slices_Clone_graph_Graph_graph_Node x0 H (fun v H' => Gives H.length v H' r Ho) := by kernel_rfl

theorem slices_Clone_graph_Graph_graph_Node_fn {x0 : AV} {r : AV} {Ho : List Ob} (h : slices_Clone_graph_Graph_graph_Node x0 [] (fun v H' => Gives 0 v H' r Ho)) : Abs.Fn Tryz.prog slices_Clone_graph_Graph_graph_Node_i [] [x0] r Ho :=
  fn_intro mixed slices_Clone_graph_Graph_graph_Node_ann (fn := Tryz.f71) (by kernel_rfl) (by kernel_rfl) (by rw [slices_Clone_graph_Graph_graph_Node_eq]; exact h)

/- slices.IndexFunc[runnel/graph.Graph,runnel/graph.Node] -/
def slices_IndexFunc_graph_Graph_graph_Node_L1 (q1s0 q1s1 q1s7 y0 : AV) (H : List Ob) (B1 : List AV → List Ob → Prop) (K : AV → List Ob → Prop) : Prop :=
  aBin false false .lss y0 q1s7 fun v1 =>
  aGuard v1
  (aIndexAddr 21 q1s0 y0 fun v2 =>
  aLoad true 21 v2 H fun v3 =>
  aCall Tryz.prog q1s1 [v3] H fun v4 h5 =>
  aGuard v4
  (K y0 h5)
  (aBin false false .add y0 (.p (.int .i64 1)) fun v6 =>
  B1 [v6] h5))
  (K (.p (.int .i64 (-1))) H)

def slices_IndexFunc_graph_Graph_graph_Node (x0 x1 : AV) (H : List Ob) (K : AV → List Ob → Prop) : Prop :=
  aLen false false x0 fun v0 =>
  aLoopN 1 [(.p (.int .i64 0))] H fun xs H B1 => slices_IndexFunc_graph_Graph_graph_Node_L1 x0 x1 v0 (xs.getD 0 .top) H B1 K

def slices_IndexFunc_graph_Graph_graph_Node_ann : Nat → List Nat := fun k => match k with | 2 => [8] | _ => []

theorem slices_IndexFunc_graph_Graph_graph_Node_eq (x0 x1 : AV) (H : List Ob) (r : AV) (Ho : List Ob) : aBody Tryz.prog slices_IndexFunc_graph_Graph_graph_Node_ann Tryz.f98 H [x0, x1] r Ho = slices_IndexFunc_graph_Graph_graph_Node x0 x1 H (fun v H' => Gives H.length v H' r Ho) := by kernel_rfl

theorem slices_IndexFunc_graph_Graph_graph_Node_fn {x0 x1 : AV} {r : AV} {Ho : List Ob} (h : slices_IndexFunc_graph_Graph_graph_Node x0 x1 [] (fun v H' => Gives 0 v H' r Ho)) : Abs.Fn Tryz.prog slices_IndexFunc_graph_Graph_graph_Node_i [] [x0, x1] r Ho :=
  fn_intro mixed slices_IndexFunc_graph_Graph_graph_Node_ann (fn := Tryz.f98) (by kernel_rfl) (by kernel_rfl) (by rw [slices_IndexFunc_graph_Graph_graph_Node_eq]; exact h)

end Go.Proofs.YtijnpcociedigaaGreatDoor
end

section
/- Made by program (Gen.lean): functions of the dump, over trees. -/
set_option maxRecDepth 4000
set_option linter.unusedVariables false
namespace Go.Proofs.YtijnpcociedigaaGreatDoor
open Go Go.Abs

/- runnel/uid.IDs -/
def uid_IDs_L1 (q1s4 q1s10 q1s11 y0 y1 : AV) (H : List Ob) (B1 : List AV → List Ob → Prop) (K : AV → List Ob → Prop) : Prop :=
  aBin false false .lss y1 q1s11 fun v3 =>
  aGuard v3
  (aIndexAddr 21 q1s10 y1 fun v4 =>
  aLoad true 21 v4 H fun v5 =>
  aAlloc [(.p (.str [])), (.p (.int .i64 0)), (.p (.str [])), (.p (.int .i64 0)), (.full []), (.full []), (.p (.str [])), (.p (.int .i64 0)), (.p (.int .i64 0)), (.p (.bool false)), (.p (.str [])), (.full []), (.p (.int .i64 0)), (.full []), (.p (.int .i64 0)), (.p (.int .i64 0)), (.full []), (.p (.int .i64 0)), (.p (.int .i64 0)), (.p (.str [])), (.p (.bool false))] H fun v6 h7 =>
  aStore 21 v6 v5 h7 fun _ h9 =>
  aLoad true 21 v6 h9 fun v10 =>
  aCall Tryz.prog (.p (.func uid_plain_i [])) [v10, y0] h9 fun v11 h12 =>
  aLookup .string false (.p (.int .i64 0)) q1s4 v11 h12 fun v13 h14 =>
  aLookup .string false (.p (.int .i64 0)) q1s4 v11 h14 fun v15 h16 =>
  aBin false false .add v15 (.p (.int .i64 1)) fun v17 =>
  aMapUpdate .string q1s4 v11 v17 h16 fun _ h19 =>
  aBin false false .gtr v13 (.p (.int .i64 0)) fun v20 =>
  aGuard v20
  (aCall Tryz.prog (.p (.func strconv_Itoa_i [])) [v13] h19 fun v21 h22 =>
  aBin false false .add (.p (.str [35])) v21 fun v23 =>
  aBin false false .add v11 v23 fun v24 =>
  aBuildSlice 1 [v24] fun v25 =>
  aAppend false 1 16 y0 v25 h22 fun v26 h27 =>
  aBin false false .add y1 (.p (.int .i64 1)) fun v28 =>
  B1 [v26, v28] h27)
  (aBuildSlice 1 [v11] fun v29 =>
  aAppend false 1 16 y0 v29 h19 fun v30 h31 =>
  aBin false false .add y1 (.p (.int .i64 1)) fun v32 =>
  B1 [v30, v32] h31))
  (K y0 H)

def uid_IDs (x0 : AV) (H : List Ob) (K : AV → List Ob → Prop) : Prop :=
  aMakeMap H fun v0 h1 =>
  aLen false false x0 fun v2 =>
  aLoopN 2 [(.full []), (.p (.int .i64 0))] h1 fun xs H B1 => uid_IDs_L1 v0 x0 v2 (xs.getD 0 .top) (xs.getD 1 .top) H B1 K

def uid_IDs_ann : Nat → List Nat := fun k => match k with | 4 => [3, 12] | _ => []

theorem uid_IDs_eq (x0 : AV) (H : List Ob) (r : AV) (Ho : List Ob) : aBody Tryz.prog uid_IDs_ann Tryz.f10 H [x0] r Ho = uid_IDs x0 H (fun v H' => Gives H.length v H' r Ho) := by kernel_rfl

theorem uid_IDs_fn {x0 : AV} {r : AV} {Ho : List Ob} (h : uid_IDs x0 [] (fun v H' => Gives 0 v H' r Ho)) : Abs.Fn Tryz.prog uid_IDs_i [] [x0] r Ho :=
  fn_intro mixed uid_IDs_ann (fn := Tryz.f10) (by kernel_rfl) (by kernel_rfl) (by rw [uid_IDs_eq]; exact h)

/- runnel/uid.Find -/
def uid_Find (x0 x1 : AV) (H : List Ob) (K : AV → List Ob → Prop) : Prop :=
  aCall Tryz.prog (.p (.func uid_IDs_i [])) [x0] H fun v0 h1 =>
  aCall Tryz.prog (.p (.func uid_find_string_i [])) [v0, x1] h1 fun v2 h3 =>
  K v2 h3

def uid_Find_ann : Nat → List Nat := fun _ => []

theorem uid_Find_eq (x0 x1 : AV) (H : List Ob) (r : AV) (Ho : List Ob) : aBody Tryz.prog uid_Find_ann Tryz.f12 H [x0, x1] r Ho = uid_Find x0 x1 H (fun v H' => Gives H.length v H' r Ho) := by kernel_rfl

theorem uid_Find_fn {x0 x1 : AV} {r : AV} {Ho : List Ob} (h : uid_Find x0 x1 [] (fun v H' => Gives 0 v H' r Ho)) : Abs.Fn Tryz.prog uid_Find_i [] [x0, x1] r Ho :=
  fn_intro mixed uid_Find_ann (fn := Tryz.f12) (by kernel_rfl) (by kernel_rfl) (by rw [uid_Find_eq]; exact h)

/- runnel/uid.Schema -/
def uid_Schema (x0 x1 : AV) (H : List Ob) (K : AV → List Ob → Prop) : Prop :=
  aCall Tryz.prog (.p (.func graph_Types_i [])) [x0] H fun v0 h1 =>
  aAlloc [(.full [])] h1 fun v2 h3 =>
  aStore 1 v2 v0 h3 fun _ h5 =>
  aBin false false .lss x1 (.p (.int .i64 0)) fun v6 =>
  aMerge false v6 (fun Q7 =>
  aLoad false 1 v2 h5 fun v8 =>
  aLenS false v8 fun v9 =>
  aBin false false .geq x1 v9 fun v10 =>
  (h5 = h5 ∧ Q7 v10)) fun v11 =>
  aGuard v11
  (K (.p (.str [])) h5)
  (aIndexAddr 21 x0 x1 fun v12 =>
  aLoad true 21 v12 h5 fun v13 =>
  aAlloc [(.p (.str [])), (.p (.int .i64 0)), (.p (.str [])), (.p (.int .i64 0)), (.full []), (.full []), (.p (.str [])), (.p (.int .i64 0)), (.p (.int .i64 0)), (.p (.bool false)), (.p (.str [])), (.full []), (.p (.int .i64 0)), (.full []), (.p (.int .i64 0)), (.p (.int .i64 0)), (.full []), (.p (.int .i64 0)), (.p (.int .i64 0)), (.p (.str [])), (.p (.bool false))] h5 fun v14 h15 =>
  aStore 21 v14 v13 h15 fun _ h17 =>
  aMakeFunc uid_Schema_1_i [v14, v2] h17 fun v18 h19 =>
  aFieldAddr 1 v14 fun v20 =>
  aFieldAddr 0 v20 fun v21 =>
  aLoad false 1 v21 h19 fun v22 =>
  aBin false false .eql v22 (.p (.int .i64 1)) fun v23 =>
  aGuard v23
  (aFieldAddr 1 v14 fun v24 =>
  aFieldAddr 2 v24 fun v25 =>
  aLoad true 2 v25 h19 fun v26 =>
  aCall Tryz.prog (.p (.func typ_Text_i [])) [v26] h19 fun v27 h28 =>
  aBuildSlice 1 [(.p (.str [115, 111, 117, 114, 99, 101])), v27] fun v29 =>
  aFieldAddr 18 v14 fun v30 =>
  aLoad false 1 v30 h28 fun v31 =>
  aCall Tryz.prog (.p (.func strconv_Itoa_i [])) [v31] h28 fun v32 h33 =>
  aBuildSlice 1 [v32] fun v34 =>
  aAppend false 1 16 v29 v34 h33 fun v35 h36 =>
  aCall Tryz.prog (.p (.func strings_Join_i [])) [v35, (.p (.str [32]))] h36 fun v37 h38 =>
  K v37 h38)
  (aBin false false .eql v22 (.p (.int .i64 5)) fun v39 =>
  aGuard v39
  (aFieldAddr 1 v14 fun v40 =>
  aFieldAddr 13 v40 fun v41 =>
  aLoad false 1 v41 h19 fun v42 =>
  aCall Tryz.prog (.p (.func strconv_Itoa_i [])) [v42] h19 fun v43 h44 =>
  aCall Tryz.prog v18 [] h44 fun v45 h46 =>
  aBuildSlice 1 [(.p (.str [114, 101, 100, 117, 99, 101])), v43, v45] fun v47 =>
  aFieldAddr 18 v14 fun v48 =>
  aLoad false 1 v48 h46 fun v49 =>
  aCall Tryz.prog (.p (.func strconv_Itoa_i [])) [v49] h46 fun v50 h51 =>
  aBuildSlice 1 [v50] fun v52 =>
  aAppend false 1 16 v47 v52 h51 fun v53 h54 =>
  aCall Tryz.prog (.p (.func strings_Join_i [])) [v53, (.p (.str [32]))] h54 fun v55 h56 =>
  K v55 h56)
  (aBin false false .eql v22 (.p (.int .i64 6)) fun v57 =>
  aGuard v57
  (aFieldAddr 1 v14 fun v58 =>
  aFieldAddr 14 v58 fun v59 =>
  aLoad false 1 v59 h19 fun v60 =>
  aCall Tryz.prog (.p (.func strconv_Itoa_i [])) [v60] h19 fun v61 h62 =>
  aCall Tryz.prog v18 [] h62 fun v63 h64 =>
  aBuildSlice 1 [(.p (.str [116, 97, 108, 108, 121])), v61, v63] fun v65 =>
  aFieldAddr 18 v14 fun v66 =>
  aLoad false 1 v66 h64 fun v67 =>
  aCall Tryz.prog (.p (.func strconv_Itoa_i [])) [v67] h64 fun v68 h69 =>
  aBuildSlice 1 [v68] fun v70 =>
  aAppend false 1 16 v65 v70 h69 fun v71 h72 =>
  aCall Tryz.prog (.p (.func strings_Join_i [])) [v71, (.p (.str [32]))] h72 fun v73 h74 =>
  K v73 h74)
  (aBin false false .eql v22 (.p (.int .i64 7)) fun v75 =>
  aGuard v75
  (aCall Tryz.prog v18 [] h19 fun v76 h77 =>
  aBuildSlice 1 [(.p (.str [100, 105, 115, 116, 105, 110, 99, 116])), v76] fun v78 =>
  aFieldAddr 18 v14 fun v79 =>
  aLoad false 1 v79 h77 fun v80 =>
  aCall Tryz.prog (.p (.func strconv_Itoa_i [])) [v80] h77 fun v81 h82 =>
  aBuildSlice 1 [v81] fun v83 =>
  aAppend false 1 16 v78 v83 h82 fun v84 h85 =>
  aCall Tryz.prog (.p (.func strings_Join_i [])) [v84, (.p (.str [32]))] h85 fun v86 h87 =>
  K v86 h87)
  (K (.p (.str [])) h19)))))

def uid_Schema_ann : Nat → List Nat := fun _ => []

theorem uid_Schema_eq (x0 x1 : AV) (H : List Ob) (r : AV) (Ho : List Ob) : aBody Tryz.prog uid_Schema_ann Tryz.f13 H [x0, x1] r Ho = uid_Schema x0 x1 H (fun v H' => Gives H.length v H' r Ho) := by kernel_rfl

theorem uid_Schema_fn {x0 x1 : AV} {r : AV} {Ho : List Ob} (h : uid_Schema x0 x1 [] (fun v H' => Gives 0 v H' r Ho)) : Abs.Fn Tryz.prog uid_Schema_i [] [x0, x1] r Ho :=
  fn_intro mixed uid_Schema_ann (fn := Tryz.f13) (by kernel_rfl) (by kernel_rfl) (by rw [uid_Schema_eq]; exact h)

/- runnel/uid.plain -/
def uid_plain_L1 (q1s1 q1s2 q1s15 q1s16 y0 y1 : AV) (H : List Ob) (B1 : List AV → List Ob → Prop) (K : AV → List Ob → Prop) : Prop :=
  aBin false false .lss y1 q1s16 fun v11 =>
  aGuard v11
  (aIndexAddr 1 q1s15 y1 fun v12 =>
  aLoad false 1 v12 H fun v13 =>
  aIndexAddr 1 q1s1 v13 fun v14 =>
  aLoad false 1 v14 H fun v15 =>
  aBuildSlice 1 [v15] fun v16 =>
  aAppend false 1 16 y0 v16 H fun v17 h18 =>
  aBin false false .add y1 (.p (.int .i64 1)) fun v19 =>
  B1 [v17, v19] h18)
  (aFieldAddr 1 q1s2 fun v20 =>
  aFieldAddr 0 v20 fun v21 =>
  aLoad false 1 v21 H fun v22 =>
  aCallT Tryz.prog (.p (.func strconv_Itoa_i [])) [v22] fun v23 =>
  aBin false false .add (.p (.str [97, 58])) v23 fun v24 =>
  aBin false false .add v24 (.p (.str [58])) fun v25 =>
  aFieldAddr 1 q1s2 fun v26 =>
  aFieldAddr 1 v26 fun v27 =>
  aLoad false 1 v27 H fun v28 =>
  aBin false false .add v25 v28 fun v29 =>
  aBin false false .add v29 (.p (.str [40])) fun v30 =>
  aCallT Tryz.prog (.p (.func strings_Join_i [])) [y0, (.p (.str [44]))] fun v31 =>
  aBin false false .add v30 v31 fun v32 =>
  aBin false false .add v32 (.p (.str [41])) fun v33 =>
  K v33 H)

def uid_plain (x0 x1 : AV) (H : List Ob) (K : AV → List Ob → Prop) : Prop :=
  aBox x0 H fun v0 h1 =>
  aFieldAddr 0 v0 fun v2 =>
  aLoad false 1 v2 h1 fun v3 =>
  aBin false false .neq v3 (.p (.str [])) fun v4 =>
  aGuard v4
  (aFieldAddr 0 v0 fun v5 =>
  aLoad false 1 v5 h1 fun v6 =>
  aBin false false .add (.p (.str [117, 58])) v6 fun v7 =>
  K v7 h1)
  (aFieldAddr 16 v0 fun v8 =>
  aLoad false 1 v8 h1 fun v9 =>
  aLen false false v9 fun v10 =>
  aLoopN 2 [(.full []), (.p (.int .i64 0))] h1 fun xs H B1 => uid_plain_L1 x1 v0 v9 v10 (xs.getD 0 .top) (xs.getD 1 .top) H B1 K)

def uid_plain_ann : Nat → List Nat := fun k => match k with | 5 => [5, 17] | _ => []

theorem uid_plain_eq (x0 x1 : AV) (H : List Ob) (r : AV) (Ho : List Ob) : aBody Tryz.prog uid_plain_ann Tryz.f25 H [x0, x1] r Ho = uid_plain x0 x1 H (fun v H' => Gives H.length v H' r Ho) := by kernel_rfl

theorem uid_plain_fn {x0 x1 : AV} {r : AV} {Ho : List Ob} (h : uid_plain x0 x1 [] (fun v H' => Gives 0 v H' r Ho)) : Abs.Fn Tryz.prog uid_plain_i [] [x0, x1] r Ho :=
  fn_intro mixed uid_plain_ann (fn := Tryz.f25) (by kernel_rfl) (by kernel_rfl) (by rw [uid_plain_eq]; exact h)

/- runnel/uid.find[string] -/
def uid_find_string_L1 (q1s1 q1s7 q1s8 y0 : AV) (H : List Ob) (B1 : List AV → List Ob → Prop) (K : AV → List Ob → Prop) : Prop :=
  aBin false false .lss y0 q1s8 fun v1 =>
  aGuard v1
  (aIndexAddr 1 q1s7 y0 fun v2 =>
  aLoad false 1 v2 H fun v3 =>
  aBin false false .eql v3 q1s1 fun v4 =>
  aGuard v4
  (K y0 H)
  (aBin false false .add y0 (.p (.int .i64 1)) fun v5 =>
  B1 [v5] H))
  (K (.p (.int .i64 (-1))) H)

def uid_find_string (x0 x1 : AV) (H : List Ob) (K : AV → List Ob → Prop) : Prop :=
  aLen false false x0 fun v0 =>
  aLoopN 1 [(.p (.int .i64 0))] H fun xs H B1 => uid_find_string_L1 x1 x0 v0 (xs.getD 0 .top) H B1 K

def uid_find_string_ann : Nat → List Nat := fun k => match k with | 2 => [9] | _ => []

theorem uid_find_string_eq (x0 x1 : AV) (H : List Ob) (r : AV) (Ho : List Ob) : aBody Tryz.prog uid_find_string_ann Tryz.f29 H [x0, x1] r Ho = uid_find_string x0 x1 H (fun v H' => Gives H.length v H' r Ho) := by kernel_rfl

theorem uid_find_string_fn {x0 x1 : AV} {r : AV} {Ho : List Ob} (h : uid_find_string x0 x1 [] (fun v H' => Gives 0 v H' r Ho)) : Abs.Fn Tryz.prog uid_find_string_i [] [x0, x1] r Ho :=
  fn_intro mixed uid_find_string_ann (fn := Tryz.f29) (by kernel_rfl) (by kernel_rfl) (by rw [uid_find_string_eq]; exact h)

/- runnel/uid.Schema$1 -/
def uid_Schema_1 (x0 x1 : AV) (H : List Ob) (K : AV → List Ob → Prop) : Prop :=
  aAlloc [(.p (.int .i64 0)), (.full [])] H fun v0 h1 =>
  aFieldAddr 1 x0 fun v2 =>
  aFieldAddr 5 v2 fun v3 =>
  aLoad true 8 v3 h1 fun v4 =>
  aLoad false 1 x1 h1 fun v5 =>
  aFieldAddr 16 x0 fun v6 =>
  aLoad false 1 v6 h1 fun v7 =>
  aIndexAddr 1 v7 (.p (.int .i64 0)) fun v8 =>
  aLoad false 1 v8 h1 fun v9 =>
  aIndexAddr 2 v5 v9 fun v10 =>
  aLoad true 2 v10 h1 fun v11 =>
  aCallT Tryz.prog (.p (.func expr_Check_i [])) [v4, v11] fun v12 =>
  aExtract v12 0 fun v13 =>
  aExtract v12 1 fun _ =>
  aStore 2 v0 v13 h1 fun _ h16 =>
  aLoad true 2 v0 h16 fun v17 =>
  aCall Tryz.prog (.p (.func typ_Text_i [])) [v17] h16 fun v18 h19 =>
  K v18 h19

def uid_Schema_1_ann : Nat → List Nat := fun _ => []

theorem uid_Schema_1_eq (x0 x1 : AV) (H : List Ob) (r : AV) (Ho : List Ob) : aBody Tryz.prog uid_Schema_1_ann Tryz.f31 H [x0, x1] r Ho = uid_Schema_1 x0 x1 H (fun v H' => Gives H.length v H' r Ho) := by kernel_rfl

theorem uid_Schema_1_fn {x0 x1 : AV} {r : AV} {Ho : List Ob} (h : uid_Schema_1 x0 x1 [] (fun v H' => Gives 0 v H' r Ho)) : Abs.Fn Tryz.prog uid_Schema_1_i [] [x0, x1] r Ho :=
  fn_intro mixed uid_Schema_1_ann (fn := Tryz.f31) (by kernel_rfl) (by kernel_rfl) (by rw [uid_Schema_1_eq]; exact h)

end Go.Proofs.YtijnpcociedigaaGreatDoor
end
