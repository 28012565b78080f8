/- Made by program (Gen.lean): the functions' numbers. -/
import Derived.Test.YtdmgbhamigegfaaGreatDoorProg
import Derived.KernelRfl
import Derived.Test.YtdmgbhamigegfaaGreatDoorA3

section
/- Made by program (Gen.lean): the functions' numbers. -/
namespace Go.Proofs.YtdmgbhamigegfaaGreatDoor
open Go Go.Abs
theorem mixed:Tryz.prog.follows .mixedOrders = true:=by kernel_rfl
abbrev runnellaw10_DenoTwo_i:Nat:=6
abbrev runnellaw10_known_i:Nat:=9
abbrev runnellaw4_Op_i:Nat:=10
abbrev runnellaw4_Lit_i:Nat:=11
abbrev val_Int_i:Nat:=12
abbrev runnellaw4_X_i:Nat:=13
abbrev deno_Whole_i:Nat:=14
abbrev runnelref10_SameOutput_i:Nat:=18
abbrev runnelref10_Sorted_i:Nat:=20
abbrev runnellaw2_OfAll_i:Nat:=21
abbrev deno_Check_i:Nat:=27
abbrev deno_Split_i:Nat:=29
abbrev runnellaw2_Good_i:Nat:=30
abbrev runnelref6_V_i:Nat:=31
abbrev deno_Same_i:Nat:=32
abbrev runnellaw10_ToOutput_i:Nat:=33
abbrev deno_Within_i:Nat:=34
abbrev runnelref10_Within_i:Nat:=35
abbrev runnellaw8_Small_i:Nat:=36
abbrev deno_Front_i:Nat:=37
abbrev slices_Repeat_int_int_i:Nat:=38
abbrev runnelref10_sameRows_i:Nat:=40
abbrev runnelref6_Same_i:Nat:=41
abbrev runnellaw2_Of_i:Nat:=42
abbrev runnelref6_Compare_i:Nat:=43
abbrev runnellaw2_Few_i:Nat:=45
abbrev graph_Check_i:Nat:=48
abbrev graph_Named_i:Nat:=49
abbrev slices_ContainsFunc_val_Value_val_Value_i:Nat:=50
abbrev deno_Check_1_i:Nat:=51
abbrev val_Is_i:Nat:=52
abbrev runnelref6_CheckValue_i:Nat:=53
abbrev slices_EqualRows_val_Value_val_Value_val_Value_val_Value_i:Nat:=54
abbrev deno_Same_1_i:Nat:=55
abbrev slices_EqualFunc_val_Value_val_Value_val_Value_val_Value_i:Nat:=56
abbrev val_Same_i:Nat:=57
abbrev slices_EqualFunc_deno_Bad_deno_Bad_deno_Bad_deno_Bad_i:Nat:=58
abbrev deno_Same_2_i:Nat:=59
abbrev deno_compare_i:Nat:=60
abbrev runnellaw2_ToAll_i:Nat:=61
abbrev runnellaw2_To_i:Nat:=62
abbrev deno_within_val_Value_i:Nat:=63
abbrev val_Compare_i:Nat:=64
abbrev deno_within_deno_Bad_i:Nat:=65
abbrev runnelref10_within_i:Nat:=66
abbrev runnelref10_bads_i:Nat:=67
abbrev slices_Index_int_int_i:Nat:=68
abbrev deno_came_i:Nat:=69
abbrev op_Keyed_i:Nat:=70
abbrev deno_front_keyed_i:Nat:=71
abbrev deno_front_apply_i:Nat:=72
abbrev deno_Sorted_i:Nat:=73
abbrev math_bits_Mul_i:Nat:=74
abbrev runnelref6_less_i:Nat:=78
abbrev runnellaw2_budget_i:Nat:=81
abbrev graph_Node_check_i:Nat:=86
abbrev graph_Outs_i:Nat:=87
abbrev graph_which_graph_Node_i:Nat:=88
abbrev graph_Named_1_i:Nat:=89
abbrev slices_IndexFunc_val_Value_val_Value_i:Nat:=90
abbrev val_Check_i:Nat:=91
abbrev typ_Same_i:Nat:=92
abbrev val_kind_i:Nat:=93
abbrev runnelref6_checkValue_i:Nat:=94
abbrev cmp_Or_int_i:Nat:=95
abbrev cmp_Compare_int_i:Nat:=96
abbrev slices_SortedFunc_val_Value_i:Nat:=97
abbrev slices_Values_val_Value_val_Value_i:Nat:=98
abbrev cmp_Compare_int64_i:Nat:=99
abbrev val_truth_i:Nat:=100
abbrev strings_Compare_i:Nat:=101
abbrev val_rows_val_Value_i:Nat:=102
abbrev slices_SortedFunc_deno_Bad_i:Nat:=103
abbrev slices_Values_deno_Bad_deno_Bad_i:Nat:=104
abbrev runnelref10_times_i:Nat:=105
abbrev op_of_op_shape_i:Nat:=106
abbrev op_shapes_i:Nat:=107
abbrev eval_Eval_i:Nat:=110
abbrev val_Tup_i:Nat:=113
abbrev op_Apply_i:Nat:=114
abbrev slices_Clip_val_Value_val_Value_i:Nat:=115
abbrev slices_Clip_deno_Bad_deno_Bad_i:Nat:=116
abbrev math_bits_Mul64_i:Nat:=118
abbrev graph_Node_check_1_i:Nat:=124
abbrev graph_Node_check_2_i:Nat:=125
abbrev op_Name_i:Nat:=126
abbrev slices_ContainsFunc_graph_Graph_graph_Node_i:Nat:=127
abbrev graph_Node_ins_i:Nat:=128
abbrev op_Out_i:Nat:=129
abbrev graph_of_i:Nat:=130
abbrev graph_weight_i:Nat:=131
abbrev slices_Clone_graph_Graph_graph_Node_i:Nat:=132
abbrev graph_Outs_1_i:Nat:=133
abbrev slices_Contains_int_int_i:Nat:=134
abbrev slices_Clip_int_int_i:Nat:=135
abbrev val_check_i:Nat:=136
abbrev slices_EqualFunc_typ_Type_typ_Type_typ_Type_typ_Type_i:Nat:=137
abbrev cmp_isNaN_int_i:Nat:=138
abbrev slices_Collect_val_Value_i:Nat:=139
abbrev slices_SortFunc_val_Value_val_Value_i:Nat:=140
abbrev slices_Values_val_Value_val_Value_1_i:Nat:=141
abbrev cmp_isNaN_int64_i:Nat:=142
abbrev internal_bytealg_CompareString_i:Nat:=143
abbrev slices_CompareFunc_val_Value_val_Value_val_Value_val_Value_i:Nat:=144
abbrev slices_Collect_deno_Bad_i:Nat:=145
abbrev slices_SortFunc_deno_Bad_deno_Bad_i:Nat:=146
abbrev slices_Values_deno_Bad_deno_Bad_1_i:Nat:=147
abbrev eval_choose_i:Nat:=148
abbrev eval_all_i:Nat:=149
abbrev eval_One_i:Nat:=150
abbrev eval_Both_i:Nat:=151
abbrev slices_Clone_val_Value_val_Value_i:Nat:=153
abbrev slices_IndexFunc_graph_Graph_graph_Node_i:Nat:=160
abbrev op_Op_fields_i:Nat:=161
abbrev op_types_i:Nat:=162
abbrev expr_Check_i:Nat:=163
abbrev op_Op_es_i:Nat:=164
abbrev op_Op_fits_i:Nat:=165
abbrev op_Op_goes_i:Nat:=166
abbrev typ_Check_i:Nat:=167
abbrev val_spare_i:Nat:=168
abbrev typ_Row_i:Nat:=169
abbrev slices_AppendSeq_val_Value_val_Value_i:Nat:=170
abbrev slices_AppendSeq_deno_Bad_deno_Bad_i:Nat:=174
abbrev eval_ones_i:Nat:=176
abbrev eval_table_func_a_val_Value_val_Value_find_i:Nat:=177
abbrev eval_twos_i:Nat:=178
abbrev eval_table_eval_Two_find_i:Nat:=179
abbrev op_nothing_i:Nat:=189
abbrev op_span_in_i:Nat:=190
abbrev expr_Size_i:Nat:=191
abbrev expr_check_i:Nat:=192
abbrev op_alike_i:Nat:=193
abbrev typ_check_i:Nat:=194
abbrev eval_ones_1_i:Nat:=213
abbrev eval_ones_2_i:Nat:=214
abbrev val_Bool_i:Nat:=215
abbrev eval_ones_3_i:Nat:=216
abbrev eval_number_i:Nat:=217
abbrev eval_twos_1_i:Nat:=218
abbrev eval_twos_2_i:Nat:=219
abbrev eval_twos_3_i:Nat:=220
abbrev eval_divided_i:Nat:=221
abbrev eval_twos_4_i:Nat:=222
abbrev eval_twos_5_i:Nat:=223
abbrev eval_twos_6_i:Nat:=224
abbrev eval_twos_7_i:Nat:=225
abbrev eval_cat_i:Nat:=226
abbrev expr_find_string_expr_shape_i:Nat:=235
abbrev expr_shapes_i:Nat:=236
abbrev expr_Expr_fields_i:Nat:=237
abbrev expr_fits_i:Nat:=238
abbrev expr_Expr_comes_i:Nat:=239
abbrev slices_Clip_typ_Type_typ_Type_i:Nat:=240
abbrev typ_each_typ_Type_i:Nat:=241
abbrev typ_check_1_i:Nat:=242
abbrev eval_number_1_i:Nat:=251
abbrev eval_divided_1_i:Nat:=252
abbrev val_Str_i:Nat:=253
abbrev expr_none_i:Nat:=260
abbrev val_TypeOf_i:Nat:=261
end Go.Proofs.YtdmgbhamigegfaaGreatDoor
end

section
/- Made by program (Gen.lean): functions of the dump, over trees. -/
set_option maxRecDepth 4000
set_option linter.unusedVariables false
namespace Go.Proofs.YtdmgbhamigegfaaGreatDoor
open Go Go.Abs
def typ_Same (x0 x1:AV) (H:List Ob) (K:AV→List Ob→Prop):Prop :=
 aBox x0 H fun v0 h1 =>
 aBox x1 h1 fun v2 h3 =>
 aFieldAddr 0 v0 fun v4 =>
 aLoad false 1 v4 h3 fun v5 =>
 aFieldAddr 0 v2 fun v6 =>
 aLoad false 1 v6 h3 fun v7 =>
 aBin false false .eql v5 v7 fun v8 =>
 aMerge true v8 (fun Q9 =>
 aFieldAddr 1 v0 fun v10 =>
 aLoad false 1 v10 h3 fun v11 =>
 aFieldAddr 1 v2 fun v12 =>
 aLoad false 1 v12 h3 fun v13 =>
 aCall Tryz.prog (.p (.func slices_EqualFunc_typ_Type_typ_Type_typ_Type_typ_Type_i [])) [v11,v13,(.p (.func typ_Same_i []))] h3 fun v14 h15 =>
 (h15 = h3 ∧ Q9 v14)) fun v16 =>
 K v16 h3
def typ_Same_ann:Nat→List Nat:=fun _=>[]
theorem typ_Same_eq (x0 x1:AV) (H:List Ob) (r:AV) (Ho:List Ob):aBody Tryz.prog typ_Same_ann Tryz.f92 H [x0,x1] r Ho = typ_Same x0 x1 H (fun v H'=>Gives H.length v H' r Ho):=by kernel_rfl
theorem typ_Same_fn {x0 x1:AV} {r:AV} {Ho:List Ob} (h:typ_Same x0 x1 [] (fun v H'=>Gives 0 v H' r Ho)):Abs.Fn Tryz.prog typ_Same_i [] [x0,x1] r Ho :=
 fn_intro mixed typ_Same_ann (fn:=Tryz.f92) (by kernel_rfl) (by kernel_rfl) (by rw [typ_Same_eq]; exact h)
def slices_EqualFunc_typ_Type_typ_Type_typ_Type_typ_Type_L1 (q1s1 q1s2 q1s15 q1s16 y0:AV) (H:List Ob) (B1:List AV→List Ob→Prop) (K:AV→List Ob→Prop):Prop :=
 aBin false false .lss y0 q1s16 fun v4 =>
 aGuard v4
 (aIndexAddr 2 q1s15 y0 fun v5 =>
 aLoad true 2 v5 H fun v6 =>
 aAlloc [(.p (.int .i64 0)),(.full [])] H fun v7 h8 =>
 aStore 2 v7 v6 h8 fun _ h10 =>
 aIndexAddr 2 q1s1 y0 fun v11 =>
 aLoad true 2 v11 h10 fun v12 =>
 aAlloc [(.p (.int .i64 0)),(.full [])] h10 fun v13 h14 =>
 aStore 2 v13 v12 h14 fun _ h16 =>
 aLoad true 2 v7 h16 fun v17 =>
 aLoad true 2 v13 h16 fun v18 =>
 aCall Tryz.prog q1s2 [v17,v18] h16 fun v19 h20 =>
 aUn .not v19 fun v21 =>
 aGuard v21
 (K (.p (.bool false)) h20)
 (aBin false false .add y0 (.p (.int .i64 1)) fun v22 =>
 B1 [v22] h20))
 (K (.p (.bool true)) H)
def slices_EqualFunc_typ_Type_typ_Type_typ_Type_typ_Type (x0 x1 x2:AV) (H:List Ob) (K:AV→List Ob→Prop):Prop :=
 aLen false false x0 fun v0 =>
 aLen false false x1 fun v1 =>
 aBin false false .neq v0 v1 fun v2 =>
 aGuard v2
 (K (.p (.bool false)) H)
 (aLen false false x0 fun v3 =>
 aLoopN 1 [(.p (.int .i64 0))] H fun xs H B1=>slices_EqualFunc_typ_Type_typ_Type_typ_Type_typ_Type_L1 x1 x2 x0 v3 (xs.getD 0 .top) H B1 K)
def slices_EqualFunc_typ_Type_typ_Type_typ_Type_typ_Type_ann:Nat→List Nat:=fun k=>match k with | 4=>[17] | _=>[]
theorem slices_EqualFunc_typ_Type_typ_Type_typ_Type_typ_Type_eq (x0 x1 x2:AV) (H:List Ob) (r:AV) (Ho:List Ob):aBody Tryz.prog slices_EqualFunc_typ_Type_typ_Type_typ_Type_typ_Type_ann Tryz.f137 H [x0,x1,x2] r Ho = slices_EqualFunc_typ_Type_typ_Type_typ_Type_typ_Type x0 x1 x2 H (fun v H'=>Gives H.length v H' r Ho):=by kernel_rfl
theorem slices_EqualFunc_typ_Type_typ_Type_typ_Type_typ_Type_fn {x0 x1 x2:AV} {r:AV} {Ho:List Ob} (h:slices_EqualFunc_typ_Type_typ_Type_typ_Type_typ_Type x0 x1 x2 [] (fun v H'=>Gives 0 v H' r Ho)):Abs.Fn Tryz.prog slices_EqualFunc_typ_Type_typ_Type_typ_Type_typ_Type_i [] [x0,x1,x2] r Ho :=
 fn_intro mixed slices_EqualFunc_typ_Type_typ_Type_typ_Type_typ_Type_ann (fn:=Tryz.f137) (by kernel_rfl) (by kernel_rfl) (by rw [slices_EqualFunc_typ_Type_typ_Type_typ_Type_typ_Type_eq]; exact h)
def typ_Check (x0:AV) (H:List Ob) (K:AV→List Ob→Prop):Prop :=
 aBox x0 H fun v0 h1 =>
 aLoad true 2 v0 h1 fun v2 =>
 aCall Tryz.prog (.p (.func typ_check_i [])) [v2,(.p (.int .i64 0))] h1 fun v3 h4 =>
 K v3 h4
def typ_Check_ann:Nat→List Nat:=fun _=>[]
theorem typ_Check_eq (x0:AV) (H:List Ob) (r:AV) (Ho:List Ob):aBody Tryz.prog typ_Check_ann Tryz.f167 H [x0] r Ho = typ_Check x0 H (fun v H'=>Gives H.length v H' r Ho):=by kernel_rfl
theorem typ_Check_fn {x0:AV} {r:AV} {Ho:List Ob} (h:typ_Check x0 [] (fun v H'=>Gives 0 v H' r Ho)):Abs.Fn Tryz.prog typ_Check_i [] [x0] r Ho :=
 fn_intro mixed typ_Check_ann (fn:=Tryz.f167) (by kernel_rfl) (by kernel_rfl) (by rw [typ_Check_eq]; exact h)
def typ_Row (x0 x1:AV) (H:List Ob) (K:AV→List Ob→Prop):Prop :=
 aBin false false .eql x0 (.p (.int .i64 0)) fun v0 =>
 aGuard v0
 (K (.p (.int .i64 1)) H)
 (aBin false false .gtr x0 (.p (.int .i64 8)) fun v1 =>
 aGuard v1
 (K (.p (.int .i64 10)) H)
 (aBin false false .gtr x1 (.p (.int .i64 4)) fun v2 =>
 aGuard v2
 (K (.p (.int .i64 9)) H)
 (K (.p (.int .i64 0)) H)))
def typ_Row_ann:Nat→List Nat:=fun _=>[]
theorem typ_Row_eq (x0 x1:AV) (H:List Ob) (r:AV) (Ho:List Ob):aBody Tryz.prog typ_Row_ann Tryz.f169 H [x0,x1] r Ho = typ_Row x0 x1 H (fun v H'=>Gives H.length v H' r Ho):=by kernel_rfl
theorem typ_Row_fn {x0 x1:AV} {r:AV} {Ho:List Ob} (h:typ_Row x0 x1 [] (fun v H'=>Gives 0 v H' r Ho)):Abs.Fn Tryz.prog typ_Row_i [] [x0,x1] r Ho :=
 fn_intro mixed typ_Row_ann (fn:=Tryz.f169) (by kernel_rfl) (by kernel_rfl) (by rw [typ_Row_eq]; exact h)
def typ_check (x0 x1:AV) (H:List Ob) (K:AV→List Ob→Prop):Prop :=
 aBox x0 H fun v0 h1 =>
 aBox x1 h1 fun v2 h3 =>
 aFieldAddr 0 v0 fun v4 =>
 aLoad false 1 v4 h3 fun v5 =>
 aBin false false .eql v5 (.p (.int .i64 1)) fun v6 =>
 aMerge false v6 (fun Q7 =>
 aBin false false .eql v5 (.p (.int .i64 2)) fun v8 =>
 aMerge false v8 (fun Q9 =>
 aBin false false .eql v5 (.p (.int .i64 3)) fun v10 =>
 (h3 = h3 ∧ Q9 v10)) fun v11 =>
 (h3 = h3 ∧ Q7 v11)) fun v12 =>
 aGuard v12
 (aFieldAddr 1 v0 fun v13 =>
 aLoad false 1 v13 h3 fun v14 =>
 aLen false false v14 fun v15 =>
 aBin false false .gtr v15 (.p (.int .i64 0)) fun v16 =>
 aGuard v16
 (K (.p (.int .i64 5)) h3)
 (K (.p (.int .i64 0)) h3))
 (aBin false false .eql v5 (.p (.int .i64 4)) fun v17 =>
 aGuard v17
 (aFieldAddr 1 v0 fun v18 =>
 aLoad false 1 v18 h3 fun v19 =>
 aLen false false v19 fun v20 =>
 aLoad false 1 v2 h3 fun v21 =>
 aCall Tryz.prog (.p (.func typ_Row_i [])) [v20,v21] h3 fun v22 h23 =>
 aBin false false .neq v22 (.p (.int .i64 0)) fun v24 =>
 aGuard v24
 (K v22 h23)
 (aFieldAddr 1 v0 fun v25 =>
 aLoad false 1 v25 h23 fun v26 =>
 aMakeFunc typ_check_1_i [v2] h23 fun v27 h28 =>
 aCall Tryz.prog (.p (.func typ_each_typ_Type_i [])) [v26,v27] h28 fun v29 h30 =>
 K v29 h30))
 (K (.p (.int .i64 5)) h3))
def typ_check_ann:Nat→List Nat:=fun k=>match k with | 1000004=>[1] | 1000003=>[1] | _=>[]
theorem typ_check_eq (x0 x1:AV) (H:List Ob) (r:AV) (Ho:List Ob):aBody Tryz.prog typ_check_ann Tryz.f194 H [x0,x1] r Ho = typ_check x0 x1 H (fun v H'=>Gives H.length v H' r Ho):=by kernel_rfl
theorem typ_check_fn {x0 x1:AV} {r:AV} {Ho:List Ob} (h:typ_check x0 x1 [] (fun v H'=>Gives 0 v H' r Ho)):Abs.Fn Tryz.prog typ_check_i [] [x0,x1] r Ho :=
 fn_intro mixed typ_check_ann (fn:=Tryz.f194) (by kernel_rfl) (by kernel_rfl) (by rw [typ_check_eq]; exact h)
def slices_Clip_typ_Type_typ_Type (x0:AV) (H:List Ob) (K:AV→List Ob→Prop):Prop :=
 aLen false false x0 fun v0 =>
 aLen false false x0 fun v1 =>
 aSlice false 2 x0 none (some v0) (some v1) fun v2 =>
 K v2 H
def slices_Clip_typ_Type_typ_Type_ann:Nat→List Nat:=fun _=>[]
theorem slices_Clip_typ_Type_typ_Type_eq (x0:AV) (H:List Ob) (r:AV) (Ho:List Ob):aBody Tryz.prog slices_Clip_typ_Type_typ_Type_ann Tryz.f240 H [x0] r Ho = slices_Clip_typ_Type_typ_Type x0 H (fun v H'=>Gives H.length v H' r Ho):=by kernel_rfl
theorem slices_Clip_typ_Type_typ_Type_fn {x0:AV} {r:AV} {Ho:List Ob} (h:slices_Clip_typ_Type_typ_Type x0 [] (fun v H'=>Gives 0 v H' r Ho)):Abs.Fn Tryz.prog slices_Clip_typ_Type_typ_Type_i [] [x0] r Ho :=
 fn_intro mixed slices_Clip_typ_Type_typ_Type_ann (fn:=Tryz.f240) (by kernel_rfl) (by kernel_rfl) (by rw [slices_Clip_typ_Type_typ_Type_eq]; exact h)
def typ_each_typ_Type_L1 (q1s1 q1s8 q1s9 y0:AV) (H:List Ob) (B1:List AV→List Ob→Prop) (K:AV→List Ob→Prop):Prop :=
 aBin false false .lss y0 q1s9 fun v1 =>
 aGuard v1
 (aIndexAddr 2 q1s8 y0 fun v2 =>
 aLoad true 2 v2 H fun v3 =>
 aAlloc [(.p (.int .i64 0)),(.full [])] H fun v4 h5 =>
 aStore 2 v4 v3 h5 fun _ h7 =>
 aLoad true 2 v4 h7 fun v8 =>
 aCall Tryz.prog q1s1 [v8] h7 fun v9 h10 =>
 aBin false false .neq v9 (.p (.int .i64 0)) fun v11 =>
 aGuard v11
 (K v9 h10)
 (aBin false false .add y0 (.p (.int .i64 1)) fun v12 =>
 B1 [v12] h10))
 (K (.p (.int .i64 0)) H)
def typ_each_typ_Type (x0 x1:AV) (H:List Ob) (K:AV→List Ob→Prop):Prop :=
 aLen false false x0 fun v0 =>
 aLoopN 1 [(.p (.int .i64 0))] H fun xs H B1=>typ_each_typ_Type_L1 x1 x0 v0 (xs.getD 0 .top) H B1 K
def typ_each_typ_Type_ann:Nat→List Nat:=fun k=>match k with | 2=>[10] | _=>[]
theorem typ_each_typ_Type_eq (x0 x1:AV) (H:List Ob) (r:AV) (Ho:List Ob):aBody Tryz.prog typ_each_typ_Type_ann Tryz.f241 H [x0,x1] r Ho = typ_each_typ_Type x0 x1 H (fun v H'=>Gives H.length v H' r Ho):=by kernel_rfl
theorem typ_each_typ_Type_fn {x0 x1:AV} {r:AV} {Ho:List Ob} (h:typ_each_typ_Type x0 x1 [] (fun v H'=>Gives 0 v H' r Ho)):Abs.Fn Tryz.prog typ_each_typ_Type_i [] [x0,x1] r Ho :=
 fn_intro mixed typ_each_typ_Type_ann (fn:=Tryz.f241) (by kernel_rfl) (by kernel_rfl) (by rw [typ_each_typ_Type_eq]; exact h)
def typ_check_1 (x0 x1:AV) (H:List Ob) (K:AV→List Ob→Prop):Prop :=
 aBox x0 H fun v0 h1 =>
 aLoad true 2 v0 h1 fun v2 =>
 aLoad false 1 x1 h1 fun v3 =>
 aBin false false .add v3 (.p (.int .i64 1)) fun v4 =>
 aCall Tryz.prog (.p (.func typ_check_i [])) [v2,v4] h1 fun v5 h6 =>
 K v5 h6
def typ_check_1_ann:Nat→List Nat:=fun _=>[]
theorem typ_check_1_eq (x0 x1:AV) (H:List Ob) (r:AV) (Ho:List Ob):aBody Tryz.prog typ_check_1_ann Tryz.f242 H [x0,x1] r Ho = typ_check_1 x0 x1 H (fun v H'=>Gives H.length v H' r Ho):=by kernel_rfl
theorem typ_check_1_fn {x0 x1:AV} {r:AV} {Ho:List Ob} (h:typ_check_1 x0 x1 [] (fun v H'=>Gives 0 v H' r Ho)):Abs.Fn Tryz.prog typ_check_1_i [] [x0,x1] r Ho :=
 fn_intro mixed typ_check_1_ann (fn:=Tryz.f242) (by kernel_rfl) (by kernel_rfl) (by rw [typ_check_1_eq]; exact h)
end Go.Proofs.YtdmgbhamigegfaaGreatDoor
end

section
/- Made by program (Gen.lean): functions of the dump, over trees. -/
set_option maxRecDepth 4000
set_option linter.unusedVariables false
namespace Go.Proofs.YtdmgbhamigegfaaGreatDoor
open Go Go.Abs
def val_Int (x0:AV) (H:List Ob) (K:AV→List Ob→Prop):Prop :=
 aAlloc [(.p (.int .i64 0)),(.p (.int .i64 0)),(.p (.bool false)),(.p (.str [])),(.full [])] H fun v0 h1 =>
 aBuild [(.p (.int .i64 0)),(.p (.int .i64 0)),(.p (.bool false)),(.p (.str [])),(.full [])] [(0,1,(.p (.int .i64 1))),(1,1,x0)] fun v2 =>
 aStore 5 v0 v2 h1 fun _ h4 =>
 aLoad true 5 v0 h4 fun v5 =>
 K v5 h4
def val_Int_ann:Nat→List Nat:=fun _=>[]
theorem val_Int_eq (x0:AV) (H:List Ob) (r:AV) (Ho:List Ob):aBody Tryz.prog val_Int_ann Tryz.f12 H [x0] r Ho = val_Int x0 H (fun v H'=>Gives H.length v H' r Ho):=by kernel_rfl
theorem val_Int_fn {x0:AV} {r:AV} {Ho:List Ob} (h:val_Int x0 [] (fun v H'=>Gives 0 v H' r Ho)):Abs.Fn Tryz.prog val_Int_i [] [x0] r Ho :=
 fn_intro mixed val_Int_ann (fn:=Tryz.f12) (by kernel_rfl) (by kernel_rfl) (by rw [val_Int_eq]; exact h)
def runnellaw2_OfAll_L1 (q1s0 y0 y1:AV) (H:List Ob) (B1:List AV→List Ob→Prop) (K:AV→List Ob→Prop):Prop :=
 aLen false false q1s0 fun v0 =>
 aBin false false .lss y1 v0 fun v1 =>
 aGuard v1
 (aIndexAddr 5 q1s0 y1 fun v2 =>
 aLoad true 5 v2 H fun v3 =>
 aCall Tryz.prog (.p (.func runnellaw2_Of_i [])) [v3] H fun v4 h5 =>
 aBuildSlice 5 [v4] fun v6 =>
 aAppend false 5 64 y0 v6 h5 fun v7 h8 =>
 aBin false false .add y1 (.p (.int .i64 1)) fun v9 =>
 B1 [v7,v9] h8)
 (K y0 H)
def runnellaw2_OfAll (x0:AV) (H:List Ob) (K:AV→List Ob→Prop):Prop :=
 aLoopN 2 [(.full []),(.p (.int .i64 0))] H fun xs H B1=>runnellaw2_OfAll_L1 x0 (xs.getD 0 .top) (xs.getD 1 .top) H B1 K
def runnellaw2_OfAll_ann:Nat→List Nat:=fun k=>match k with | 3=>[3,4] | _=>[]
theorem runnellaw2_OfAll_eq (x0:AV) (H:List Ob) (r:AV) (Ho:List Ob):aBody Tryz.prog runnellaw2_OfAll_ann Tryz.f21 H [x0] r Ho = runnellaw2_OfAll x0 H (fun v H'=>Gives H.length v H' r Ho):=by kernel_rfl
theorem runnellaw2_OfAll_fn {x0:AV} {r:AV} {Ho:List Ob} (h:runnellaw2_OfAll x0 [] (fun v H'=>Gives 0 v H' r Ho)):Abs.Fn Tryz.prog runnellaw2_OfAll_i [] [x0] r Ho :=
 fn_intro mixed runnellaw2_OfAll_ann (fn:=Tryz.f21) (by kernel_rfl) (by kernel_rfl) (by rw [runnellaw2_OfAll_eq]; exact h)
def runnellaw2_Good (x0:AV) (H:List Ob) (K:AV→List Ob→Prop):Prop :=
 aBox x0 H fun v0 h1 =>
 aLoad true 5 v0 h1 fun v2 =>
 aCall Tryz.prog (.p (.func runnellaw2_Few_i [])) [v2] h1 fun v3 h4 =>
 aMerge true v3 (fun Q5 =>
 aLoad true 5 v0 h4 fun v6 =>
 aCall Tryz.prog (.p (.func runnellaw2_Of_i [])) [v6] h4 fun v7 h8 =>
 aCall Tryz.prog (.p (.func runnelref6_CheckValue_i [])) [v7] h8 fun v9 h10 =>
 aBin false false .eql v9 (.p (.int .i64 0)) fun v11 =>
 (h10 = h4 ∧ Q5 v11)) fun v12 =>
 K v12 h4
def runnellaw2_Good_ann:Nat→List Nat:=fun _=>[]
theorem runnellaw2_Good_eq (x0:AV) (H:List Ob) (r:AV) (Ho:List Ob):aBody Tryz.prog runnellaw2_Good_ann Tryz.f30 H [x0] r Ho = runnellaw2_Good x0 H (fun v H'=>Gives H.length v H' r Ho):=by kernel_rfl
theorem runnellaw2_Good_fn {x0:AV} {r:AV} {Ho:List Ob} (h:runnellaw2_Good x0 [] (fun v H'=>Gives 0 v H' r Ho)):Abs.Fn Tryz.prog runnellaw2_Good_i [] [x0] r Ho :=
 fn_intro mixed runnellaw2_Good_ann (fn:=Tryz.f30) (by kernel_rfl) (by kernel_rfl) (by rw [runnellaw2_Good_eq]; exact h)
def runnelref6_Same (x0 x1:AV) (H:List Ob) (K:AV→List Ob→Prop):Prop :=
 aBox x0 H fun v0 h1 =>
 aBox x1 h1 fun v2 h3 =>
 aLoad true 5 v0 h3 fun v4 =>
 aLoad true 5 v2 h3 fun v5 =>
 aCall Tryz.prog (.p (.func runnelref6_Compare_i [])) [v4,v5] h3 fun v6 h7 =>
 aBin false false .eql v6 (.p (.int .i64 0)) fun v8 =>
 K v8 h7
def runnelref6_Same_ann:Nat→List Nat:=fun _=>[]
theorem runnelref6_Same_eq (x0 x1:AV) (H:List Ob) (r:AV) (Ho:List Ob):aBody Tryz.prog runnelref6_Same_ann Tryz.f41 H [x0,x1] r Ho = runnelref6_Same x0 x1 H (fun v H'=>Gives H.length v H' r Ho):=by kernel_rfl
theorem runnelref6_Same_fn {x0 x1:AV} {r:AV} {Ho:List Ob} (h:runnelref6_Same x0 x1 [] (fun v H'=>Gives 0 v H' r Ho)):Abs.Fn Tryz.prog runnelref6_Same_i [] [x0,x1] r Ho :=
 fn_intro mixed runnelref6_Same_ann (fn:=Tryz.f41) (by kernel_rfl) (by kernel_rfl) (by rw [runnelref6_Same_eq]; exact h)
def runnellaw2_Of_L1 (q1s1 q1s2 q1s3 y0:AV) (H:List Ob) (B1:List AV→List Ob→Prop) (K:AV→List Ob→Prop):Prop :=
 aFieldAddr 4 q1s1 fun v17 =>
 aLoad false 1 v17 H fun v18 =>
 aLen false false v18 fun v19 =>
 aBin false false .lss y0 v19 fun v20 =>
 aGuard v20
 (aFieldAddr 4 q1s3 fun v21 =>
 aLoad false 1 v21 H fun v22 =>
 aFieldAddr 4 q1s1 fun v23 =>
 aLoad false 1 v23 H fun v24 =>
 aIndexAddr 5 v24 y0 fun v25 =>
 aLoad true 5 v25 H fun v26 =>
 aCallT Tryz.prog (.p (.func runnellaw2_Of_i [])) [v26] fun v27 =>
 aBuildSlice 5 [v27] fun v28 =>
 aCalm [v22,v28] <|
 aAppend false 5 64 v22 v28 H fun v29 h30 =>
 aFieldAddr 4 q1s3 fun v31 =>
 aStore 1 v31 v29 h30 fun _ h33 =>
 aBin false false .add y0 (.p (.int .i64 1)) fun v34 =>
 B1 [v34] h33)
 (aLoad true 5 q1s3 H fun v35 =>
 aStore 5 q1s2 v35 H fun _ h37 =>
 aLoad true 5 q1s2 h37 fun v38 =>
 K v38 h37)
def runnellaw2_Of (x0:AV) (H:List Ob) (K:AV→List Ob→Prop):Prop :=
 aBox x0 H fun v0 h1 =>
 aAlloc [(.p (.int .i64 0)),(.p (.int .i64 0)),(.p (.bool false)),(.p (.str [])),(.full [])] h1 fun v2 h3 =>
 aFieldAddr 0 v0 fun v4 =>
 aLoad false 1 v4 h3 fun v5 =>
 aFieldAddr 1 v0 fun v6 =>
 aLoad false 1 v6 h3 fun v7 =>
 aFieldAddr 2 v0 fun v8 =>
 aLoad false 1 v8 h3 fun v9 =>
 aFieldAddr 3 v0 fun v10 =>
 aLoad false 1 v10 h3 fun v11 =>
 aBuild [(.p (.int .i64 0)),(.p (.int .i64 0)),(.p (.bool false)),(.p (.str [])),(.full [])] [(0,1,v5),(1,1,v7),(2,1,v9),(3,1,v11)] fun v12 =>
 aAlloc [(.p (.int .i64 0)),(.p (.int .i64 0)),(.p (.bool false)),(.p (.str [])),(.full [])] h3 fun v13 h14 =>
 aStore 5 v13 v12 h14 fun _ h16 =>
 aLoopN 1 [(.p (.int .i64 0))] h16 fun xs H B1=>runnellaw2_Of_L1 v0 v2 v13 (xs.getD 0 .top) H B1 K
def runnellaw2_Of_ann:Nat→List Nat:=fun k=>match k with | 3=>[4] | _=>[]
theorem runnellaw2_Of_eq (x0:AV) (H:List Ob) (r:AV) (Ho:List Ob):aBody Tryz.prog runnellaw2_Of_ann Tryz.f42 H [x0] r Ho = runnellaw2_Of x0 H (fun v H'=>Gives H.length v H' r Ho):=by kernel_rfl
theorem runnellaw2_Of_fn {x0:AV} {r:AV} {Ho:List Ob} (h:runnellaw2_Of x0 [] (fun v H'=>Gives 0 v H' r Ho)):Abs.Fn Tryz.prog runnellaw2_Of_i [] [x0] r Ho :=
 fn_intro mixed runnellaw2_Of_ann (fn:=Tryz.f42) (by kernel_rfl) (by kernel_rfl) (by rw [runnellaw2_Of_eq]; exact h)
def runnelref6_Compare_L1 (q1s2 q1s3 y0:AV) (H:List Ob) (B1:List AV→List Ob→Prop) (K:AV→List Ob→Prop):Prop :=
 aFieldAddr 4 q1s2 fun v49 =>
 aLoad false 1 v49 H fun v50 =>
 aLen false false v50 fun v51 =>
 aBin false false .lss y0 v51 fun v52 =>
 aMerge true v52 (fun Q53 =>
 aFieldAddr 4 q1s3 fun v54 =>
 aLoad false 1 v54 H fun v55 =>
 aLenS false v55 fun v56 =>
 aBin false false .lss y0 v56 fun v57 =>
 (H = H ∧ Q53 v57)) fun v58 =>
 aGuard v58
 (aFieldAddr 4 q1s2 fun v59 =>
 aLoad false 1 v59 H fun v60 =>
 aIndexAddr 5 v60 y0 fun v61 =>
 aLoad true 5 v61 H fun v62 =>
 aFieldAddr 4 q1s3 fun v63 =>
 aLoad false 1 v63 H fun v64 =>
 aIndexAddr 5 v64 y0 fun v65 =>
 aLoad true 5 v65 H fun v66 =>
 aCallT Tryz.prog (.p (.func runnelref6_Compare_i [])) [v62,v66] fun v67 =>
 aBin false false .neq v67 (.p (.int .i64 0)) fun v68 =>
 aGuard v68
 (K v67 H)
 (aBin false false .add y0 (.p (.int .i64 1)) fun v69 =>
 B1 [v69] H))
 (aFieldAddr 4 q1s2 fun v70 =>
 aLoad false 1 v70 H fun v71 =>
 aLen false false v71 fun v72 =>
 aFieldAddr 4 q1s3 fun v73 =>
 aLoad false 1 v73 H fun v74 =>
 aLen false false v74 fun v75 =>
 aBin false false .neq v72 v75 fun v76 =>
 aGuard v76
 (aFieldAddr 4 q1s2 fun v77 =>
 aLoad false 1 v77 H fun v78 =>
 aLen false false v78 fun v79 =>
 aFieldAddr 4 q1s3 fun v80 =>
 aLoad false 1 v80 H fun v81 =>
 aLen false false v81 fun v82 =>
 aBin false false .lss v79 v82 fun v83 =>
 aCall Tryz.prog (.p (.func runnelref6_less_i [])) [v83] H fun v84 h85 =>
 K v84 h85)
 (K (.p (.int .i64 0)) H))
def runnelref6_Compare (x0 x1:AV) (H:List Ob) (K:AV→List Ob→Prop):Prop :=
 aBox x0 H fun v0 h1 =>
 aBox x1 h1 fun v2 h3 =>
 aFieldAddr 0 v0 fun v4 =>
 aLoad false 1 v4 h3 fun v5 =>
 aFieldAddr 0 v2 fun v6 =>
 aLoad false 1 v6 h3 fun v7 =>
 aBin false false .neq v5 v7 fun v8 =>
 aGuard v8
 (aFieldAddr 0 v0 fun v9 =>
 aLoad false 1 v9 h3 fun v10 =>
 aFieldAddr 0 v2 fun v11 =>
 aLoad false 1 v11 h3 fun v12 =>
 aBin false false .lss v10 v12 fun v13 =>
 aCall Tryz.prog (.p (.func runnelref6_less_i [])) [v13] h3 fun v14 h15 =>
 K v14 h15)
 (aFieldAddr 1 v0 fun v16 =>
 aLoad false 1 v16 h3 fun v17 =>
 aFieldAddr 1 v2 fun v18 =>
 aLoad false 1 v18 h3 fun v19 =>
 aBin false false .neq v17 v19 fun v20 =>
 aGuard v20
 (aFieldAddr 1 v0 fun v21 =>
 aLoad false 1 v21 h3 fun v22 =>
 aFieldAddr 1 v2 fun v23 =>
 aLoad false 1 v23 h3 fun v24 =>
 aBin false false .lss v22 v24 fun v25 =>
 aCall Tryz.prog (.p (.func runnelref6_less_i [])) [v25] h3 fun v26 h27 =>
 K v26 h27)
 (aFieldAddr 2 v0 fun v28 =>
 aLoad false 1 v28 h3 fun v29 =>
 aFieldAddr 2 v2 fun v30 =>
 aLoad false 1 v30 h3 fun v31 =>
 aBin true false .neq v29 v31 fun v32 =>
 aGuard v32
 (aFieldAddr 2 v2 fun v33 =>
 aLoad false 1 v33 h3 fun v34 =>
 aCall Tryz.prog (.p (.func runnelref6_less_i [])) [v34] h3 fun v35 h36 =>
 K v35 h36)
 (aFieldAddr 3 v0 fun v37 =>
 aLoad false 1 v37 h3 fun v38 =>
 aFieldAddr 3 v2 fun v39 =>
 aLoad false 1 v39 h3 fun v40 =>
 aBin false false .neq v38 v40 fun v41 =>
 aGuard v41
 (aFieldAddr 3 v0 fun v42 =>
 aLoad false 1 v42 h3 fun v43 =>
 aFieldAddr 3 v2 fun v44 =>
 aLoad false 1 v44 h3 fun v45 =>
 aBin false false .lss v43 v45 fun v46 =>
 aCall Tryz.prog (.p (.func runnelref6_less_i [])) [v46] h3 fun v47 h48 =>
 K v47 h48)
 (aLoopN 1 [(.p (.int .i64 0))] h3 fun xs H B1=>runnelref6_Compare_L1 v0 v2 (xs.getD 0 .top) H B1 K))))
def runnelref6_Compare_ann:Nat→List Nat:=fun k=>match k with | 10=>[5] | _=>[]
theorem runnelref6_Compare_eq (x0 x1:AV) (H:List Ob) (r:AV) (Ho:List Ob):aBody Tryz.prog runnelref6_Compare_ann Tryz.f43 H [x0,x1] r Ho = runnelref6_Compare x0 x1 H (fun v H'=>Gives H.length v H' r Ho):=by kernel_rfl
theorem runnelref6_Compare_fn {x0 x1:AV} {r:AV} {Ho:List Ob} (h:runnelref6_Compare x0 x1 [] (fun v H'=>Gives 0 v H' r Ho)):Abs.Fn Tryz.prog runnelref6_Compare_i [] [x0,x1] r Ho :=
 fn_intro mixed runnelref6_Compare_ann (fn:=Tryz.f43) (by kernel_rfl) (by kernel_rfl) (by rw [runnelref6_Compare_eq]; exact h)
def runnellaw2_Few (x0:AV) (H:List Ob) (K:AV→List Ob→Prop):Prop :=
 aBox x0 H fun v0 h1 =>
 aLoad true 5 v0 h1 fun v2 =>
 aCall Tryz.prog (.p (.func runnellaw2_budget_i [])) [v2,(.p (.int .i64 12)),(.p (.int .i64 300))] h1 fun v3 h4 =>
 aBin false false .gtr v3 (.p (.int .i64 0)) fun v5 =>
 K v5 h4
def runnellaw2_Few_ann:Nat→List Nat:=fun _=>[]
theorem runnellaw2_Few_eq (x0:AV) (H:List Ob) (r:AV) (Ho:List Ob):aBody Tryz.prog runnellaw2_Few_ann Tryz.f45 H [x0] r Ho = runnellaw2_Few x0 H (fun v H'=>Gives H.length v H' r Ho):=by kernel_rfl
theorem runnellaw2_Few_fn {x0:AV} {r:AV} {Ho:List Ob} (h:runnellaw2_Few x0 [] (fun v H'=>Gives 0 v H' r Ho)):Abs.Fn Tryz.prog runnellaw2_Few_i [] [x0] r Ho :=
 fn_intro mixed runnellaw2_Few_ann (fn:=Tryz.f45) (by kernel_rfl) (by kernel_rfl) (by rw [runnellaw2_Few_eq]; exact h)
def val_Is (x0 x1:AV) (H:List Ob) (K:AV→List Ob→Prop):Prop :=
 aBox x0 H fun v0 h1 =>
 aBox x1 h1 fun v2 h3 =>
 aLoad true 5 v0 h3 fun v4 =>
 aCallT Tryz.prog (.p (.func val_Check_i [])) [v4] fun v5 =>
 aBin false false .eql v5 (.p (.int .i64 0)) fun v6 =>
 aGuard v6
 (aLoad true 5 v0 h3 fun v7 =>
 aCallT Tryz.prog (.p (.func val_kind_i [])) [v7] fun v8 =>
 aLoad true 2 v2 h3 fun v9 =>
 aCallT Tryz.prog (.p (.func typ_Same_i [])) [v8,v9] fun v10 =>
 K v10 h3)
 (K (.p (.bool false)) h3)
def val_Is_ann:Nat→List Nat:=fun _=>[]
theorem val_Is_eq (x0 x1:AV) (H:List Ob) (r:AV) (Ho:List Ob):aBody Tryz.prog val_Is_ann Tryz.f52 H [x0,x1] r Ho = val_Is x0 x1 H (fun v H'=>Gives H.length v H' r Ho):=by kernel_rfl
theorem val_Is_fn {x0 x1:AV} {r:AV} {Ho:List Ob} (h:val_Is x0 x1 [] (fun v H'=>Gives 0 v H' r Ho)):Abs.Fn Tryz.prog val_Is_i [] [x0,x1] r Ho :=
 fn_intro mixed val_Is_ann (fn:=Tryz.f52) (by kernel_rfl) (by kernel_rfl) (by rw [val_Is_eq]; exact h)
def runnelref6_CheckValue (x0:AV) (H:List Ob) (K:AV→List Ob→Prop):Prop :=
 aBox x0 H fun v0 h1 =>
 aLoad true 5 v0 h1 fun v2 =>
 aCall Tryz.prog (.p (.func runnelref6_checkValue_i [])) [v2,(.p (.int .i64 0))] h1 fun v3 h4 =>
 K v3 h4
def runnelref6_CheckValue_ann:Nat→List Nat:=fun _=>[]
theorem runnelref6_CheckValue_eq (x0:AV) (H:List Ob) (r:AV) (Ho:List Ob):aBody Tryz.prog runnelref6_CheckValue_ann Tryz.f53 H [x0] r Ho = runnelref6_CheckValue x0 H (fun v H'=>Gives H.length v H' r Ho):=by kernel_rfl
theorem runnelref6_CheckValue_fn {x0:AV} {r:AV} {Ho:List Ob} (h:runnelref6_CheckValue x0 [] (fun v H'=>Gives 0 v H' r Ho)):Abs.Fn Tryz.prog runnelref6_CheckValue_i [] [x0] r Ho :=
 fn_intro mixed runnelref6_CheckValue_ann (fn:=Tryz.f53) (by kernel_rfl) (by kernel_rfl) (by rw [runnelref6_CheckValue_eq]; exact h)
def val_Same (x0 x1:AV) (H:List Ob) (K:AV→List Ob→Prop):Prop :=
 aBox x0 H fun v0 h1 =>
 aBox x1 h1 fun v2 h3 =>
 aLoad true 5 v0 h3 fun v4 =>
 aLoad true 5 v2 h3 fun v5 =>
 aCall Tryz.prog (.p (.func val_Compare_i [])) [v4,v5] h3 fun v6 h7 =>
 aBin false false .eql v6 (.p (.int .i64 0)) fun v8 =>
 K v8 h7
def val_Same_ann:Nat→List Nat:=fun _=>[]
theorem val_Same_eq (x0 x1:AV) (H:List Ob) (r:AV) (Ho:List Ob):aBody Tryz.prog val_Same_ann Tryz.f57 H [x0,x1] r Ho = val_Same x0 x1 H (fun v H'=>Gives H.length v H' r Ho):=by kernel_rfl
theorem val_Same_fn {x0 x1:AV} {r:AV} {Ho:List Ob} (h:val_Same x0 x1 [] (fun v H'=>Gives 0 v H' r Ho)):Abs.Fn Tryz.prog val_Same_i [] [x0,x1] r Ho :=
 fn_intro mixed val_Same_ann (fn:=Tryz.f57) (by kernel_rfl) (by kernel_rfl) (by rw [val_Same_eq]; exact h)
def runnellaw2_ToAll_L1 (q1s0 y0 y1:AV) (H:List Ob) (B1:List AV→List Ob→Prop) (K:AV→List Ob→Prop):Prop :=
 aLen false false q1s0 fun v0 =>
 aBin false false .lss y1 v0 fun v1 =>
 aGuard v1
 (aIndexAddr 5 q1s0 y1 fun v2 =>
 aLoad true 5 v2 H fun v3 =>
 aCall Tryz.prog (.p (.func runnellaw2_To_i [])) [v3] H fun v4 h5 =>
 aBuildSlice 5 [v4] fun v6 =>
 aAppend false 5 64 y0 v6 h5 fun v7 h8 =>
 aBin false false .add y1 (.p (.int .i64 1)) fun v9 =>
 B1 [v7,v9] h8)
 (K y0 H)
def runnellaw2_ToAll (x0:AV) (H:List Ob) (K:AV→List Ob→Prop):Prop :=
 aLoopN 2 [(.full []),(.p (.int .i64 0))] H fun xs H B1=>runnellaw2_ToAll_L1 x0 (xs.getD 0 .top) (xs.getD 1 .top) H B1 K
def runnellaw2_ToAll_ann:Nat→List Nat:=fun k=>match k with | 3=>[3,4] | _=>[]
theorem runnellaw2_ToAll_eq (x0:AV) (H:List Ob) (r:AV) (Ho:List Ob):aBody Tryz.prog runnellaw2_ToAll_ann Tryz.f61 H [x0] r Ho = runnellaw2_ToAll x0 H (fun v H'=>Gives H.length v H' r Ho):=by kernel_rfl
theorem runnellaw2_ToAll_fn {x0:AV} {r:AV} {Ho:List Ob} (h:runnellaw2_ToAll x0 [] (fun v H'=>Gives 0 v H' r Ho)):Abs.Fn Tryz.prog runnellaw2_ToAll_i [] [x0] r Ho :=
 fn_intro mixed runnellaw2_ToAll_ann (fn:=Tryz.f61) (by kernel_rfl) (by kernel_rfl) (by rw [runnellaw2_ToAll_eq]; exact h)
def runnellaw2_To_L1 (q1s1 q1s2 q1s3 y0:AV) (H:List Ob) (B1:List AV→List Ob→Prop) (K:AV→List Ob→Prop):Prop :=
 aFieldAddr 4 q1s1 fun v17 =>
 aLoad false 1 v17 H fun v18 =>
 aLen false false v18 fun v19 =>
 aBin false false .lss y0 v19 fun v20 =>
 aGuard v20
 (aFieldAddr 4 q1s3 fun v21 =>
 aLoad false 1 v21 H fun v22 =>
 aFieldAddr 4 q1s1 fun v23 =>
 aLoad false 1 v23 H fun v24 =>
 aIndexAddr 5 v24 y0 fun v25 =>
 aLoad true 5 v25 H fun v26 =>
 aCallT Tryz.prog (.p (.func runnellaw2_To_i [])) [v26] fun v27 =>
 aBuildSlice 5 [v27] fun v28 =>
 aCalm [v22,v28] <|
 aAppend false 5 64 v22 v28 H fun v29 h30 =>
 aFieldAddr 4 q1s3 fun v31 =>
 aStore 1 v31 v29 h30 fun _ h33 =>
 aBin false false .add y0 (.p (.int .i64 1)) fun v34 =>
 B1 [v34] h33)
 (aLoad true 5 q1s3 H fun v35 =>
 aStore 5 q1s2 v35 H fun _ h37 =>
 aLoad true 5 q1s2 h37 fun v38 =>
 K v38 h37)
def runnellaw2_To (x0:AV) (H:List Ob) (K:AV→List Ob→Prop):Prop :=
 aBox x0 H fun v0 h1 =>
 aAlloc [(.p (.int .i64 0)),(.p (.int .i64 0)),(.p (.bool false)),(.p (.str [])),(.full [])] h1 fun v2 h3 =>
 aFieldAddr 0 v0 fun v4 =>
 aLoad false 1 v4 h3 fun v5 =>
 aFieldAddr 1 v0 fun v6 =>
 aLoad false 1 v6 h3 fun v7 =>
 aFieldAddr 2 v0 fun v8 =>
 aLoad false 1 v8 h3 fun v9 =>
 aFieldAddr 3 v0 fun v10 =>
 aLoad false 1 v10 h3 fun v11 =>
 aBuild [(.p (.int .i64 0)),(.p (.int .i64 0)),(.p (.bool false)),(.p (.str [])),(.full [])] [(0,1,v5),(1,1,v7),(2,1,v9),(3,1,v11)] fun v12 =>
 aAlloc [(.p (.int .i64 0)),(.p (.int .i64 0)),(.p (.bool false)),(.p (.str [])),(.full [])] h3 fun v13 h14 =>
 aStore 5 v13 v12 h14 fun _ h16 =>
 aLoopN 1 [(.p (.int .i64 0))] h16 fun xs H B1=>runnellaw2_To_L1 v0 v2 v13 (xs.getD 0 .top) H B1 K
def runnellaw2_To_ann:Nat→List Nat:=fun k=>match k with | 3=>[4] | _=>[]
theorem runnellaw2_To_eq (x0:AV) (H:List Ob) (r:AV) (Ho:List Ob):aBody Tryz.prog runnellaw2_To_ann Tryz.f62 H [x0] r Ho = runnellaw2_To x0 H (fun v H'=>Gives H.length v H' r Ho):=by kernel_rfl
theorem runnellaw2_To_fn {x0:AV} {r:AV} {Ho:List Ob} (h:runnellaw2_To x0 [] (fun v H'=>Gives 0 v H' r Ho)):Abs.Fn Tryz.prog runnellaw2_To_i [] [x0] r Ho :=
 fn_intro mixed runnellaw2_To_ann (fn:=Tryz.f62) (by kernel_rfl) (by kernel_rfl) (by rw [runnellaw2_To_eq]; exact h)
def val_Compare (x0 x1:AV) (H:List Ob) (K:AV→List Ob→Prop):Prop :=
 aBox x0 H fun v0 h1 =>
 aBox x1 h1 fun v2 h3 =>
 aFieldAddr 0 v0 fun v4 =>
 aLoad false 1 v4 h3 fun v5 =>
 aFieldAddr 0 v2 fun v6 =>
 aLoad false 1 v6 h3 fun v7 =>
 aCallT Tryz.prog (.p (.func cmp_Compare_int_i [])) [v5,v7] fun v8 =>
 aFieldAddr 1 v0 fun v9 =>
 aLoad false 1 v9 h3 fun v10 =>
 aFieldAddr 1 v2 fun v11 =>
 aLoad false 1 v11 h3 fun v12 =>
 aCallT Tryz.prog (.p (.func cmp_Compare_int64_i [])) [v10,v12] fun v13 =>
 aFieldAddr 2 v0 fun v14 =>
 aLoad false 1 v14 h3 fun v15 =>
 aCallT Tryz.prog (.p (.func val_truth_i [])) [v15] fun v16 =>
 aFieldAddr 2 v2 fun v17 =>
 aLoad false 1 v17 h3 fun v18 =>
 aCallT Tryz.prog (.p (.func val_truth_i [])) [v18] fun v19 =>
 aCallT Tryz.prog (.p (.func cmp_Compare_int_i [])) [v16,v19] fun v20 =>
 aFieldAddr 3 v0 fun v21 =>
 aLoad false 1 v21 h3 fun v22 =>
 aFieldAddr 3 v2 fun v23 =>
 aLoad false 1 v23 h3 fun v24 =>
 aCallT Tryz.prog (.p (.func strings_Compare_i [])) [v22,v24] fun v25 =>
 aBuildSlice 1 [v8,v13,v20,v25] fun v26 =>
 aCallT Tryz.prog (.p (.func cmp_Or_int_i [])) [v26] fun v27 =>
 aBin false false .neq v27 (.p (.int .i64 0)) fun v28 =>
 aGuard v28
 (K v27 h3)
 (aFieldAddr 4 v0 fun v29 =>
 aLoad false 1 v29 h3 fun v30 =>
 aFieldAddr 4 v2 fun v31 =>
 aLoad false 1 v31 h3 fun v32 =>
 aCall Tryz.prog (.p (.func val_rows_val_Value_i [])) [v30,v32,(.p (.func val_Compare_i []))] h3 fun v33 h34 =>
 K v33 h34)
def val_Compare_ann:Nat→List Nat:=fun _=>[]
theorem val_Compare_eq (x0 x1:AV) (H:List Ob) (r:AV) (Ho:List Ob):aBody Tryz.prog val_Compare_ann Tryz.f64 H [x0,x1] r Ho = val_Compare x0 x1 H (fun v H'=>Gives H.length v H' r Ho):=by kernel_rfl
theorem val_Compare_fn {x0 x1:AV} {r:AV} {Ho:List Ob} (h:val_Compare x0 x1 [] (fun v H'=>Gives 0 v H' r Ho)):Abs.Fn Tryz.prog val_Compare_i [] [x0,x1] r Ho :=
 fn_intro mixed val_Compare_ann (fn:=Tryz.f64) (by kernel_rfl) (by kernel_rfl) (by rw [val_Compare_eq]; exact h)
def runnelref6_less (x0:AV) (H:List Ob) (K:AV→List Ob→Prop):Prop :=
 aGuard x0
 (K (.p (.int .i64 (-1))) H)
 (K (.p (.int .i64 1)) H)
def runnelref6_less_ann:Nat→List Nat:=fun _=>[]
theorem runnelref6_less_eq (x0:AV) (H:List Ob) (r:AV) (Ho:List Ob):aBody Tryz.prog runnelref6_less_ann Tryz.f78 H [x0] r Ho = runnelref6_less x0 H (fun v H'=>Gives H.length v H' r Ho):=by kernel_rfl
theorem runnelref6_less_fn {x0:AV} {r:AV} {Ho:List Ob} (h:runnelref6_less x0 [] (fun v H'=>Gives 0 v H' r Ho)):Abs.Fn Tryz.prog runnelref6_less_i [] [x0] r Ho :=
 fn_intro mixed runnelref6_less_ann (fn:=Tryz.f78) (by kernel_rfl) (by kernel_rfl) (by rw [runnelref6_less_eq]; exact h)
def runnellaw2_budget_L1 (q1s1 q1s3 y0 y1:AV) (H:List Ob) (B1:List AV→List Ob→Prop) (K:AV→List Ob→Prop):Prop :=
 aFieldAddr 4 q1s3 fun v19 =>
 aLoad false 1 v19 H fun v20 =>
 aLen false false v20 fun v21 =>
 aBin false false .lss y1 v21 fun v22 =>
 aMerge true v22 (fun Q23 =>
 aBin false false .gtr y0 (.p (.int .i64 0)) fun v24 =>
 (H = H ∧ Q23 v24)) fun v25 =>
 aGuard v25
 (aFieldAddr 4 q1s3 fun v26 =>
 aLoad false 1 v26 H fun v27 =>
 aIndexAddr 5 v27 y1 fun v28 =>
 aLoad true 5 v28 H fun v29 =>
 aBin false false .sub q1s1 (.p (.int .i64 1)) fun v30 =>
 aCall Tryz.prog (.p (.func runnellaw2_budget_i [])) [v29,v30,y0] H fun v31 h32 =>
 aBin false false .add y1 (.p (.int .i64 1)) fun v33 =>
 B1 [v31,v33] h32)
 (K y0 H)
def runnellaw2_budget (x0 x1 x2:AV) (H:List Ob) (K:AV→List Ob→Prop):Prop :=
 aBox x0 H fun v0 h1 =>
 aBin false false .leq x2 (.p (.int .i64 0)) fun v2 =>
 aMerge false v2 (fun Q3 =>
 aBin false false .leq x1 (.p (.int .i64 0)) fun v4 =>
 (h1 = h1 ∧ Q3 v4)) fun v5 =>
 aMerge false v5 (fun Q6 =>
 aFieldAddr 4 v0 fun v7 =>
 aLoad false 1 v7 h1 fun v8 =>
 aLenS false v8 fun v9 =>
 aBin false false .gtr v9 (.p (.int .i64 20)) fun v10 =>
 (h1 = h1 ∧ Q6 v10)) fun v11 =>
 aMerge false v11 (fun Q12 =>
 aFieldAddr 3 v0 fun v13 =>
 aLoad false 1 v13 h1 fun v14 =>
 aLenS true v14 fun v15 =>
 aBin false false .gtr v15 (.p (.int .i64 300)) fun v16 =>
 (h1 = h1 ∧ Q12 v16)) fun v17 =>
 aGuard v17
 (K (.p (.int .i64 0)) h1)
 (aBin false false .sub x2 (.p (.int .i64 1)) fun v18 =>
 aLoopN 2 [v18,(.p (.int .i64 0))] h1 fun xs H B1=>runnellaw2_budget_L1 x1 v0 (xs.getD 0 .top) (xs.getD 1 .top) H B1 K)
def runnellaw2_budget_ann:Nat→List Nat:=fun k=>match k with | 5=>[2,7] | _=>[]
theorem runnellaw2_budget_eq (x0 x1 x2:AV) (H:List Ob) (r:AV) (Ho:List Ob):aBody Tryz.prog runnellaw2_budget_ann Tryz.f81 H [x0,x1,x2] r Ho = runnellaw2_budget x0 x1 x2 H (fun v H'=>Gives H.length v H' r Ho):=by kernel_rfl
theorem runnellaw2_budget_fn {x0 x1 x2:AV} {r:AV} {Ho:List Ob} (h:runnellaw2_budget x0 x1 x2 [] (fun v H'=>Gives 0 v H' r Ho)):Abs.Fn Tryz.prog runnellaw2_budget_i [] [x0,x1,x2] r Ho :=
 fn_intro mixed runnellaw2_budget_ann (fn:=Tryz.f81) (by kernel_rfl) (by kernel_rfl) (by rw [runnellaw2_budget_eq]; exact h)
def val_Check (x0:AV) (H:List Ob) (K:AV→List Ob→Prop):Prop :=
 aBox x0 H fun v0 h1 =>
 aLoad true 5 v0 h1 fun v2 =>
 aCall Tryz.prog (.p (.func val_check_i [])) [v2,(.p (.int .i64 0))] h1 fun v3 h4 =>
 K v3 h4
def val_Check_ann:Nat→List Nat:=fun _=>[]
theorem val_Check_eq (x0:AV) (H:List Ob) (r:AV) (Ho:List Ob):aBody Tryz.prog val_Check_ann Tryz.f91 H [x0] r Ho = val_Check x0 H (fun v H'=>Gives H.length v H' r Ho):=by kernel_rfl
theorem val_Check_fn {x0:AV} {r:AV} {Ho:List Ob} (h:val_Check x0 [] (fun v H'=>Gives 0 v H' r Ho)):Abs.Fn Tryz.prog val_Check_i [] [x0] r Ho :=
 fn_intro mixed val_Check_ann (fn:=Tryz.f91) (by kernel_rfl) (by kernel_rfl) (by rw [val_Check_eq]; exact h)
def val_kind_L1 (q1s2 q1s3 q1s10 q1s11 y0:AV) (H:List Ob) (B1:List AV→List Ob→Prop) (K:AV→List Ob→Prop):Prop :=
 aBin false false .lss y0 q1s11 fun v14 =>
 aGuard v14
 (aIndexAddr 5 q1s10 y0 fun v15 =>
 aLoad true 5 v15 H fun v16 =>
 aAlloc [(.p (.int .i64 0)),(.p (.int .i64 0)),(.p (.bool false)),(.p (.str [])),(.full [])] H fun v17 h18 =>
 aStore 5 v17 v16 h18 fun _ h20 =>
 aFieldAddr 1 q1s3 fun v21 =>
 aLoad false 1 v21 h20 fun v22 =>
 aLoad true 5 v17 h20 fun v23 =>
 aCallT Tryz.prog (.p (.func val_kind_i [])) [v23] fun v24 =>
 aBuildSlice 2 [v24] fun v25 =>
 aCalm [v22,v25] <|
 aAppend false 2 32 v22 v25 h20 fun v26 h27 =>
 aFieldAddr 1 q1s3 fun v28 =>
 aStore 1 v28 v26 h27 fun _ h30 =>
 aBin false false .add y0 (.p (.int .i64 1)) fun v31 =>
 B1 [v31] h30)
 (aLoad true 2 q1s3 H fun v32 =>
 aStore 2 q1s2 v32 H fun _ h34 =>
 aLoad true 2 q1s2 h34 fun v35 =>
 K v35 h34)
def val_kind (x0:AV) (H:List Ob) (K:AV→List Ob→Prop):Prop :=
 aBox x0 H fun v0 h1 =>
 aAlloc [(.p (.int .i64 0)),(.full [])] h1 fun v2 h3 =>
 aFieldAddr 0 v0 fun v4 =>
 aLoad false 1 v4 h3 fun v5 =>
 aBuild [(.p (.int .i64 0)),(.full [])] [(0,1,v5)] fun v6 =>
 aAlloc [(.p (.int .i64 0)),(.full [])] h3 fun v7 h8 =>
 aStore 2 v7 v6 h8 fun _ h10 =>
 aFieldAddr 4 v0 fun v11 =>
 aLoad false 1 v11 h10 fun v12 =>
 aLen false false v12 fun v13 =>
 aLoopN 1 [(.p (.int .i64 0))] h10 fun xs H B1=>val_kind_L1 v2 v7 v12 v13 (xs.getD 0 .top) H B1 K
def val_kind_ann:Nat→List Nat:=fun k=>match k with | 3=>[12] | _=>[]
theorem val_kind_eq (x0:AV) (H:List Ob) (r:AV) (Ho:List Ob):aBody Tryz.prog val_kind_ann Tryz.f93 H [x0] r Ho = val_kind x0 H (fun v H'=>Gives H.length v H' r Ho):=by kernel_rfl
theorem val_kind_fn {x0:AV} {r:AV} {Ho:List Ob} (h:val_kind x0 [] (fun v H'=>Gives 0 v H' r Ho)):Abs.Fn Tryz.prog val_kind_i [] [x0] r Ho :=
 fn_intro mixed val_kind_ann (fn:=Tryz.f93) (by kernel_rfl) (by kernel_rfl) (by rw [val_kind_eq]; exact h)
def runnelref6_checkValue_L1 (q1s1 q1s2 y0:AV) (H:List Ob) (B1:List AV→List Ob→Prop) (K:AV→List Ob→Prop):Prop :=
 aFieldAddr 4 q1s2 fun v64 =>
 aLoad false 1 v64 H fun v65 =>
 aLen false false v65 fun v66 =>
 aBin false false .lss y0 v66 fun v67 =>
 aGuard v67
 (aFieldAddr 4 q1s2 fun v68 =>
 aLoad false 1 v68 H fun v69 =>
 aIndexAddr 5 v69 y0 fun v70 =>
 aLoad true 5 v70 H fun v71 =>
 aBin false false .add q1s1 (.p (.int .i64 1)) fun v72 =>
 aCall Tryz.prog (.p (.func runnelref6_checkValue_i [])) [v71,v72] H fun v73 h74 =>
 aBin false false .neq v73 (.p (.int .i64 0)) fun v75 =>
 aGuard v75
 (K v73 h74)
 (aBin false false .add y0 (.p (.int .i64 1)) fun v76 =>
 B1 [v76] h74))
 (K (.p (.int .i64 0)) H)
def runnelref6_checkValue (x0 x1:AV) (H:List Ob) (K:AV→List Ob→Prop):Prop :=
 aBox x0 H fun v0 h1 =>
 aFieldAddr 0 v0 fun v2 =>
 aLoad false 1 v2 h1 fun v3 =>
 aBin false false .lss v3 (.p (.int .i64 1)) fun v4 =>
 aMerge false v4 (fun Q5 =>
 aFieldAddr 0 v0 fun v6 =>
 aLoad false 1 v6 h1 fun v7 =>
 aBin false false .gtr v7 (.p (.int .i64 4)) fun v8 =>
 (h1 = h1 ∧ Q5 v8)) fun v9 =>
 aGuard v9
 (K (.p (.int .i64 5)) h1)
 (aFieldAddr 0 v0 fun v10 =>
 aLoad false 1 v10 h1 fun v11 =>
 aBin false false .neq v11 (.p (.int .i64 1)) fun v12 =>
 aMerge true v12 (fun Q13 =>
 aFieldAddr 1 v0 fun v14 =>
 aLoad false 1 v14 h1 fun v15 =>
 aBin false false .neq v15 (.p (.int .i64 0)) fun v16 =>
 (h1 = h1 ∧ Q13 v16)) fun v17 =>
 aMerge false v17 (fun Q18 =>
 aFieldAddr 0 v0 fun v19 =>
 aLoad false 1 v19 h1 fun v20 =>
 aBin false false .neq v20 (.p (.int .i64 2)) fun v21 =>
 aMerge true v21 (fun Q22 =>
 aFieldAddr 2 v0 fun v23 =>
 aLoad false 1 v23 h1 fun v24 =>
 (h1 = h1 ∧ Q22 v24)) fun v25 =>
 (h1 = h1 ∧ Q18 v25)) fun v26 =>
 aMerge false v26 (fun Q27 =>
 aFieldAddr 0 v0 fun v28 =>
 aLoad false 1 v28 h1 fun v29 =>
 aBin false false .neq v29 (.p (.int .i64 3)) fun v30 =>
 aMerge true v30 (fun Q31 =>
 aFieldAddr 3 v0 fun v32 =>
 aLoad false 1 v32 h1 fun v33 =>
 aBin false false .neq v33 (.p (.str [])) fun v34 =>
 (h1 = h1 ∧ Q31 v34)) fun v35 =>
 (h1 = h1 ∧ Q27 v35)) fun v36 =>
 aMerge false v36 (fun Q37 =>
 aFieldAddr 0 v0 fun v38 =>
 aLoad false 1 v38 h1 fun v39 =>
 aBin false false .neq v39 (.p (.int .i64 4)) fun v40 =>
 aMerge true v40 (fun Q41 =>
 aFieldAddr 4 v0 fun v42 =>
 aLoad false 1 v42 h1 fun v43 =>
 aLenS false v43 fun v44 =>
 aBin false false .gtr v44 (.p (.int .i64 0)) fun v45 =>
 (h1 = h1 ∧ Q41 v45)) fun v46 =>
 (h1 = h1 ∧ Q37 v46)) fun v47 =>
 aGuard v47
 (K (.p (.int .i64 2)) h1)
 (aFieldAddr 3 v0 fun v48 =>
 aLoad false 1 v48 h1 fun v49 =>
 aLen false true v49 fun v50 =>
 aBin false false .gtr v50 (.p (.int .i64 255)) fun v51 =>
 aGuard v51
 (K (.p (.int .i64 4)) h1)
 (aFieldAddr 0 v0 fun v52 =>
 aLoad false 1 v52 h1 fun v53 =>
 aBin false false .neq v53 (.p (.int .i64 4)) fun v54 =>
 aGuard v54
 (K (.p (.int .i64 0)) h1)
 (aFieldAddr 4 v0 fun v55 =>
 aLoad false 1 v55 h1 fun v56 =>
 aLen false false v56 fun v57 =>
 aBin false false .eql v57 (.p (.int .i64 0)) fun v58 =>
 aGuard v58
 (K (.p (.int .i64 1)) h1)
 (aFieldAddr 4 v0 fun v59 =>
 aLoad false 1 v59 h1 fun v60 =>
 aLen false false v60 fun v61 =>
 aBin false false .gtr v61 (.p (.int .i64 8)) fun v62 =>
 aGuard v62
 (K (.p (.int .i64 10)) h1)
 (aBin false false .gtr x1 (.p (.int .i64 4)) fun v63 =>
 aGuard v63
 (K (.p (.int .i64 9)) h1)
 (aLoopN 1 [(.p (.int .i64 0))] h1 fun xs H B1=>runnelref6_checkValue_L1 x1 v0 (xs.getD 0 .top) H B1 K)))))))
def runnelref6_checkValue_ann:Nat→List Nat:=fun k=>match k with | 16=>[5] | _=>[]
theorem runnelref6_checkValue_eq (x0 x1:AV) (H:List Ob) (r:AV) (Ho:List Ob):aBody Tryz.prog runnelref6_checkValue_ann Tryz.f94 H [x0,x1] r Ho = runnelref6_checkValue x0 x1 H (fun v H'=>Gives H.length v H' r Ho):=by kernel_rfl
theorem runnelref6_checkValue_fn {x0 x1:AV} {r:AV} {Ho:List Ob} (h:runnelref6_checkValue x0 x1 [] (fun v H'=>Gives 0 v H' r Ho)):Abs.Fn Tryz.prog runnelref6_checkValue_i [] [x0,x1] r Ho :=
 fn_intro mixed runnelref6_checkValue_ann (fn:=Tryz.f94) (by kernel_rfl) (by kernel_rfl) (by rw [runnelref6_checkValue_eq]; exact h)
def cmp_Or_int_L1 (q1s3 q1s6 q1s7 y0:AV) (H:List Ob) (B1:List AV→List Ob→Prop) (K:AV→List Ob→Prop):Prop :=
 aBin false false .lss y0 q1s7 fun v1 =>
 aGuard v1
 (aIndexAddr 1 q1s6 y0 fun v2 =>
 aLoad false 1 v2 H fun v3 =>
 aBin false false .neq v3 q1s3 fun v4 =>
 aGuard v4
 (K v3 H)
 (aBin false false .add y0 (.p (.int .i64 1)) fun v5 =>
 B1 [v5] H))
 (K q1s3 H)
def cmp_Or_int (x0:AV) (H:List Ob) (K:AV→List Ob→Prop):Prop :=
 aLen false false x0 fun v0 =>
 aLoopN 1 [(.p (.int .i64 0))] H fun xs H B1=>cmp_Or_int_L1 (.p (.int .i64 0)) x0 v0 (xs.getD 0 .top) H B1 K
def cmp_Or_int_ann:Nat→List Nat:=fun k=>match k with | 3=>[8] | _=>[]
theorem cmp_Or_int_eq (x0:AV) (H:List Ob) (r:AV) (Ho:List Ob):aBody Tryz.prog cmp_Or_int_ann Tryz.f95 H [x0] r Ho = cmp_Or_int x0 H (fun v H'=>Gives H.length v H' r Ho):=by kernel_rfl
theorem cmp_Or_int_fn {x0:AV} {r:AV} {Ho:List Ob} (h:cmp_Or_int x0 [] (fun v H'=>Gives 0 v H' r Ho)):Abs.Fn Tryz.prog cmp_Or_int_i [] [x0] r Ho :=
 fn_intro mixed cmp_Or_int_ann (fn:=Tryz.f95) (by kernel_rfl) (by kernel_rfl) (by rw [cmp_Or_int_eq]; exact h)
def cmp_Compare_int (x0 x1:AV) (H:List Ob) (K:AV→List Ob→Prop):Prop :=
 aCall Tryz.prog (.p (.func cmp_isNaN_int_i [])) [x0] H fun v0 h1 =>
 aCall Tryz.prog (.p (.func cmp_isNaN_int_i [])) [x1] h1 fun v2 h3 =>
 aGuard v0
 (aGuard v2
 (K (.p (.int .i64 0)) h3)
 (K (.p (.int .i64 (-1))) h3))
 (aGuard v2
 (K (.p (.int .i64 1)) h3)
 (aBin false false .lss x0 x1 fun v4 =>
 aGuard v4
 (K (.p (.int .i64 (-1))) h3)
 (aBin false false .gtr x0 x1 fun v5 =>
 aGuard v5
 (K (.p (.int .i64 1)) h3)
 (K (.p (.int .i64 0)) h3))))
def cmp_Compare_int_ann:Nat→List Nat:=fun _=>[]
theorem cmp_Compare_int_eq (x0 x1:AV) (H:List Ob) (r:AV) (Ho:List Ob):aBody Tryz.prog cmp_Compare_int_ann Tryz.f96 H [x0,x1] r Ho = cmp_Compare_int x0 x1 H (fun v H'=>Gives H.length v H' r Ho):=by kernel_rfl
theorem cmp_Compare_int_fn {x0 x1:AV} {r:AV} {Ho:List Ob} (h:cmp_Compare_int x0 x1 [] (fun v H'=>Gives 0 v H' r Ho)):Abs.Fn Tryz.prog cmp_Compare_int_i [] [x0,x1] r Ho :=
 fn_intro mixed cmp_Compare_int_ann (fn:=Tryz.f96) (by kernel_rfl) (by kernel_rfl) (by rw [cmp_Compare_int_eq]; exact h)
def cmp_Compare_int64 (x0 x1:AV) (H:List Ob) (K:AV→List Ob→Prop):Prop :=
 aCall Tryz.prog (.p (.func cmp_isNaN_int64_i [])) [x0] H fun v0 h1 =>
 aCall Tryz.prog (.p (.func cmp_isNaN_int64_i [])) [x1] h1 fun v2 h3 =>
 aGuard v0
 (aGuard v2
 (K (.p (.int .i64 0)) h3)
 (K (.p (.int .i64 (-1))) h3))
 (aGuard v2
 (K (.p (.int .i64 1)) h3)
 (aBin false false .lss x0 x1 fun v4 =>
 aGuard v4
 (K (.p (.int .i64 (-1))) h3)
 (aBin false false .gtr x0 x1 fun v5 =>
 aGuard v5
 (K (.p (.int .i64 1)) h3)
 (K (.p (.int .i64 0)) h3))))
def cmp_Compare_int64_ann:Nat→List Nat:=fun _=>[]
theorem cmp_Compare_int64_eq (x0 x1:AV) (H:List Ob) (r:AV) (Ho:List Ob):aBody Tryz.prog cmp_Compare_int64_ann Tryz.f99 H [x0,x1] r Ho = cmp_Compare_int64 x0 x1 H (fun v H'=>Gives H.length v H' r Ho):=by kernel_rfl
theorem cmp_Compare_int64_fn {x0 x1:AV} {r:AV} {Ho:List Ob} (h:cmp_Compare_int64 x0 x1 [] (fun v H'=>Gives 0 v H' r Ho)):Abs.Fn Tryz.prog cmp_Compare_int64_i [] [x0,x1] r Ho :=
 fn_intro mixed cmp_Compare_int64_ann (fn:=Tryz.f99) (by kernel_rfl) (by kernel_rfl) (by rw [cmp_Compare_int64_eq]; exact h)
def val_truth (x0:AV) (H:List Ob) (K:AV→List Ob→Prop):Prop :=
 aGuard x0
 (K (.p (.int .i64 1)) H)
 (K (.p (.int .i64 0)) H)
def val_truth_ann:Nat→List Nat:=fun _=>[]
theorem val_truth_eq (x0:AV) (H:List Ob) (r:AV) (Ho:List Ob):aBody Tryz.prog val_truth_ann Tryz.f100 H [x0] r Ho = val_truth x0 H (fun v H'=>Gives H.length v H' r Ho):=by kernel_rfl
theorem val_truth_fn {x0:AV} {r:AV} {Ho:List Ob} (h:val_truth x0 [] (fun v H'=>Gives 0 v H' r Ho)):Abs.Fn Tryz.prog val_truth_i [] [x0] r Ho :=
 fn_intro mixed val_truth_ann (fn:=Tryz.f100) (by kernel_rfl) (by kernel_rfl) (by rw [val_truth_eq]; exact h)
def strings_Compare (x0 x1:AV) (H:List Ob) (K:AV→List Ob→Prop):Prop :=
 aCall Tryz.prog (.p (.func internal_bytealg_CompareString_i [])) [x0,x1] H fun v0 h1 =>
 K v0 h1
def strings_Compare_ann:Nat→List Nat:=fun _=>[]
theorem strings_Compare_eq (x0 x1:AV) (H:List Ob) (r:AV) (Ho:List Ob):aBody Tryz.prog strings_Compare_ann Tryz.f101 H [x0,x1] r Ho = strings_Compare x0 x1 H (fun v H'=>Gives H.length v H' r Ho):=by kernel_rfl
theorem strings_Compare_fn {x0 x1:AV} {r:AV} {Ho:List Ob} (h:strings_Compare x0 x1 [] (fun v H'=>Gives 0 v H' r Ho)):Abs.Fn Tryz.prog strings_Compare_i [] [x0,x1] r Ho :=
 fn_intro mixed strings_Compare_ann (fn:=Tryz.f101) (by kernel_rfl) (by kernel_rfl) (by rw [strings_Compare_eq]; exact h)
def val_rows_val_Value (x0 x1 x2:AV) (H:List Ob) (K:AV→List Ob→Prop):Prop :=
 aCall Tryz.prog (.p (.func slices_CompareFunc_val_Value_val_Value_val_Value_val_Value_i [])) [x0,x1,x2] H fun v0 h1 =>
 K v0 h1
def val_rows_val_Value_ann:Nat→List Nat:=fun _=>[]
theorem val_rows_val_Value_eq (x0 x1 x2:AV) (H:List Ob) (r:AV) (Ho:List Ob):aBody Tryz.prog val_rows_val_Value_ann Tryz.f102 H [x0,x1,x2] r Ho = val_rows_val_Value x0 x1 x2 H (fun v H'=>Gives H.length v H' r Ho):=by kernel_rfl
theorem val_rows_val_Value_fn {x0 x1 x2:AV} {r:AV} {Ho:List Ob} (h:val_rows_val_Value x0 x1 x2 [] (fun v H'=>Gives 0 v H' r Ho)):Abs.Fn Tryz.prog val_rows_val_Value_i [] [x0,x1,x2] r Ho :=
 fn_intro mixed val_rows_val_Value_ann (fn:=Tryz.f102) (by kernel_rfl) (by kernel_rfl) (by rw [val_rows_val_Value_eq]; exact h)
def val_Tup (x0:AV) (H:List Ob) (K:AV→List Ob→Prop):Prop :=
 aAlloc [(.p (.int .i64 0)),(.p (.int .i64 0)),(.p (.bool false)),(.p (.str [])),(.full [])] H fun v0 h1 =>
 aCall Tryz.prog (.p (.func slices_Clone_val_Value_val_Value_i [])) [x0] h1 fun v2 h3 =>
 aCall Tryz.prog (.p (.func slices_Clip_val_Value_val_Value_i [])) [v2] h3 fun v4 h5 =>
 aBuild [(.p (.int .i64 0)),(.p (.int .i64 0)),(.p (.bool false)),(.p (.str [])),(.full [])] [(0,1,(.p (.int .i64 4))),(4,1,v4)] fun v6 =>
 aStore 5 v0 v6 h5 fun _ h8 =>
 aLoad true 5 v0 h8 fun v9 =>
 K v9 h8
def val_Tup_ann:Nat→List Nat:=fun _=>[]
theorem val_Tup_eq (x0:AV) (H:List Ob) (r:AV) (Ho:List Ob):aBody Tryz.prog val_Tup_ann Tryz.f113 H [x0] r Ho = val_Tup x0 H (fun v H'=>Gives H.length v H' r Ho):=by kernel_rfl
theorem val_Tup_fn {x0:AV} {r:AV} {Ho:List Ob} (h:val_Tup x0 [] (fun v H'=>Gives 0 v H' r Ho)):Abs.Fn Tryz.prog val_Tup_i [] [x0] r Ho :=
 fn_intro mixed val_Tup_ann (fn:=Tryz.f113) (by kernel_rfl) (by kernel_rfl) (by rw [val_Tup_eq]; exact h)
def slices_Clip_val_Value_val_Value (x0:AV) (H:List Ob) (K:AV→List Ob→Prop):Prop :=
 aLen false false x0 fun v0 =>
 aLen false false x0 fun v1 =>
 aSlice false 5 x0 none (some v0) (some v1) fun v2 =>
 K v2 H
def slices_Clip_val_Value_val_Value_ann:Nat→List Nat:=fun _=>[]
theorem slices_Clip_val_Value_val_Value_eq (x0:AV) (H:List Ob) (r:AV) (Ho:List Ob):aBody Tryz.prog slices_Clip_val_Value_val_Value_ann Tryz.f115 H [x0] r Ho = slices_Clip_val_Value_val_Value x0 H (fun v H'=>Gives H.length v H' r Ho):=by kernel_rfl
theorem slices_Clip_val_Value_val_Value_fn {x0:AV} {r:AV} {Ho:List Ob} (h:slices_Clip_val_Value_val_Value x0 [] (fun v H'=>Gives 0 v H' r Ho)):Abs.Fn Tryz.prog slices_Clip_val_Value_val_Value_i [] [x0] r Ho :=
 fn_intro mixed slices_Clip_val_Value_val_Value_ann (fn:=Tryz.f115) (by kernel_rfl) (by kernel_rfl) (by rw [slices_Clip_val_Value_val_Value_eq]; exact h)
def val_check_L1 (q1s1 q1s2 y0 y1:AV) (H:List Ob) (B1:List AV→List Ob→Prop) (K:AV→List Ob→Prop):Prop :=
 aFieldAddr 4 q1s2 fun v25 =>
 aLoad false 1 v25 H fun v26 =>
 aLen false false v26 fun v27 =>
 aBin false false .lss y1 v27 fun v28 =>
 aMerge true v28 (fun Q29 =>
 aBin false false .eql y0 (.p (.int .i64 0)) fun v30 =>
 (H = H ∧ Q29 v30)) fun v31 =>
 aGuard v31
 (aFieldAddr 4 q1s2 fun v32 =>
 aLoad false 1 v32 H fun v33 =>
 aIndexAddr 5 v33 y1 fun v34 =>
 aLoad true 5 v34 H fun v35 =>
 aBin false false .add q1s1 (.p (.int .i64 1)) fun v36 =>
 aCall Tryz.prog (.p (.func val_check_i [])) [v35,v36] H fun v37 h38 =>
 aBin false false .add y1 (.p (.int .i64 1)) fun v39 =>
 B1 [v37,v39] h38)
 (K y0 H)
def val_check (x0 x1:AV) (H:List Ob) (K:AV→List Ob→Prop):Prop :=
 aBox x0 H fun v0 h1 =>
 aFieldAddr 0 v0 fun v2 =>
 aLoad false 1 v2 h1 fun v3 =>
 aBin false false .lss v3 (.p (.int .i64 1)) fun v4 =>
 aMerge false v4 (fun Q5 =>
 aFieldAddr 0 v0 fun v6 =>
 aLoad false 1 v6 h1 fun v7 =>
 aBin false false .gtr v7 (.p (.int .i64 4)) fun v8 =>
 (h1 = h1 ∧ Q5 v8)) fun v9 =>
 aGuard v9
 (K (.p (.int .i64 5)) h1)
 (aLoad true 5 v0 h1 fun v10 =>
 aCall Tryz.prog (.p (.func val_spare_i [])) [v10] h1 fun v11 h12 =>
 aGuard v11
 (K (.p (.int .i64 2)) h12)
 (aFieldAddr 3 v0 fun v13 =>
 aLoad false 1 v13 h12 fun v14 =>
 aLen false true v14 fun v15 =>
 aBin false false .gtr v15 (.p (.int .i64 255)) fun v16 =>
 aGuard v16
 (K (.p (.int .i64 4)) h12)
 (aFieldAddr 0 v0 fun v17 =>
 aLoad false 1 v17 h12 fun v18 =>
 aBin false false .neq v18 (.p (.int .i64 4)) fun v19 =>
 aGuard v19
 (K (.p (.int .i64 0)) h12)
 (aFieldAddr 4 v0 fun v20 =>
 aLoad false 1 v20 h12 fun v21 =>
 aLen false false v21 fun v22 =>
 aCall Tryz.prog (.p (.func typ_Row_i [])) [v22,x1] h12 fun v23 h24 =>
 aLoopN 2 [v23,(.p (.int .i64 0))] h24 fun xs H B1=>val_check_L1 x1 v0 (xs.getD 0 .top) (xs.getD 1 .top) H B1 K))))
def val_check_ann:Nat→List Nat:=fun k=>match k with | 11=>[5,6] | _=>[]
theorem val_check_eq (x0 x1:AV) (H:List Ob) (r:AV) (Ho:List Ob):aBody Tryz.prog val_check_ann Tryz.f136 H [x0,x1] r Ho = val_check x0 x1 H (fun v H'=>Gives H.length v H' r Ho):=by kernel_rfl
theorem val_check_fn {x0 x1:AV} {r:AV} {Ho:List Ob} (h:val_check x0 x1 [] (fun v H'=>Gives 0 v H' r Ho)):Abs.Fn Tryz.prog val_check_i [] [x0,x1] r Ho :=
 fn_intro mixed val_check_ann (fn:=Tryz.f136) (by kernel_rfl) (by kernel_rfl) (by rw [val_check_eq]; exact h)
def cmp_isNaN_int (x0:AV) (H:List Ob) (K:AV→List Ob→Prop):Prop :=
 aBin false false .neq x0 x0 fun v0 =>
 K v0 H
def cmp_isNaN_int_ann:Nat→List Nat:=fun _=>[]
theorem cmp_isNaN_int_eq (x0:AV) (H:List Ob) (r:AV) (Ho:List Ob):aBody Tryz.prog cmp_isNaN_int_ann Tryz.f138 H [x0] r Ho = cmp_isNaN_int x0 H (fun v H'=>Gives H.length v H' r Ho):=by kernel_rfl
theorem cmp_isNaN_int_fn {x0:AV} {r:AV} {Ho:List Ob} (h:cmp_isNaN_int x0 [] (fun v H'=>Gives 0 v H' r Ho)):Abs.Fn Tryz.prog cmp_isNaN_int_i [] [x0] r Ho :=
 fn_intro mixed cmp_isNaN_int_ann (fn:=Tryz.f138) (by kernel_rfl) (by kernel_rfl) (by rw [cmp_isNaN_int_eq]; exact h)
def cmp_isNaN_int64 (x0:AV) (H:List Ob) (K:AV→List Ob→Prop):Prop :=
 aBin false false .neq x0 x0 fun v0 =>
 K v0 H
def cmp_isNaN_int64_ann:Nat→List Nat:=fun _=>[]
theorem cmp_isNaN_int64_eq (x0:AV) (H:List Ob) (r:AV) (Ho:List Ob):aBody Tryz.prog cmp_isNaN_int64_ann Tryz.f142 H [x0] r Ho = cmp_isNaN_int64 x0 H (fun v H'=>Gives H.length v H' r Ho):=by kernel_rfl
theorem cmp_isNaN_int64_fn {x0:AV} {r:AV} {Ho:List Ob} (h:cmp_isNaN_int64 x0 [] (fun v H'=>Gives 0 v H' r Ho)):Abs.Fn Tryz.prog cmp_isNaN_int64_i [] [x0] r Ho :=
 fn_intro mixed cmp_isNaN_int64_ann (fn:=Tryz.f142) (by kernel_rfl) (by kernel_rfl) (by rw [cmp_isNaN_int64_eq]; exact h)
def slices_CompareFunc_val_Value_val_Value_val_Value_val_Value_L1 (q1s0 q1s1 q1s2 q1s11 q1s12 y0:AV) (H:List Ob) (B1:List AV→List Ob→Prop) (K:AV→List Ob→Prop):Prop :=
 aBin false false .lss y0 q1s12 fun v1 =>
 aGuard v1
 (aIndexAddr 5 q1s11 y0 fun v2 =>
 aLoad true 5 v2 H fun v3 =>
 aAlloc [(.p (.int .i64 0)),(.p (.int .i64 0)),(.p (.bool false)),(.p (.str [])),(.full [])] H fun v4 h5 =>
 aStore 5 v4 v3 h5 fun _ h7 =>
 aLen false false q1s1 fun v8 =>
 aBin false false .geq y0 v8 fun v9 =>
 aGuard v9
 (K (.p (.int .i64 1)) h7)
 (aIndexAddr 5 q1s1 y0 fun v10 =>
 aLoad true 5 v10 h7 fun v11 =>
 aAlloc [(.p (.int .i64 0)),(.p (.int .i64 0)),(.p (.bool false)),(.p (.str [])),(.full [])] h7 fun v12 h13 =>
 aStore 5 v12 v11 h13 fun _ h15 =>
 aLoad true 5 v4 h15 fun v16 =>
 aLoad true 5 v12 h15 fun v17 =>
 aCall Tryz.prog q1s2 [v16,v17] h15 fun v18 h19 =>
 aBin false false .neq v18 (.p (.int .i64 0)) fun v20 =>
 aGuard v20
 (K v18 h19)
 (aBin false false .add y0 (.p (.int .i64 1)) fun v21 =>
 B1 [v21] h19)))
 (aLen false false q1s0 fun v22 =>
 aLen false false q1s1 fun v23 =>
 aBin false false .lss v22 v23 fun v24 =>
 aGuard v24
 (K (.p (.int .i64 (-1))) H)
 (K (.p (.int .i64 0)) H))
def slices_CompareFunc_val_Value_val_Value_val_Value_val_Value (x0 x1 x2:AV) (H:List Ob) (K:AV→List Ob→Prop):Prop :=
 aLen false false x0 fun v0 =>
 aLoopN 1 [(.p (.int .i64 0))] H fun xs H B1=>slices_CompareFunc_val_Value_val_Value_val_Value_val_Value_L1 x0 x1 x2 x0 v0 (xs.getD 0 .top) H B1 K
def slices_CompareFunc_val_Value_val_Value_val_Value_val_Value_ann:Nat→List Nat:=fun k=>match k with | 2=>[13] | _=>[]
theorem slices_CompareFunc_val_Value_val_Value_val_Value_val_Value_eq (x0 x1 x2:AV) (H:List Ob) (r:AV) (Ho:List Ob):aBody Tryz.prog slices_CompareFunc_val_Value_val_Value_val_Value_val_Value_ann Tryz.f144 H [x0,x1,x2] r Ho = slices_CompareFunc_val_Value_val_Value_val_Value_val_Value x0 x1 x2 H (fun v H'=>Gives H.length v H' r Ho):=by kernel_rfl
theorem slices_CompareFunc_val_Value_val_Value_val_Value_val_Value_fn {x0 x1 x2:AV} {r:AV} {Ho:List Ob} (h:slices_CompareFunc_val_Value_val_Value_val_Value_val_Value x0 x1 x2 [] (fun v H'=>Gives 0 v H' r Ho)):Abs.Fn Tryz.prog slices_CompareFunc_val_Value_val_Value_val_Value_val_Value_i [] [x0,x1,x2] r Ho :=
 fn_intro mixed slices_CompareFunc_val_Value_val_Value_val_Value_val_Value_ann (fn:=Tryz.f144) (by kernel_rfl) (by kernel_rfl) (by rw [slices_CompareFunc_val_Value_val_Value_val_Value_val_Value_eq]; exact h)
def slices_Clone_val_Value_val_Value (x0:AV) (H:List Ob) (K:AV→List Ob→Prop):Prop :=
 aNil true .eql x0 fun v0 =>
 aGuard v0
 (K (.full []) H)
 (aBuildSlice 5 [] fun v1 =>
 aAppend false 5 64 v1 x0 H fun v2 h3 =>
 K v2 h3)
def slices_Clone_val_Value_val_Value_ann:Nat→List Nat:=fun _=>[]
theorem slices_Clone_val_Value_val_Value_eq (x0:AV) (H:List Ob) (r:AV) (Ho:List Ob):aBody Tryz.prog slices_Clone_val_Value_val_Value_ann Tryz.f153 H [x0] r Ho = slices_Clone_val_Value_val_Value x0 H (fun v H'=>Gives H.length v H' r Ho):=by kernel_rfl
theorem slices_Clone_val_Value_val_Value_fn {x0:AV} {r:AV} {Ho:List Ob} (h:slices_Clone_val_Value_val_Value x0 [] (fun v H'=>Gives 0 v H' r Ho)):Abs.Fn Tryz.prog slices_Clone_val_Value_val_Value_i [] [x0] r Ho :=
 fn_intro mixed slices_Clone_val_Value_val_Value_ann (fn:=Tryz.f153) (by kernel_rfl) (by kernel_rfl) (by rw [slices_Clone_val_Value_val_Value_eq]; exact h)
def val_spare (x0:AV) (H:List Ob) (K:AV→List Ob→Prop):Prop :=
 aBox x0 H fun v0 h1 =>
 aFieldAddr 0 v0 fun v2 =>
 aLoad false 1 v2 h1 fun v3 =>
 aBin false false .neq v3 (.p (.int .i64 1)) fun v4 =>
 aMerge true v4 (fun Q5 =>
 aFieldAddr 1 v0 fun v6 =>
 aLoad false 1 v6 h1 fun v7 =>
 aBin false false .neq v7 (.p (.int .i64 0)) fun v8 =>
 (h1 = h1 ∧ Q5 v8)) fun v9 =>
 aMerge false v9 (fun Q10 =>
 aFieldAddr 0 v0 fun v11 =>
 aLoad false 1 v11 h1 fun v12 =>
 aBin false false .neq v12 (.p (.int .i64 2)) fun v13 =>
 aMerge true v13 (fun Q14 =>
 aFieldAddr 2 v0 fun v15 =>
 aLoad false 1 v15 h1 fun v16 =>
 (h1 = h1 ∧ Q14 v16)) fun v17 =>
 (h1 = h1 ∧ Q10 v17)) fun v18 =>
 aMerge false v18 (fun Q19 =>
 aFieldAddr 0 v0 fun v20 =>
 aLoad false 1 v20 h1 fun v21 =>
 aBin false false .neq v21 (.p (.int .i64 3)) fun v22 =>
 aMerge true v22 (fun Q23 =>
 aFieldAddr 3 v0 fun v24 =>
 aLoad false 1 v24 h1 fun v25 =>
 aBin false false .neq v25 (.p (.str [])) fun v26 =>
 (h1 = h1 ∧ Q23 v26)) fun v27 =>
 (h1 = h1 ∧ Q19 v27)) fun v28 =>
 aMerge false v28 (fun Q29 =>
 aFieldAddr 0 v0 fun v30 =>
 aLoad false 1 v30 h1 fun v31 =>
 aBin false false .neq v31 (.p (.int .i64 4)) fun v32 =>
 aMerge true v32 (fun Q33 =>
 aFieldAddr 4 v0 fun v34 =>
 aLoad false 1 v34 h1 fun v35 =>
 aLenS false v35 fun v36 =>
 aBin false false .gtr v36 (.p (.int .i64 0)) fun v37 =>
 (h1 = h1 ∧ Q33 v37)) fun v38 =>
 (h1 = h1 ∧ Q29 v38)) fun v39 =>
 K v39 h1
def val_spare_ann:Nat→List Nat:=fun _=>[]
theorem val_spare_eq (x0:AV) (H:List Ob) (r:AV) (Ho:List Ob):aBody Tryz.prog val_spare_ann Tryz.f168 H [x0] r Ho = val_spare x0 H (fun v H'=>Gives H.length v H' r Ho):=by kernel_rfl
theorem val_spare_fn {x0:AV} {r:AV} {Ho:List Ob} (h:val_spare x0 [] (fun v H'=>Gives 0 v H' r Ho)):Abs.Fn Tryz.prog val_spare_i [] [x0] r Ho :=
 fn_intro mixed val_spare_ann (fn:=Tryz.f168) (by kernel_rfl) (by kernel_rfl) (by rw [val_spare_eq]; exact h)
def val_Bool (x0:AV) (H:List Ob) (K:AV→List Ob→Prop):Prop :=
 aAlloc [(.p (.int .i64 0)),(.p (.int .i64 0)),(.p (.bool false)),(.p (.str [])),(.full [])] H fun v0 h1 =>
 aBuild [(.p (.int .i64 0)),(.p (.int .i64 0)),(.p (.bool false)),(.p (.str [])),(.full [])] [(0,1,(.p (.int .i64 2))),(2,1,x0)] fun v2 =>
 aStore 5 v0 v2 h1 fun _ h4 =>
 aLoad true 5 v0 h4 fun v5 =>
 K v5 h4
def val_Bool_ann:Nat→List Nat:=fun _=>[]
theorem val_Bool_eq (x0:AV) (H:List Ob) (r:AV) (Ho:List Ob):aBody Tryz.prog val_Bool_ann Tryz.f215 H [x0] r Ho = val_Bool x0 H (fun v H'=>Gives H.length v H' r Ho):=by kernel_rfl
theorem val_Bool_fn {x0:AV} {r:AV} {Ho:List Ob} (h:val_Bool x0 [] (fun v H'=>Gives 0 v H' r Ho)):Abs.Fn Tryz.prog val_Bool_i [] [x0] r Ho :=
 fn_intro mixed val_Bool_ann (fn:=Tryz.f215) (by kernel_rfl) (by kernel_rfl) (by rw [val_Bool_eq]; exact h)
def val_Str (x0:AV) (H:List Ob) (K:AV→List Ob→Prop):Prop :=
 aAlloc [(.p (.int .i64 0)),(.p (.int .i64 0)),(.p (.bool false)),(.p (.str [])),(.full [])] H fun v0 h1 =>
 aBuild [(.p (.int .i64 0)),(.p (.int .i64 0)),(.p (.bool false)),(.p (.str [])),(.full [])] [(0,1,(.p (.int .i64 3))),(3,1,x0)] fun v2 =>
 aStore 5 v0 v2 h1 fun _ h4 =>
 aLoad true 5 v0 h4 fun v5 =>
 K v5 h4
def val_Str_ann:Nat→List Nat:=fun _=>[]
theorem val_Str_eq (x0:AV) (H:List Ob) (r:AV) (Ho:List Ob):aBody Tryz.prog val_Str_ann Tryz.f253 H [x0] r Ho = val_Str x0 H (fun v H'=>Gives H.length v H' r Ho):=by kernel_rfl
theorem val_Str_fn {x0:AV} {r:AV} {Ho:List Ob} (h:val_Str x0 [] (fun v H'=>Gives 0 v H' r Ho)):Abs.Fn Tryz.prog val_Str_i [] [x0] r Ho :=
 fn_intro mixed val_Str_ann (fn:=Tryz.f253) (by kernel_rfl) (by kernel_rfl) (by rw [val_Str_eq]; exact h)
def val_TypeOf (x0:AV) (H:List Ob) (K:AV→List Ob→Prop):Prop :=
 aBox x0 H fun v0 h1 =>
 aAlloc [(.p (.int .i64 0)),(.full [])] h1 fun v2 h3 =>
 aLoad true 5 v0 h3 fun v4 =>
 aCall Tryz.prog (.p (.func val_Check_i [])) [v4] h3 fun v5 h6 =>
 aBin false false .neq v5 (.p (.int .i64 0)) fun v7 =>
 aGuard v7
 (aBuild [(.p (.int .i64 0)),(.full [])] [] fun v8 =>
 aStore 2 v2 v8 h6 fun _ h10 =>
 aLoad true 2 v2 h10 fun v11 =>
 K v11 h10)
 (aLoad true 5 v0 h6 fun v12 =>
 aCall Tryz.prog (.p (.func val_kind_i [])) [v12] h6 fun v13 h14 =>
 aStore 2 v2 v13 h14 fun _ h16 =>
 aLoad true 2 v2 h16 fun v17 =>
 K v17 h16)
def val_TypeOf_ann:Nat→List Nat:=fun _=>[]
theorem val_TypeOf_eq (x0:AV) (H:List Ob) (r:AV) (Ho:List Ob):aBody Tryz.prog val_TypeOf_ann Tryz.f261 H [x0] r Ho = val_TypeOf x0 H (fun v H'=>Gives H.length v H' r Ho):=by kernel_rfl
theorem val_TypeOf_fn {x0:AV} {r:AV} {Ho:List Ob} (h:val_TypeOf x0 [] (fun v H'=>Gives 0 v H' r Ho)):Abs.Fn Tryz.prog val_TypeOf_i [] [x0] r Ho :=
 fn_intro mixed val_TypeOf_ann (fn:=Tryz.f261) (by kernel_rfl) (by kernel_rfl) (by rw [val_TypeOf_eq]; exact h)
end Go.Proofs.YtdmgbhamigegfaaGreatDoor
end

section
/- Made by program (Gen.lean): functions of the dump, over trees. -/
set_option maxRecDepth 4000
set_option linter.unusedVariables false
namespace Go.Proofs.YtdmgbhamigegfaaGreatDoor
open Go Go.Abs
def runnellaw4_Op (x0 x1:AV) (H:List Ob) (K:AV→List Ob→Prop):Prop :=
 aAlloc [(.p (.str [])),(.p (.int .i64 0)),(.p (.int .i64 0)),(.p (.bool false)),(.p (.str [])),(.full []),(.p (.int .i64 0)),(.full [])] H fun v0 h1 =>
 aBuild [(.p (.str [])),(.p (.int .i64 0)),(.p (.int .i64 0)),(.p (.bool false)),(.p (.str [])),(.full []),(.p (.int .i64 0)),(.full [])] [(0,1,x0),(7,1,x1)] fun v2 =>
 aStore 8 v0 v2 h1 fun _ h4 =>
 aLoad true 8 v0 h4 fun v5 =>
 K v5 h4
def runnellaw4_Op_ann:Nat→List Nat:=fun _=>[]
theorem runnellaw4_Op_eq (x0 x1:AV) (H:List Ob) (r:AV) (Ho:List Ob):aBody Tryz.prog runnellaw4_Op_ann Tryz.f10 H [x0,x1] r Ho = runnellaw4_Op x0 x1 H (fun v H'=>Gives H.length v H' r Ho):=by kernel_rfl
theorem runnellaw4_Op_fn {x0 x1:AV} {r:AV} {Ho:List Ob} (h:runnellaw4_Op x0 x1 [] (fun v H'=>Gives 0 v H' r Ho)):Abs.Fn Tryz.prog runnellaw4_Op_i [] [x0,x1] r Ho :=
 fn_intro mixed runnellaw4_Op_ann (fn:=Tryz.f10) (by kernel_rfl) (by kernel_rfl) (by rw [runnellaw4_Op_eq]; exact h)
def runnellaw4_Lit (x0:AV) (H:List Ob) (K:AV→List Ob→Prop):Prop :=
 aBox x0 H fun v0 h1 =>
 aAlloc [(.p (.str [])),(.p (.int .i64 0)),(.p (.int .i64 0)),(.p (.bool false)),(.p (.str [])),(.full []),(.p (.int .i64 0)),(.full [])] h1 fun v2 h3 =>
 aLoad true 5 v0 h3 fun v4 =>
 aBuild [(.p (.str [])),(.p (.int .i64 0)),(.p (.int .i64 0)),(.p (.bool false)),(.p (.str [])),(.full []),(.p (.int .i64 0)),(.full [])] [(0,1,(.p (.str [108,105,116]))),(1,5,v4)] fun v5 =>
 aStore 8 v2 v5 h3 fun _ h7 =>
 aLoad true 8 v2 h7 fun v8 =>
 K v8 h7
def runnellaw4_Lit_ann:Nat→List Nat:=fun _=>[]
theorem runnellaw4_Lit_eq (x0:AV) (H:List Ob) (r:AV) (Ho:List Ob):aBody Tryz.prog runnellaw4_Lit_ann Tryz.f11 H [x0] r Ho = runnellaw4_Lit x0 H (fun v H'=>Gives H.length v H' r Ho):=by kernel_rfl
theorem runnellaw4_Lit_fn {x0:AV} {r:AV} {Ho:List Ob} (h:runnellaw4_Lit x0 [] (fun v H'=>Gives 0 v H' r Ho)):Abs.Fn Tryz.prog runnellaw4_Lit_i [] [x0] r Ho :=
 fn_intro mixed runnellaw4_Lit_ann (fn:=Tryz.f11) (by kernel_rfl) (by kernel_rfl) (by rw [runnellaw4_Lit_eq]; exact h)
def runnellaw4_X (H:List Ob) (K:AV→List Ob→Prop):Prop :=
 aAlloc [(.p (.str [])),(.p (.int .i64 0)),(.p (.int .i64 0)),(.p (.bool false)),(.p (.str [])),(.full []),(.p (.int .i64 0)),(.full [])] H fun v0 h1 =>
 aBuild [(.p (.str [])),(.p (.int .i64 0)),(.p (.int .i64 0)),(.p (.bool false)),(.p (.str [])),(.full []),(.p (.int .i64 0)),(.full [])] [(0,1,(.p (.str [120])))] fun v2 =>
 aStore 8 v0 v2 h1 fun _ h4 =>
 aLoad true 8 v0 h4 fun v5 =>
 K v5 h4
def runnellaw4_X_ann:Nat→List Nat:=fun _=>[]
theorem runnellaw4_X_eq (H:List Ob) (r:AV) (Ho:List Ob):aBody Tryz.prog runnellaw4_X_ann Tryz.f13 H [] r Ho = runnellaw4_X H (fun v H'=>Gives H.length v H' r Ho):=by kernel_rfl
theorem runnellaw4_X_fn {r:AV} {Ho:List Ob} (h:runnellaw4_X [] (fun v H'=>Gives 0 v H' r Ho)):Abs.Fn Tryz.prog runnellaw4_X_i [] [] r Ho :=
 fn_intro mixed runnellaw4_X_ann (fn:=Tryz.f13) (by kernel_rfl) (by kernel_rfl) (by rw [runnellaw4_X_eq]; exact h)
def expr_Check (x0 x1:AV) (H:List Ob) (K:AV→List Ob→Prop):Prop :=
 aBox x0 H fun v0 h1 =>
 aBox x1 h1 fun v2 h3 =>
 aAlloc [(.p (.int .i64 0)),(.full [])] h3 fun v4 h5 =>
 aLoad true 2 v2 h5 fun v6 =>
 aCall Tryz.prog (.p (.func typ_Check_i [])) [v6] h5 fun v7 h8 =>
 aBin false false .neq v7 (.p (.int .i64 0)) fun v9 =>
 aGuard v9
 (aBuild [(.p (.int .i64 0)),(.full [])] [] fun v10 =>
 aStore 2 v4 v10 h8 fun _ h12 =>
 aLoad true 2 v4 h12 fun v13 =>
 K (.tup [v13,(.p (.int .i64 5))]) h12)
 (aLoad true 8 v0 h8 fun v14 =>
 aCall Tryz.prog (.p (.func expr_Size_i [])) [v14] h8 fun v15 h16 =>
 aBin false false .gtr v15 (.p (.int .i64 256)) fun v17 =>
 aGuard v17
 (aBuild [(.p (.int .i64 0)),(.full [])] [] fun v18 =>
 aStore 2 v4 v18 h16 fun _ h20 =>
 aLoad true 2 v4 h20 fun v21 =>
 K (.tup [v21,(.p (.int .i64 10))]) h20)
 (aLoad true 8 v0 h16 fun v22 =>
 aLoad true 2 v2 h16 fun v23 =>
 aCall Tryz.prog (.p (.func expr_check_i [])) [v22,v23,(.p (.int .i64 0))] h16 fun v24 h25 =>
 aExtract v24 0 fun v26 =>
 aExtract v24 1 fun v27 =>
 aStore 2 v4 v26 h25 fun _ h29 =>
 aLoad true 2 v4 h29 fun v30 =>
 K (.tup [v30,v27]) h29))
def expr_Check_ann:Nat→List Nat:=fun _=>[]
theorem expr_Check_eq (x0 x1:AV) (H:List Ob) (r:AV) (Ho:List Ob):aBody Tryz.prog expr_Check_ann Tryz.f163 H [x0,x1] r Ho = expr_Check x0 x1 H (fun v H'=>Gives H.length v H' r Ho):=by kernel_rfl
theorem expr_Check_fn {x0 x1:AV} {r:AV} {Ho:List Ob} (h:expr_Check x0 x1 [] (fun v H'=>Gives 0 v H' r Ho)):Abs.Fn Tryz.prog expr_Check_i [] [x0,x1] r Ho :=
 fn_intro mixed expr_Check_ann (fn:=Tryz.f163) (by kernel_rfl) (by kernel_rfl) (by rw [expr_Check_eq]; exact h)
def expr_Size_L1 (q1s7 q1s8 y0 y1:AV) (H:List Ob) (B1:List AV→List Ob→Prop) (K:AV→List Ob→Prop):Prop :=
 aBin false false .lss y1 q1s8 fun v5 =>
 aGuard v5
 (aIndexAddr 8 q1s7 y1 fun v6 =>
 aLoad true 8 v6 H fun v7 =>
 aAlloc [(.p (.str [])),(.p (.int .i64 0)),(.p (.int .i64 0)),(.p (.bool false)),(.p (.str [])),(.full []),(.p (.int .i64 0)),(.full [])] H fun v8 h9 =>
 aStore 8 v8 v7 h9 fun _ h11 =>
 aLoad true 8 v8 h11 fun v12 =>
 aCall Tryz.prog (.p (.func expr_Size_i [])) [v12] h11 fun v13 h14 =>
 aBin false false .add y0 v13 fun v15 =>
 aBin false false .add y1 (.p (.int .i64 1)) fun v16 =>
 B1 [v15,v16] h14)
 (K y0 H)
def expr_Size (x0:AV) (H:List Ob) (K:AV→List Ob→Prop):Prop :=
 aBox x0 H fun v0 h1 =>
 aFieldAddr 7 v0 fun v2 =>
 aLoad false 1 v2 h1 fun v3 =>
 aLen false false v3 fun v4 =>
 aLoopN 2 [(.p (.int .i64 1)),(.p (.int .i64 0))] h1 fun xs H B1=>expr_Size_L1 v3 v4 (xs.getD 0 .top) (xs.getD 1 .top) H B1 K
def expr_Size_ann:Nat→List Nat:=fun k=>match k with | 3=>[3,9] | _=>[]
theorem expr_Size_eq (x0:AV) (H:List Ob) (r:AV) (Ho:List Ob):aBody Tryz.prog expr_Size_ann Tryz.f191 H [x0] r Ho = expr_Size x0 H (fun v H'=>Gives H.length v H' r Ho):=by kernel_rfl
theorem expr_Size_fn {x0:AV} {r:AV} {Ho:List Ob} (h:expr_Size x0 [] (fun v H'=>Gives 0 v H' r Ho)):Abs.Fn Tryz.prog expr_Size_i [] [x0] r Ho :=
 fn_intro mixed expr_Size_ann (fn:=Tryz.f191) (by kernel_rfl) (by kernel_rfl) (by rw [expr_Size_eq]; exact h)
def expr_check_L1 (q1s2 q1s3 q1s4 q1s6 q1s8 q1s49 q1s50 y0 y1:AV) (H:List Ob) (B1:List AV→List Ob→Prop) (K:AV→List Ob→Prop):Prop :=
 aBin false false .lss y1 q1s50 fun v19 =>
 aGuard v19
 (aIndexAddr 8 q1s49 y1 fun v20 =>
 aLoad true 8 v20 H fun v21 =>
 aAlloc [(.p (.str [])),(.p (.int .i64 0)),(.p (.int .i64 0)),(.p (.bool false)),(.p (.str [])),(.full []),(.p (.int .i64 0)),(.full [])] H fun v22 h23 =>
 aStore 8 v22 v21 h23 fun _ h25 =>
 aLoad true 8 v22 h25 fun v26 =>
 aLoad true 2 q1s4 h25 fun v27 =>
 aBin false false .add q1s2 (.p (.int .i64 1)) fun v28 =>
 aCall Tryz.prog (.p (.func expr_check_i [])) [v26,v27,v28] h25 fun v29 h30 =>
 aExtract v29 0 fun v31 =>
 aExtract v29 1 fun v32 =>
 aAlloc [(.p (.int .i64 0)),(.full [])] h30 fun v33 h34 =>
 aStore 2 v33 v31 h34 fun _ h36 =>
 aBin false false .neq v32 (.p (.int .i64 0)) fun v37 =>
 aGuard v37
 (aBuild [(.p (.int .i64 0)),(.full [])] [] fun v38 =>
 aStore 2 q1s6 v38 h36 fun _ h40 =>
 aLoad true 2 q1s6 h40 fun v41 =>
 K (.tup [v41,v32]) h40)
 (aLoad true 2 v33 h36 fun v42 =>
 aBuildSlice 2 [v42] fun v43 =>
 aAppend false 2 32 y0 v43 h36 fun v44 h45 =>
 aBin false false .add y1 (.p (.int .i64 1)) fun v46 =>
 B1 [v44,v46] h45))
 (aLoad true 5 q1s8 H fun v47 =>
 aCall Tryz.prog (.p (.func expr_fits_i [])) [v47,y0] H fun v48 h49 =>
 aUn .not v48 fun v50 =>
 aGuard v50
 (aBuild [(.p (.int .i64 0)),(.full [])] [] fun v51 =>
 aStore 2 q1s6 v51 h49 fun _ h53 =>
 aLoad true 2 q1s6 h53 fun v54 =>
 K (.tup [v54,(.p (.int .i64 5))]) h53)
 (aLoad true 8 q1s3 h49 fun v55 =>
 aLoad true 5 q1s8 h49 fun v56 =>
 aCallT Tryz.prog (.p (.func slices_Clip_typ_Type_typ_Type_i [])) [y0] fun v57 =>
 aLoad true 2 q1s4 h49 fun v58 =>
 aCallT Tryz.prog (.p (.func expr_Expr_comes_i [])) [v55,v56,v57,v58] fun v59 =>
 aExtract v59 0 fun v60 =>
 aExtract v59 1 fun v61 =>
 aStore 2 q1s6 v60 h49 fun _ h63 =>
 aLoad true 2 q1s6 h63 fun v64 =>
 K (.tup [v64,v61]) h63))
def expr_check_J1 (j1s2 j1s3 j1s4 j1s6 j1s8:AV) (H:List Ob) (K:AV→List Ob→Prop):Prop :=
 aFieldAddr 7 j1s3 fun v16 =>
 aLoad false 1 v16 H fun v17 =>
 aLen false false v17 fun v18 =>
 aLoopN 2 [(.full []),(.p (.int .i64 0))] H fun xs H B1=>expr_check_L1 j1s2 j1s3 j1s4 j1s6 j1s8 v17 v18 (xs.getD 0 .top) (xs.getD 1 .top) H B1 K
def expr_check (x0 x1 x2:AV) (H:List Ob) (K:AV→List Ob→Prop):Prop :=
 aBox x0 H fun v0 h1 =>
 aBox x1 h1 fun v2 h3 =>
 aAlloc [(.p (.int .i64 0)),(.full [])] h3 fun v4 h5 =>
 aAlloc [(.p (.int .i64 0)),(.p (.int .i64 0)),(.full []),(.p (.bool false)),(.p (.int .i64 0))] h5 fun v6 h7 =>
 aCallT Tryz.prog (.p (.func expr_shapes_i [])) [] fun v8 =>
 aFieldAddr 0 v0 fun v9 =>
 aLoad false 1 v9 h7 fun v10 =>
 aCallT Tryz.prog (.p (.func expr_find_string_expr_shape_i [])) [v8,v10] fun v11 =>
 aExtract v11 0 fun v12 =>
 aExtract v11 1 fun v13 =>
 aStore 5 v6 v12 h7 fun _ h15 =>
 aUn .not v13 fun v65 =>
 aGuard v65
 (aBuild [(.p (.int .i64 0)),(.full [])] [] fun v66 =>
 aStore 2 v4 v66 h15 fun _ h68 =>
 aLoad true 2 v4 h68 fun v69 =>
 K (.tup [v69,(.p (.int .i64 6))]) h68)
 (aBin false false .gtr x2 (.p (.int .i64 12)) fun v70 =>
 aGuard v70
 (aBuild [(.p (.int .i64 0)),(.full [])] [] fun v71 =>
 aStore 2 v4 v71 h15 fun _ h73 =>
 aLoad true 2 v4 h73 fun v74 =>
 K (.tup [v74,(.p (.int .i64 9))]) h73)
 (aLoad true 8 v0 h15 fun v75 =>
 aLoad true 5 v6 h15 fun v76 =>
 aCall Tryz.prog (.p (.func expr_Expr_fields_i [])) [v75,v76] h15 fun v77 h78 =>
 aUn .not v77 fun v79 =>
 aGuard v79
 (aBuild [(.p (.int .i64 0)),(.full [])] [] fun v80 =>
 aStore 2 v4 v80 h78 fun _ h82 =>
 aLoad true 2 v4 h82 fun v83 =>
 K (.tup [v83,(.p (.int .i64 1))]) h82)
 (aFieldAddr 0 v0 fun v84 =>
 aLoad false 1 v84 h78 fun v85 =>
 aBin false false .eql v85 (.p (.str [108,105,116])) fun v86 =>
 aGuard v86
 (aFieldAddr 1 v0 fun v87 =>
 aLoad true 5 v87 h78 fun v88 =>
 aCall Tryz.prog (.p (.func val_Check_i [])) [v88] h78 fun v89 h90 =>
 aBin false false .neq v89 (.p (.int .i64 0)) fun v91 =>
 aGuard v91
 (aBuild [(.p (.int .i64 0)),(.full [])] [] fun v92 =>
 aStore 2 v4 v92 h90 fun _ h94 =>
 aLoad true 2 v4 h94 fun v95 =>
 K (.tup [v95,v89]) h94)
 (expr_check_J1 x2 v0 v2 v4 v6 h90 K))
 (expr_check_J1 x2 v0 v2 v4 v6 h78 K))))
def expr_check_ann:Nat→List Nat:=fun k=>match k with | 14=>[11,51] | _=>[]
theorem expr_check_eq (x0 x1 x2:AV) (H:List Ob) (r:AV) (Ho:List Ob):aBody Tryz.prog expr_check_ann Tryz.f192 H [x0,x1,x2] r Ho = expr_check x0 x1 x2 H (fun v H'=>Gives H.length v H' r Ho):=by kernel_rfl
theorem expr_check_fn {x0 x1 x2:AV} {r:AV} {Ho:List Ob} (h:expr_check x0 x1 x2 [] (fun v H'=>Gives 0 v H' r Ho)):Abs.Fn Tryz.prog expr_check_i [] [x0,x1,x2] r Ho :=
 fn_intro mixed expr_check_ann (fn:=Tryz.f192) (by kernel_rfl) (by kernel_rfl) (by rw [expr_check_eq]; exact h)
def expr_find_string_expr_shape_L1 (q1s1 q1s4 q1s9 q1s10 y0:AV) (H:List Ob) (B1:List AV→List Ob→Prop) (K:AV→List Ob→Prop):Prop :=
 aBin false false .lss y0 q1s10 fun v3 =>
 aGuard v3
 (aIndexAddr 6 q1s9 y0 fun v4 =>
 aLoad true 6 v4 H fun v5 =>
 aAlloc [(.p (.str [])),(.p (.int .i64 0)),(.p (.int .i64 0)),(.full []),(.p (.bool false)),(.p (.int .i64 0))] H fun v6 h7 =>
 aStore 6 v6 v5 h7 fun _ h9 =>
 aFieldAddr 0 v6 fun v10 =>
 aLoad false 1 v10 h9 fun v11 =>
 aBin false false .eql v11 q1s1 fun v12 =>
 aGuard v12
 (aFieldAddr 1 v6 fun v13 =>
 aLoad true 5 v13 h9 fun v14 =>
 aStore 5 q1s4 v14 h9 fun _ h16 =>
 aLoad true 5 q1s4 h16 fun v17 =>
 K (.tup [v17,(.p (.bool true))]) h16)
 (aBin false false .add y0 (.p (.int .i64 1)) fun v18 =>
 B1 [v18] h9))
 (aAlloc [(.p (.int .i64 0)),(.p (.int .i64 0)),(.full []),(.p (.bool false)),(.p (.int .i64 0))] H fun v19 h20 =>
 aLoad true 5 v19 h20 fun v21 =>
 aStore 5 q1s4 v21 h20 fun _ h23 =>
 aLoad true 5 q1s4 h23 fun v24 =>
 K (.tup [v24,(.p (.bool false))]) h23)
def expr_find_string_expr_shape (x0 x1:AV) (H:List Ob) (K:AV→List Ob→Prop):Prop :=
 aAlloc [(.p (.int .i64 0)),(.p (.int .i64 0)),(.full []),(.p (.bool false)),(.p (.int .i64 0))] H fun v0 h1 =>
 aLen false false x0 fun v2 =>
 aLoopN 1 [(.p (.int .i64 0))] h1 fun xs H B1=>expr_find_string_expr_shape_L1 x1 v0 x0 v2 (xs.getD 0 .top) H B1 K
def expr_find_string_expr_shape_ann:Nat→List Nat:=fun k=>match k with | 2=>[11] | _=>[]
theorem expr_find_string_expr_shape_eq (x0 x1:AV) (H:List Ob) (r:AV) (Ho:List Ob):aBody Tryz.prog expr_find_string_expr_shape_ann Tryz.f235 H [x0,x1] r Ho = expr_find_string_expr_shape x0 x1 H (fun v H'=>Gives H.length v H' r Ho):=by kernel_rfl
theorem expr_find_string_expr_shape_fn {x0 x1:AV} {r:AV} {Ho:List Ob} (h:expr_find_string_expr_shape x0 x1 [] (fun v H'=>Gives 0 v H' r Ho)):Abs.Fn Tryz.prog expr_find_string_expr_shape_i [] [x0,x1] r Ho :=
 fn_intro mixed expr_find_string_expr_shape_ann (fn:=Tryz.f235) (by kernel_rfl) (by kernel_rfl) (by rw [expr_find_string_expr_shape_eq]; exact h)
def expr_shapes (H:List Ob) (K:AV→List Ob→Prop):Prop :=
 aBuildSlice 1 [(.p (.int .i64 1)),(.p (.int .i64 1))] fun v0 =>
 aBuild [(.p (.int .i64 0)),(.p (.int .i64 0)),(.full []),(.p (.bool false)),(.p (.int .i64 0))] [(0,1,(.p (.int .i64 2))),(1,1,(.p (.int .i64 2))),(2,1,v0),(3,1,(.p (.bool false))),(4,1,(.p (.int .i64 1)))] fun v1 =>
 aAlloc [(.p (.int .i64 0)),(.p (.int .i64 0)),(.full []),(.p (.bool false)),(.p (.int .i64 0))] H fun v2 h3 =>
 aStore 5 v2 v1 h3 fun _ h5 =>
 aBuildSlice 1 [(.p (.int .i64 0)),(.p (.int .i64 0))] fun v6 =>
 aBuild [(.p (.int .i64 0)),(.p (.int .i64 0)),(.full []),(.p (.bool false)),(.p (.int .i64 0))] [(0,1,(.p (.int .i64 2))),(1,1,(.p (.int .i64 2))),(2,1,v6),(3,1,(.p (.bool true))),(4,1,(.p (.int .i64 2)))] fun v7 =>
 aAlloc [(.p (.int .i64 0)),(.p (.int .i64 0)),(.full []),(.p (.bool false)),(.p (.int .i64 0))] h5 fun v8 h9 =>
 aStore 5 v8 v7 h9 fun _ h11 =>
 aBuildSlice 1 [(.p (.int .i64 2)),(.p (.int .i64 2))] fun v12 =>
 aBuild [(.p (.int .i64 0)),(.p (.int .i64 0)),(.full []),(.p (.bool false)),(.p (.int .i64 0))] [(0,1,(.p (.int .i64 2))),(1,1,(.p (.int .i64 2))),(2,1,v12),(3,1,(.p (.bool false))),(4,1,(.p (.int .i64 2)))] fun v13 =>
 aAlloc [(.p (.int .i64 0)),(.p (.int .i64 0)),(.full []),(.p (.bool false)),(.p (.int .i64 0))] h11 fun v14 h15 =>
 aStore 5 v14 v13 h15 fun _ h17 =>
 aBuild [(.p (.int .i64 0)),(.p (.int .i64 0)),(.full []),(.p (.bool false)),(.p (.int .i64 0))] [] fun v18 =>
 aBuild [(.p (.str [])),(.p (.int .i64 0)),(.p (.int .i64 0)),(.full []),(.p (.bool false)),(.p (.int .i64 0))] [(0,1,(.p (.str [108,105,116]))),(1,5,v18)] fun v19 =>
 aBuild [(.p (.int .i64 0)),(.p (.int .i64 0)),(.full []),(.p (.bool false)),(.p (.int .i64 0))] [] fun v20 =>
 aBuild [(.p (.str [])),(.p (.int .i64 0)),(.p (.int .i64 0)),(.full []),(.p (.bool false)),(.p (.int .i64 0))] [(0,1,(.p (.str [120]))),(1,5,v20)] fun v21 =>
 aBuildSlice 1 [(.p (.int .i64 4))] fun v22 =>
 aBuild [(.p (.int .i64 0)),(.p (.int .i64 0)),(.full []),(.p (.bool false)),(.p (.int .i64 0))] [(0,1,(.p (.int .i64 1))),(1,1,(.p (.int .i64 1))),(2,1,v22),(3,1,(.p (.bool false))),(4,1,(.p (.int .i64 0)))] fun v23 =>
 aBuild [(.p (.str [])),(.p (.int .i64 0)),(.p (.int .i64 0)),(.full []),(.p (.bool false)),(.p (.int .i64 0))] [(0,1,(.p (.str [97,116]))),(1,5,v23)] fun v24 =>
 aBuild [(.p (.int .i64 0)),(.p (.int .i64 0)),(.full []),(.p (.bool false)),(.p (.int .i64 0))] [(0,1,(.p (.int .i64 1))),(1,1,(.p (.int .i64 8))),(2,1,(.full [])),(3,1,(.p (.bool false))),(4,1,(.p (.int .i64 4)))] fun v25 =>
 aBuild [(.p (.str [])),(.p (.int .i64 0)),(.p (.int .i64 0)),(.full []),(.p (.bool false)),(.p (.int .i64 0))] [(0,1,(.p (.str [116,117,112]))),(1,5,v25)] fun v26 =>
 aBuildSlice 1 [(.p (.int .i64 1))] fun v27 =>
 aBuild [(.p (.int .i64 0)),(.p (.int .i64 0)),(.full []),(.p (.bool false)),(.p (.int .i64 0))] [(0,1,(.p (.int .i64 1))),(1,1,(.p (.int .i64 1))),(2,1,v27),(3,1,(.p (.bool false))),(4,1,(.p (.int .i64 1)))] fun v28 =>
 aBuild [(.p (.str [])),(.p (.int .i64 0)),(.p (.int .i64 0)),(.full []),(.p (.bool false)),(.p (.int .i64 0))] [(0,1,(.p (.str [110,101,103]))),(1,5,v28)] fun v29 =>
 aBuildSlice 1 [(.p (.int .i64 2))] fun v30 =>
 aBuild [(.p (.int .i64 0)),(.p (.int .i64 0)),(.full []),(.p (.bool false)),(.p (.int .i64 0))] [(0,1,(.p (.int .i64 1))),(1,1,(.p (.int .i64 1))),(2,1,v30),(3,1,(.p (.bool false))),(4,1,(.p (.int .i64 2)))] fun v31 =>
 aBuild [(.p (.str [])),(.p (.int .i64 0)),(.p (.int .i64 0)),(.full []),(.p (.bool false)),(.p (.int .i64 0))] [(0,1,(.p (.str [110,111,116]))),(1,5,v31)] fun v32 =>
 aBuildSlice 1 [(.p (.int .i64 3))] fun v33 =>
 aBuild [(.p (.int .i64 0)),(.p (.int .i64 0)),(.full []),(.p (.bool false)),(.p (.int .i64 0))] [(0,1,(.p (.int .i64 1))),(1,1,(.p (.int .i64 1))),(2,1,v33),(3,1,(.p (.bool false))),(4,1,(.p (.int .i64 1)))] fun v34 =>
 aBuild [(.p (.str [])),(.p (.int .i64 0)),(.p (.int .i64 0)),(.full []),(.p (.bool false)),(.p (.int .i64 0))] [(0,1,(.p (.str [108,101,110]))),(1,5,v34)] fun v35 =>
 aLoad true 5 v2 h17 fun v36 =>
 aBuild [(.p (.str [])),(.p (.int .i64 0)),(.p (.int .i64 0)),(.full []),(.p (.bool false)),(.p (.int .i64 0))] [(0,1,(.p (.str [97,100,100]))),(1,5,v36)] fun v37 =>
 aLoad true 5 v2 h17 fun v38 =>
 aBuild [(.p (.str [])),(.p (.int .i64 0)),(.p (.int .i64 0)),(.full []),(.p (.bool false)),(.p (.int .i64 0))] [(0,1,(.p (.str [115,117,98]))),(1,5,v38)] fun v39 =>
 aLoad true 5 v2 h17 fun v40 =>
 aBuild [(.p (.str [])),(.p (.int .i64 0)),(.p (.int .i64 0)),(.full []),(.p (.bool false)),(.p (.int .i64 0))] [(0,1,(.p (.str [109,117,108]))),(1,5,v40)] fun v41 =>
 aLoad true 5 v2 h17 fun v42 =>
 aBuild [(.p (.str [])),(.p (.int .i64 0)),(.p (.int .i64 0)),(.full []),(.p (.bool false)),(.p (.int .i64 0))] [(0,1,(.p (.str [100,105,118]))),(1,5,v42)] fun v43 =>
 aLoad true 5 v2 h17 fun v44 =>
 aBuild [(.p (.str [])),(.p (.int .i64 0)),(.p (.int .i64 0)),(.full []),(.p (.bool false)),(.p (.int .i64 0))] [(0,1,(.p (.str [114,101,109]))),(1,5,v44)] fun v45 =>
 aLoad true 5 v8 h17 fun v46 =>
 aBuild [(.p (.str [])),(.p (.int .i64 0)),(.p (.int .i64 0)),(.full []),(.p (.bool false)),(.p (.int .i64 0))] [(0,1,(.p (.str [101,113]))),(1,5,v46)] fun v47 =>
 aLoad true 5 v8 h17 fun v48 =>
 aBuild [(.p (.str [])),(.p (.int .i64 0)),(.p (.int .i64 0)),(.full []),(.p (.bool false)),(.p (.int .i64 0))] [(0,1,(.p (.str [108,116]))),(1,5,v48)] fun v49 =>
 aLoad true 5 v14 h17 fun v50 =>
 aBuild [(.p (.str [])),(.p (.int .i64 0)),(.p (.int .i64 0)),(.full []),(.p (.bool false)),(.p (.int .i64 0))] [(0,1,(.p (.str [97,110,100]))),(1,5,v50)] fun v51 =>
 aLoad true 5 v14 h17 fun v52 =>
 aBuild [(.p (.str [])),(.p (.int .i64 0)),(.p (.int .i64 0)),(.full []),(.p (.bool false)),(.p (.int .i64 0))] [(0,1,(.p (.str [111,114]))),(1,5,v52)] fun v53 =>
 aBuildSlice 1 [(.p (.int .i64 3)),(.p (.int .i64 3))] fun v54 =>
 aBuild [(.p (.int .i64 0)),(.p (.int .i64 0)),(.full []),(.p (.bool false)),(.p (.int .i64 0))] [(0,1,(.p (.int .i64 2))),(1,1,(.p (.int .i64 2))),(2,1,v54),(3,1,(.p (.bool false))),(4,1,(.p (.int .i64 3)))] fun v55 =>
 aBuild [(.p (.str [])),(.p (.int .i64 0)),(.p (.int .i64 0)),(.full []),(.p (.bool false)),(.p (.int .i64 0))] [(0,1,(.p (.str [99,97,116]))),(1,5,v55)] fun v56 =>
 aBuildSlice 1 [(.p (.int .i64 2)),(.p (.int .i64 0)),(.p (.int .i64 0))] fun v57 =>
 aBuild [(.p (.int .i64 0)),(.p (.int .i64 0)),(.full []),(.p (.bool false)),(.p (.int .i64 0))] [(0,1,(.p (.int .i64 3))),(1,1,(.p (.int .i64 3))),(2,1,v57),(3,1,(.p (.bool true))),(4,1,(.p (.int .i64 0)))] fun v58 =>
 aBuild [(.p (.str [])),(.p (.int .i64 0)),(.p (.int .i64 0)),(.full []),(.p (.bool false)),(.p (.int .i64 0))] [(0,1,(.p (.str [105,102]))),(1,5,v58)] fun v59 =>
 aBuildSlice 6 [v19,v21,v24,v26,v29,v32,v35,v37,v39,v41,v43,v45,v47,v49,v51,v53,v56,v59] fun v60 =>
 K v60 h17
def expr_shapes_ann:Nat→List Nat:=fun _=>[]
theorem expr_shapes_eq (H:List Ob) (r:AV) (Ho:List Ob):aBody Tryz.prog expr_shapes_ann Tryz.f236 H [] r Ho = expr_shapes H (fun v H'=>Gives H.length v H' r Ho):=by kernel_rfl
theorem expr_shapes_fn {r:AV} {Ho:List Ob} (h:expr_shapes [] (fun v H'=>Gives 0 v H' r Ho)):Abs.Fn Tryz.prog expr_shapes_i [] [] r Ho :=
 fn_intro mixed expr_shapes_ann (fn:=Tryz.f236) (by kernel_rfl) (by kernel_rfl) (by rw [expr_shapes_eq]; exact h)
def expr_Expr_fields (x0 x1:AV) (H:List Ob) (K:AV→List Ob→Prop):Prop :=
 aBox x0 H fun v0 h1 =>
 aBox x1 h1 fun v2 h3 =>
 aFieldAddr 7 v0 fun v4 =>
 aLoad false 1 v4 h3 fun v5 =>
 aLen false false v5 fun v6 =>
 aFieldAddr 0 v2 fun v7 =>
 aLoad false 1 v7 h3 fun v8 =>
 aBin false false .geq v6 v8 fun v9 =>
 aMerge true v9 (fun Q10 =>
 aFieldAddr 7 v0 fun v11 =>
 aLoad false 1 v11 h3 fun v12 =>
 aLenS false v12 fun v13 =>
 aFieldAddr 1 v2 fun v14 =>
 aLoad false 1 v14 h3 fun v15 =>
 aBin false false .leq v13 v15 fun v16 =>
 (h3 = h3 ∧ Q10 v16)) fun v17 =>
 aMerge true v17 (fun Q18 =>
 aFieldAddr 0 v0 fun v19 =>
 aLoad false 1 v19 h3 fun v20 =>
 aBin false false .eql v20 (.p (.str [108,105,116])) fun v21 =>
 aMerge false v21 (fun Q22 =>
 aFieldAddr 1 v0 fun v23 =>
 aLoad true 5 v23 h3 fun v24 =>
 aCall Tryz.prog (.p (.func expr_none_i [])) [v24] h3 fun v25 h26 =>
 (h26 = h3 ∧ Q22 v25)) fun v27 =>
 (h3 = h3 ∧ Q18 v27)) fun v28 =>
 aMerge true v28 (fun Q29 =>
 aFieldAddr 0 v0 fun v30 =>
 aLoad false 1 v30 h3 fun v31 =>
 aBin false false .eql v31 (.p (.str [97,116])) fun v32 =>
 aMerge false v32 (fun Q33 =>
 aFieldAddr 6 v0 fun v34 =>
 aLoad false 1 v34 h3 fun v35 =>
 aBin false false .eql v35 (.p (.int .i64 0)) fun v36 =>
 (h3 = h3 ∧ Q33 v36)) fun v37 =>
 (h3 = h3 ∧ Q29 v37)) fun v38 =>
 K v38 h3
def expr_Expr_fields_ann:Nat→List Nat:=fun _=>[]
theorem expr_Expr_fields_eq (x0 x1:AV) (H:List Ob) (r:AV) (Ho:List Ob):aBody Tryz.prog expr_Expr_fields_ann Tryz.f237 H [x0,x1] r Ho = expr_Expr_fields x0 x1 H (fun v H'=>Gives H.length v H' r Ho):=by kernel_rfl
theorem expr_Expr_fields_fn {x0 x1:AV} {r:AV} {Ho:List Ob} (h:expr_Expr_fields x0 x1 [] (fun v H'=>Gives 0 v H' r Ho)):Abs.Fn Tryz.prog expr_Expr_fields_i [] [x0,x1] r Ho :=
 fn_intro mixed expr_Expr_fields_ann (fn:=Tryz.f237) (by kernel_rfl) (by kernel_rfl) (by rw [expr_Expr_fields_eq]; exact h)
def expr_fits_L1 (q1s1 q1s2 q1s8 q1s9 y0:AV) (H:List Ob) (B1:List AV→List Ob→Prop) (K:AV→List Ob→Prop):Prop :=
 aBin false false .lss y0 q1s9 fun v5 =>
 aGuard v5
 (aIndexAddr 1 q1s8 y0 fun v6 =>
 aLoad false 1 v6 H fun v7 =>
 aBin false false .neq v7 (.p (.int .i64 0)) fun v8 =>
 aMerge true v8 (fun Q9 =>
 aIndexAddr 2 q1s1 y0 fun v10 =>
 aFieldAddr 0 v10 fun v11 =>
 aLoad false 1 v11 H fun v12 =>
 aBin false false .neq v12 v7 fun v13 =>
 (H = H ∧ Q9 v13)) fun v14 =>
 aGuard v14
 (K (.p (.bool false)) H)
 (aBin false false .add y0 (.p (.int .i64 1)) fun v15 =>
 B1 [v15] H))
 (aFieldAddr 3 q1s2 fun v16 =>
 aLoad false 1 v16 H fun v17 =>
 aUn .not v17 fun v18 =>
 aGuard v18
 (K (.p (.bool true)) H)
 (aLen true false q1s1 fun v19 =>
 aBin false false .sub v19 (.p (.int .i64 1)) fun v20 =>
 aIndexAddr 2 q1s1 v20 fun v21 =>
 aLoad true 2 v21 H fun v22 =>
 aLen true false q1s1 fun v23 =>
 aBin false false .sub v23 (.p (.int .i64 2)) fun v24 =>
 aIndexAddr 2 q1s1 v24 fun v25 =>
 aLoad true 2 v25 H fun v26 =>
 aCallT Tryz.prog (.p (.func typ_Same_i [])) [v22,v26] fun v27 =>
 K v27 H))
def expr_fits (x0 x1:AV) (H:List Ob) (K:AV→List Ob→Prop):Prop :=
 aBox x0 H fun v0 h1 =>
 aFieldAddr 2 v0 fun v2 =>
 aLoad false 1 v2 h1 fun v3 =>
 aLen false false v3 fun v4 =>
 aLoopN 1 [(.p (.int .i64 0))] h1 fun xs H B1=>expr_fits_L1 x1 v0 v3 v4 (xs.getD 0 .top) H B1 K
def expr_fits_ann:Nat→List Nat:=fun k=>match k with | 2=>[10] | _=>[]
theorem expr_fits_eq (x0 x1:AV) (H:List Ob) (r:AV) (Ho:List Ob):aBody Tryz.prog expr_fits_ann Tryz.f238 H [x0,x1] r Ho = expr_fits x0 x1 H (fun v H'=>Gives H.length v H' r Ho):=by kernel_rfl
theorem expr_fits_fn {x0 x1:AV} {r:AV} {Ho:List Ob} (h:expr_fits x0 x1 [] (fun v H'=>Gives 0 v H' r Ho)):Abs.Fn Tryz.prog expr_fits_i [] [x0,x1] r Ho :=
 fn_intro mixed expr_fits_ann (fn:=Tryz.f238) (by kernel_rfl) (by kernel_rfl) (by rw [expr_fits_eq]; exact h)
def expr_Expr_comes (x0 x1 x2 x3:AV) (H:List Ob) (K:AV→List Ob→Prop):Prop :=
 aBox x0 H fun v0 h1 =>
 aBox x1 h1 fun v2 h3 =>
 aBox x3 h3 fun v4 h5 =>
 aAlloc [(.p (.int .i64 0)),(.full [])] h5 fun v6 h7 =>
 aFieldAddr 0 v0 fun v8 =>
 aLoad false 1 v8 h7 fun v9 =>
 aBin false false .eql v9 (.p (.str [108,105,116])) fun v10 =>
 aGuard v10
 (aFieldAddr 1 v0 fun v11 =>
 aLoad true 5 v11 h7 fun v12 =>
 aCall Tryz.prog (.p (.func val_TypeOf_i [])) [v12] h7 fun v13 h14 =>
 aStore 2 v6 v13 h14 fun _ h16 =>
 aLoad true 2 v6 h16 fun v17 =>
 K (.tup [v17,(.p (.int .i64 0))]) h16)
 (aBin false false .eql v9 (.p (.str [120])) fun v18 =>
 aGuard v18
 (aLoad true 2 v4 h7 fun v19 =>
 aStore 2 v6 v19 h7 fun _ h21 =>
 aLoad true 2 v6 h21 fun v22 =>
 K (.tup [v22,(.p (.int .i64 0))]) h21)
 (aBin false false .eql v9 (.p (.str [97,116])) fun v23 =>
 aGuard v23
 (aFieldAddr 6 v0 fun v24 =>
 aLoad false 1 v24 h7 fun v25 =>
 aBin false false .lss v25 (.p (.int .i64 0)) fun v26 =>
 aGuard v26
 (aBuild [(.p (.int .i64 0)),(.full [])] [] fun v27 =>
 aStore 2 v6 v27 h7 fun _ h29 =>
 aLoad true 2 v6 h29 fun v30 =>
 K (.tup [v30,(.p (.int .i64 1))]) h29)
 (aFieldAddr 6 v0 fun v31 =>
 aLoad false 1 v31 h7 fun v32 =>
 aIndexAddr 2 x2 (.p (.int .i64 0)) fun v33 =>
 aFieldAddr 1 v33 fun v34 =>
 aLoad false 1 v34 h7 fun v35 =>
 aLen true false v35 fun v36 =>
 aBin false false .geq v32 v36 fun v37 =>
 aGuard v37
 (aBuild [(.p (.int .i64 0)),(.full [])] [] fun v38 =>
 aStore 2 v6 v38 h7 fun _ h40 =>
 aLoad true 2 v6 h40 fun v41 =>
 K (.tup [v41,(.p (.int .i64 1))]) h40)
 (aIndexAddr 2 x2 (.p (.int .i64 0)) fun v42 =>
 aFieldAddr 1 v42 fun v43 =>
 aLoad false 1 v43 h7 fun v44 =>
 aFieldAddr 6 v0 fun v45 =>
 aLoad false 1 v45 h7 fun v46 =>
 aIndexAddr 2 v44 v46 fun v47 =>
 aLoad true 2 v47 h7 fun v48 =>
 aStore 2 v6 v48 h7 fun _ h50 =>
 aLoad true 2 v6 h50 fun v51 =>
 K (.tup [v51,(.p (.int .i64 0))]) h50)))
 (aBin false false .eql v9 (.p (.str [116,117,112])) fun v52 =>
 aGuard v52
 (aBuild [(.p (.int .i64 0)),(.full [])] [(0,1,(.p (.int .i64 4))),(1,1,x2)] fun v53 =>
 aAlloc [(.p (.int .i64 0)),(.full [])] h7 fun v54 h55 =>
 aStore 2 v54 v53 h55 fun _ h57 =>
 aLoad true 2 v54 h57 fun v58 =>
 aCall Tryz.prog (.p (.func typ_Check_i [])) [v58] h57 fun v59 h60 =>
 aBin false false .neq v59 (.p (.int .i64 0)) fun v61 =>
 aGuard v61
 (aBuild [(.p (.int .i64 0)),(.full [])] [] fun v62 =>
 aStore 2 v6 v62 h60 fun _ h64 =>
 aLoad true 2 v6 h64 fun v65 =>
 K (.tup [v65,v59]) h64)
 (aLoad true 2 v54 h60 fun v66 =>
 aStore 2 v6 v66 h60 fun _ h68 =>
 aLoad true 2 v6 h68 fun v69 =>
 K (.tup [v69,(.p (.int .i64 0))]) h68))
 (aBin false false .eql v9 (.p (.str [105,102])) fun v70 =>
 aGuard v70
 (aIndexAddr 2 x2 (.p (.int .i64 1)) fun v71 =>
 aLoad true 2 v71 h7 fun v72 =>
 aStore 2 v6 v72 h7 fun _ h74 =>
 aLoad true 2 v6 h74 fun v75 =>
 K (.tup [v75,(.p (.int .i64 0))]) h74)
 (aFieldAddr 4 v2 fun v76 =>
 aLoad false 1 v76 h7 fun v77 =>
 aBuild [(.p (.int .i64 0)),(.full [])] [(0,1,v77)] fun v78 =>
 aStore 2 v6 v78 h7 fun _ h80 =>
 aLoad true 2 v6 h80 fun v81 =>
 K (.tup [v81,(.p (.int .i64 0))]) h80)))))
def expr_Expr_comes_ann:Nat→List Nat:=fun _=>[]
theorem expr_Expr_comes_eq (x0 x1 x2 x3:AV) (H:List Ob) (r:AV) (Ho:List Ob):aBody Tryz.prog expr_Expr_comes_ann Tryz.f239 H [x0,x1,x2,x3] r Ho = expr_Expr_comes x0 x1 x2 x3 H (fun v H'=>Gives H.length v H' r Ho):=by kernel_rfl
theorem expr_Expr_comes_fn {x0 x1 x2 x3:AV} {r:AV} {Ho:List Ob} (h:expr_Expr_comes x0 x1 x2 x3 [] (fun v H'=>Gives 0 v H' r Ho)):Abs.Fn Tryz.prog expr_Expr_comes_i [] [x0,x1,x2,x3] r Ho :=
 fn_intro mixed expr_Expr_comes_ann (fn:=Tryz.f239) (by kernel_rfl) (by kernel_rfl) (by rw [expr_Expr_comes_eq]; exact h)
def expr_none (x0:AV) (H:List Ob) (K:AV→List Ob→Prop):Prop :=
 aBox x0 H fun v0 h1 =>
 aLoad true 5 v0 h1 fun v2 =>
 aBuild [(.p (.int .i64 0)),(.p (.int .i64 0)),(.p (.bool false)),(.p (.str [])),(.full [])] [] fun v3 =>
 aCall Tryz.prog (.p (.func val_Same_i [])) [v2,v3] h1 fun v4 h5 =>
 K v4 h5
def expr_none_ann:Nat→List Nat:=fun _=>[]
theorem expr_none_eq (x0:AV) (H:List Ob) (r:AV) (Ho:List Ob):aBody Tryz.prog expr_none_ann Tryz.f260 H [x0] r Ho = expr_none x0 H (fun v H'=>Gives H.length v H' r Ho):=by kernel_rfl
theorem expr_none_fn {x0:AV} {r:AV} {Ho:List Ob} (h:expr_none x0 [] (fun v H'=>Gives 0 v H' r Ho)):Abs.Fn Tryz.prog expr_none_i [] [x0] r Ho :=
 fn_intro mixed expr_none_ann (fn:=Tryz.f260) (by kernel_rfl) (by kernel_rfl) (by rw [expr_none_eq]; exact h)
end Go.Proofs.YtdmgbhamigegfaaGreatDoor
end

section
/- Made by program (Gen.lean): functions of the dump, over trees. -/
set_option maxRecDepth 4000
set_option linter.unusedVariables false
namespace Go.Proofs.YtdmgbhamigegfaaGreatDoor
open Go Go.Abs
def runnelref6_V (x0:AV) (H:List Ob) (K:AV→List Ob→Prop):Prop :=
 aAlloc [(.p (.int .i64 0)),(.p (.int .i64 0)),(.p (.bool false)),(.p (.str [])),(.full [])] H fun v0 h1 =>
 aBuild [(.p (.int .i64 0)),(.p (.int .i64 0)),(.p (.bool false)),(.p (.str [])),(.full [])] [(0,1,(.p (.int .i64 1))),(1,1,x0)] fun v2 =>
 aStore 5 v0 v2 h1 fun _ h4 =>
 aLoad true 5 v0 h4 fun v5 =>
 K v5 h4
def runnelref6_V_ann:Nat→List Nat:=fun _=>[]
theorem runnelref6_V_eq (x0:AV) (H:List Ob) (r:AV) (Ho:List Ob):aBody Tryz.prog runnelref6_V_ann Tryz.f31 H [x0] r Ho = runnelref6_V x0 H (fun v H'=>Gives H.length v H' r Ho):=by kernel_rfl
theorem runnelref6_V_fn {x0:AV} {r:AV} {Ho:List Ob} (h:runnelref6_V x0 [] (fun v H'=>Gives 0 v H' r Ho)):Abs.Fn Tryz.prog runnelref6_V_i [] [x0] r Ho :=
 fn_intro mixed runnelref6_V_ann (fn:=Tryz.f31) (by kernel_rfl) (by kernel_rfl) (by rw [runnelref6_V_eq]; exact h)
def eval_Eval (x0 x1:AV) (H:List Ob) (K:AV→List Ob→Prop):Prop :=
 aBox x0 H fun v0 h1 =>
 aBox x1 h1 fun v2 h3 =>
 aAlloc [(.p (.int .i64 0)),(.p (.int .i64 0)),(.p (.bool false)),(.p (.str [])),(.full [])] h3 fun v4 h5 =>
 aFieldAddr 0 v0 fun v6 =>
 aLoad false 1 v6 h5 fun v7 =>
 aBin false false .eql v7 (.p (.str [108,105,116])) fun v8 =>
 aGuard v8
 (aFieldAddr 1 v0 fun v9 =>
 aLoad true 5 v9 h5 fun v10 =>
 aStore 5 v4 v10 h5 fun _ h12 =>
 aLoad true 5 v4 h12 fun v13 =>
 K (.tup [v13,(.p (.int .i64 0))]) h12)
 (aBin false false .eql v7 (.p (.str [120])) fun v14 =>
 aGuard v14
 (aLoad true 5 v2 h5 fun v15 =>
 aStore 5 v4 v15 h5 fun _ h17 =>
 aLoad true 5 v4 h17 fun v18 =>
 K (.tup [v18,(.p (.int .i64 0))]) h17)
 (aBin false false .eql v7 (.p (.str [97,110,100])) fun v19 =>
 aMerge false v19 (fun Q20 =>
 aBin false false .eql v7 (.p (.str [111,114])) fun v21 =>
 aMerge false v21 (fun Q22 =>
 aBin false false .eql v7 (.p (.str [105,102])) fun v23 =>
 (h5 = h5 ∧ Q22 v23)) fun v24 =>
 (h5 = h5 ∧ Q20 v24)) fun v25 =>
 aGuard v25
 (aAlloc [(.p (.int .i64 0)),(.p (.int .i64 0)),(.p (.bool false)),(.p (.str [])),(.full [])] h5 fun v26 h27 =>
 aFieldAddr 7 v0 fun v28 =>
 aLoad false 1 v28 h27 fun v29 =>
 aIndexAddr 8 v29 (.p (.int .i64 0)) fun v30 =>
 aLoad true 8 v30 h27 fun v31 =>
 aLoad true 5 v2 h27 fun v32 =>
 aCallT Tryz.prog (.p (.func eval_Eval_i [])) [v31,v32] fun v33 =>
 aExtract v33 0 fun v34 =>
 aExtract v33 1 fun v35 =>
 aStore 5 v26 v34 h27 fun _ h37 =>
 aLoad true 8 v0 h37 fun v38 =>
 aLoad true 5 v26 h37 fun v39 =>
 aCall Tryz.prog (.p (.func eval_choose_i [])) [v38,v39] h37 fun v40 h41 =>
 aBin false false .eql v35 (.p (.int .i64 0)) fun v42 =>
 aMerge true v42 (fun Q43 =>
 aBin false false .gtr v40 (.p (.int .i64 0)) fun v44 =>
 (h41 = h41 ∧ Q43 v44)) fun v45 =>
 aGuard v45
 (aFieldAddr 7 v0 fun v46 =>
 aLoad false 1 v46 h41 fun v47 =>
 aIndexAddr 8 v47 v40 fun v48 =>
 aLoad true 8 v48 h41 fun v49 =>
 aLoad true 5 v2 h41 fun v50 =>
 aCallT Tryz.prog (.p (.func eval_Eval_i [])) [v49,v50] fun v51 =>
 aExtract v51 0 fun v52 =>
 aExtract v51 1 fun v53 =>
 aStore 5 v4 v52 h41 fun _ h55 =>
 aLoad true 5 v4 h55 fun v56 =>
 K (.tup [v56,v53]) h55)
 (aLoad true 5 v26 h41 fun v57 =>
 aStore 5 v4 v57 h41 fun _ h59 =>
 aLoad true 5 v4 h59 fun v60 =>
 K (.tup [v60,v35]) h59))
 (aFieldAddr 7 v0 fun v61 =>
 aLoad false 1 v61 h5 fun v62 =>
 aLoad true 5 v2 h5 fun v63 =>
 aCall Tryz.prog (.p (.func eval_all_i [])) [v62,v63] h5 fun v64 h65 =>
 aExtract v64 0 fun v66 =>
 aExtract v64 1 fun v67 =>
 aBin false false .neq v67 (.p (.int .i64 0)) fun v68 =>
 aGuard v68
 (aBuild [(.p (.int .i64 0)),(.p (.int .i64 0)),(.p (.bool false)),(.p (.str [])),(.full [])] [] fun v69 =>
 aStore 5 v4 v69 h65 fun _ h71 =>
 aLoad true 5 v4 h71 fun v72 =>
 K (.tup [v72,v67]) h71)
 (aFieldAddr 0 v0 fun v73 =>
 aLoad false 1 v73 h65 fun v74 =>
 aBin false false .eql v74 (.p (.str [97,116])) fun v75 =>
 aGuard v75
 (aIndexAddr 5 v66 (.p (.int .i64 0)) fun v76 =>
 aFieldAddr 4 v76 fun v77 =>
 aLoad false 1 v77 h65 fun v78 =>
 aFieldAddr 6 v0 fun v79 =>
 aLoad false 1 v79 h65 fun v80 =>
 aIndexAddr 5 v78 v80 fun v81 =>
 aLoad true 5 v81 h65 fun v82 =>
 aStore 5 v4 v82 h65 fun _ h84 =>
 aLoad true 5 v4 h84 fun v85 =>
 K (.tup [v85,(.p (.int .i64 0))]) h84)
 (aFieldAddr 0 v0 fun v86 =>
 aLoad false 1 v86 h65 fun v87 =>
 aBin false false .eql v87 (.p (.str [116,117,112])) fun v88 =>
 aGuard v88
 (aCall Tryz.prog (.p (.func val_Tup_i [])) [v66] h65 fun v89 h90 =>
 aStore 5 v4 v89 h90 fun _ h92 =>
 aLoad true 5 v4 h92 fun v93 =>
 K (.tup [v93,(.p (.int .i64 0))]) h92)
 (aLen false false v66 fun v94 =>
 aBin false false .eql v94 (.p (.int .i64 1)) fun v95 =>
 aGuard v95
 (aAlloc [(.p (.int .i64 0)),(.p (.int .i64 0)),(.p (.bool false)),(.p (.str [])),(.full [])] h65 fun v96 h97 =>
 aFieldAddr 0 v0 fun v98 =>
 aLoad false 1 v98 h97 fun v99 =>
 aIndexAddr 5 v66 (.p (.int .i64 0)) fun v100 =>
 aLoad true 5 v100 h97 fun v101 =>
 aCallT Tryz.prog (.p (.func eval_One_i [])) [v99,v101] fun v102 =>
 aExtract v102 0 fun v103 =>
 aExtract v102 1 fun _ =>
 aStore 5 v96 v103 h97 fun _ h106 =>
 aLoad true 5 v96 h106 fun v107 =>
 aStore 5 v4 v107 h106 fun _ h109 =>
 aLoad true 5 v4 h109 fun v110 =>
 K (.tup [v110,(.p (.int .i64 0))]) h109)
 (aAlloc [(.p (.int .i64 0)),(.p (.int .i64 0)),(.p (.bool false)),(.p (.str [])),(.full [])] h65 fun v111 h112 =>
 aFieldAddr 0 v0 fun v113 =>
 aLoad false 1 v113 h112 fun v114 =>
 aIndexAddr 5 v66 (.p (.int .i64 0)) fun v115 =>
 aLoad true 5 v115 h112 fun v116 =>
 aIndexAddr 5 v66 (.p (.int .i64 1)) fun v117 =>
 aLoad true 5 v117 h112 fun v118 =>
 aCallT Tryz.prog (.p (.func eval_Both_i [])) [v114,v116,v118] fun v119 =>
 aExtract v119 0 fun v120 =>
 aExtract v119 1 fun v121 =>
 aExtract v119 2 fun _ =>
 aStore 5 v111 v120 h112 fun _ h124 =>
 aLoad true 5 v111 h124 fun v125 =>
 aStore 5 v4 v125 h124 fun _ h127 =>
 aLoad true 5 v4 h127 fun v128 =>
 K (.tup [v128,v121]) h127)))))))
def eval_Eval_ann:Nat→List Nat:=fun k=>match k with | 1000008=>[1] | 1000007=>[1] | _=>[]
theorem eval_Eval_eq (x0 x1:AV) (H:List Ob) (r:AV) (Ho:List Ob):aBody Tryz.prog eval_Eval_ann Tryz.f110 H [x0,x1] r Ho = eval_Eval x0 x1 H (fun v H'=>Gives H.length v H' r Ho):=by kernel_rfl
theorem eval_Eval_fn {x0 x1:AV} {r:AV} {Ho:List Ob} (h:eval_Eval x0 x1 [] (fun v H'=>Gives 0 v H' r Ho)):Abs.Fn Tryz.prog eval_Eval_i [] [x0,x1] r Ho :=
 fn_intro mixed eval_Eval_ann (fn:=Tryz.f110) (by kernel_rfl) (by kernel_rfl) (by rw [eval_Eval_eq]; exact h)
def eval_choose (x0 x1:AV) (H:List Ob) (K:AV→List Ob→Prop):Prop :=
 aBox x0 H fun v0 h1 =>
 aBox x1 h1 fun v2 h3 =>
 aFieldAddr 0 v0 fun v4 =>
 aLoad false 1 v4 h3 fun v5 =>
 aBin false false .eql v5 (.p (.str [105,102])) fun v6 =>
 aMerge true v6 (fun Q7 =>
 aFieldAddr 2 v2 fun v8 =>
 aLoad false 1 v8 h3 fun v9 =>
 (h3 = h3 ∧ Q7 v9)) fun v10 =>
 aGuard v10
 (K (.p (.int .i64 1)) h3)
 (aFieldAddr 0 v0 fun v11 =>
 aLoad false 1 v11 h3 fun v12 =>
 aBin false false .eql v12 (.p (.str [105,102])) fun v13 =>
 aGuard v13
 (K (.p (.int .i64 2)) h3)
 (aFieldAddr 0 v0 fun v14 =>
 aLoad false 1 v14 h3 fun v15 =>
 aBin false false .eql v15 (.p (.str [97,110,100])) fun v16 =>
 aFieldAddr 2 v2 fun v17 =>
 aLoad false 1 v17 h3 fun v18 =>
 aBin true false .eql v16 v18 fun v19 =>
 aGuard v19
 (K (.p (.int .i64 1)) h3)
 (K (.p (.int .i64 0)) h3)))
def eval_choose_ann:Nat→List Nat:=fun _=>[]
theorem eval_choose_eq (x0 x1:AV) (H:List Ob) (r:AV) (Ho:List Ob):aBody Tryz.prog eval_choose_ann Tryz.f148 H [x0,x1] r Ho = eval_choose x0 x1 H (fun v H'=>Gives H.length v H' r Ho):=by kernel_rfl
theorem eval_choose_fn {x0 x1:AV} {r:AV} {Ho:List Ob} (h:eval_choose x0 x1 [] (fun v H'=>Gives 0 v H' r Ho)):Abs.Fn Tryz.prog eval_choose_i [] [x0,x1] r Ho :=
 fn_intro mixed eval_choose_ann (fn:=Tryz.f148) (by kernel_rfl) (by kernel_rfl) (by rw [eval_choose_eq]; exact h)
def eval_all_L1 (q1s3 q1s11 q1s12 y0 y1:AV) (H:List Ob) (B1:List AV→List Ob→Prop) (K:AV→List Ob→Prop):Prop :=
 aBin false false .lss y1 q1s12 fun v3 =>
 aGuard v3
 (aIndexAddr 8 q1s11 y1 fun v4 =>
 aLoad true 8 v4 H fun v5 =>
 aAlloc [(.p (.str [])),(.p (.int .i64 0)),(.p (.int .i64 0)),(.p (.bool false)),(.p (.str [])),(.full []),(.p (.int .i64 0)),(.full [])] H fun v6 h7 =>
 aStore 8 v6 v5 h7 fun _ h9 =>
 aLoad true 8 v6 h9 fun v10 =>
 aLoad true 5 q1s3 h9 fun v11 =>
 aCall Tryz.prog (.p (.func eval_Eval_i [])) [v10,v11] h9 fun v12 h13 =>
 aExtract v12 0 fun v14 =>
 aExtract v12 1 fun v15 =>
 aAlloc [(.p (.int .i64 0)),(.p (.int .i64 0)),(.p (.bool false)),(.p (.str [])),(.full [])] h13 fun v16 h17 =>
 aStore 5 v16 v14 h17 fun _ h19 =>
 aBin false false .neq v15 (.p (.int .i64 0)) fun v20 =>
 aGuard v20
 (K (.tup [(.full []),v15]) h19)
 (aLoad true 5 v16 h19 fun v21 =>
 aBuildSlice 5 [v21] fun v22 =>
 aAppend false 5 64 y0 v22 h19 fun v23 h24 =>
 aBin false false .add y1 (.p (.int .i64 1)) fun v25 =>
 B1 [v23,v25] h24))
 (K (.tup [y0,(.p (.int .i64 0))]) H)
def eval_all (x0 x1:AV) (H:List Ob) (K:AV→List Ob→Prop):Prop :=
 aBox x1 H fun v0 h1 =>
 aLen false false x0 fun v2 =>
 aLoopN 2 [(.full []),(.p (.int .i64 0))] h1 fun xs H B1=>eval_all_L1 v0 x0 v2 (xs.getD 0 .top) (xs.getD 1 .top) H B1 K
def eval_all_ann:Nat→List Nat:=fun k=>match k with | 3=>[6,13] | _=>[]
theorem eval_all_eq (x0 x1:AV) (H:List Ob) (r:AV) (Ho:List Ob):aBody Tryz.prog eval_all_ann Tryz.f149 H [x0,x1] r Ho = eval_all x0 x1 H (fun v H'=>Gives H.length v H' r Ho):=by kernel_rfl
theorem eval_all_fn {x0 x1:AV} {r:AV} {Ho:List Ob} (h:eval_all x0 x1 [] (fun v H'=>Gives 0 v H' r Ho)):Abs.Fn Tryz.prog eval_all_i [] [x0,x1] r Ho :=
 fn_intro mixed eval_all_ann (fn:=Tryz.f149) (by kernel_rfl) (by kernel_rfl) (by rw [eval_all_eq]; exact h)
def eval_One (x0 x1:AV) (H:List Ob) (K:AV→List Ob→Prop):Prop :=
 aBox x1 H fun v0 h1 =>
 aAlloc [(.p (.int .i64 0)),(.p (.int .i64 0)),(.p (.bool false)),(.p (.str [])),(.full [])] h1 fun v2 h3 =>
 aCall Tryz.prog (.p (.func eval_ones_i [])) [] h3 fun v4 h5 =>
 aCall Tryz.prog (.p (.func eval_table_func_a_val_Value_val_Value_find_i [])) [v4,x0] h5 fun v6 h7 =>
 aExtract v6 0 fun v8 =>
 aExtract v6 1 fun v9 =>
 aUn .not v9 fun v10 =>
 aGuard v10
 (aBuild [(.p (.int .i64 0)),(.p (.int .i64 0)),(.p (.bool false)),(.p (.str [])),(.full [])] [] fun v11 =>
 aStore 5 v2 v11 h7 fun _ h13 =>
 aLoad true 5 v2 h13 fun v14 =>
 K (.tup [v14,(.p (.bool false))]) h13)
 (aLoad true 5 v0 h7 fun v15 =>
 aCall Tryz.prog v8 [v15] h7 fun v16 h17 =>
 aStore 5 v2 v16 h17 fun _ h19 =>
 aLoad true 5 v2 h19 fun v20 =>
 K (.tup [v20,(.p (.bool true))]) h19)
def eval_One_ann:Nat→List Nat:=fun _=>[]
theorem eval_One_eq (x0 x1:AV) (H:List Ob) (r:AV) (Ho:List Ob):aBody Tryz.prog eval_One_ann Tryz.f150 H [x0,x1] r Ho = eval_One x0 x1 H (fun v H'=>Gives H.length v H' r Ho):=by kernel_rfl
theorem eval_One_fn {x0 x1:AV} {r:AV} {Ho:List Ob} (h:eval_One x0 x1 [] (fun v H'=>Gives 0 v H' r Ho)):Abs.Fn Tryz.prog eval_One_i [] [x0,x1] r Ho :=
 fn_intro mixed eval_One_ann (fn:=Tryz.f150) (by kernel_rfl) (by kernel_rfl) (by rw [eval_One_eq]; exact h)
def eval_Both (x0 x1 x2:AV) (H:List Ob) (K:AV→List Ob→Prop):Prop :=
 aBox x1 H fun v0 h1 =>
 aBox x2 h1 fun v2 h3 =>
 aAlloc [(.p (.int .i64 0)),(.p (.int .i64 0)),(.p (.bool false)),(.p (.str [])),(.full [])] h3 fun v4 h5 =>
 aCall Tryz.prog (.p (.func eval_twos_i [])) [] h5 fun v6 h7 =>
 aCall Tryz.prog (.p (.func eval_table_eval_Two_find_i [])) [v6,x0] h7 fun v8 h9 =>
 aExtract v8 0 fun v10 =>
 aExtract v8 1 fun v11 =>
 aUn .not v11 fun v12 =>
 aGuard v12
 (aBuild [(.p (.int .i64 0)),(.p (.int .i64 0)),(.p (.bool false)),(.p (.str [])),(.full [])] [] fun v13 =>
 aStore 5 v4 v13 h9 fun _ h15 =>
 aLoad true 5 v4 h15 fun v16 =>
 K (.tup [v16,(.p (.int .i64 0)),(.p (.bool false))]) h15)
 (aLoad true 5 v0 h9 fun v17 =>
 aLoad true 5 v2 h9 fun v18 =>
 aCall Tryz.prog v10 [v17,v18] h9 fun v19 h20 =>
 aExtract v19 0 fun v21 =>
 aExtract v19 1 fun v22 =>
 aAlloc [(.p (.int .i64 0)),(.p (.int .i64 0)),(.p (.bool false)),(.p (.str [])),(.full [])] h20 fun v23 h24 =>
 aStore 5 v23 v21 h24 fun _ h26 =>
 aLoad true 5 v23 h26 fun v27 =>
 aStore 5 v4 v27 h26 fun _ h29 =>
 aLoad true 5 v4 h29 fun v30 =>
 K (.tup [v30,v22,(.p (.bool true))]) h29)
def eval_Both_ann:Nat→List Nat:=fun _=>[]
theorem eval_Both_eq (x0 x1 x2:AV) (H:List Ob) (r:AV) (Ho:List Ob):aBody Tryz.prog eval_Both_ann Tryz.f151 H [x0,x1,x2] r Ho = eval_Both x0 x1 x2 H (fun v H'=>Gives H.length v H' r Ho):=by kernel_rfl
theorem eval_Both_fn {x0 x1 x2:AV} {r:AV} {Ho:List Ob} (h:eval_Both x0 x1 x2 [] (fun v H'=>Gives 0 v H' r Ho)):Abs.Fn Tryz.prog eval_Both_i [] [x0,x1,x2] r Ho :=
 fn_intro mixed eval_Both_ann (fn:=Tryz.f151) (by kernel_rfl) (by kernel_rfl) (by rw [eval_Both_eq]; exact h)
def eval_ones (H:List Ob) (K:AV→List Ob→Prop):Prop :=
 aBuild [(.p (.str [])),(.p (.raw .nilFunc))] [(0,1,(.p (.str [110,101,103]))),(1,1,(.p (.func eval_ones_1_i [])))] fun v0 =>
 aBuild [(.p (.str [])),(.p (.raw .nilFunc))] [(0,1,(.p (.str [110,111,116]))),(1,1,(.p (.func eval_ones_2_i [])))] fun v1 =>
 aBuild [(.p (.str [])),(.p (.raw .nilFunc))] [(0,1,(.p (.str [108,101,110]))),(1,1,(.p (.func eval_ones_3_i [])))] fun v2 =>
 aBuildSlice 2 [v0,v1,v2] fun v3 =>
 K v3 H
def eval_ones_ann:Nat→List Nat:=fun _=>[]
theorem eval_ones_eq (H:List Ob) (r:AV) (Ho:List Ob):aBody Tryz.prog eval_ones_ann Tryz.f176 H [] r Ho = eval_ones H (fun v H'=>Gives H.length v H' r Ho):=by kernel_rfl
theorem eval_ones_fn {r:AV} {Ho:List Ob} (h:eval_ones [] (fun v H'=>Gives 0 v H' r Ho)):Abs.Fn Tryz.prog eval_ones_i [] [] r Ho :=
 fn_intro mixed eval_ones_ann (fn:=Tryz.f176) (by kernel_rfl) (by kernel_rfl) (by rw [eval_ones_eq]; exact h)
def eval_table_func_a_val_Value_val_Value_find_L1 (q1s1 q1s9 q1s10 y0:AV) (H:List Ob) (B1:List AV→List Ob→Prop) (K:AV→List Ob→Prop):Prop :=
 aBin false false .lss y0 q1s10 fun v1 =>
 aGuard v1
 (aIndexAddr 2 q1s9 y0 fun v2 =>
 aLoad true 2 v2 H fun v3 =>
 aAlloc [(.p (.str [])),(.p (.raw .nilFunc))] H fun v4 h5 =>
 aStore 2 v4 v3 h5 fun _ h7 =>
 aFieldAddr 0 v4 fun v8 =>
 aLoad false 1 v8 h7 fun v9 =>
 aBin false false .eql v9 q1s1 fun v10 =>
 aGuard v10
 (aFieldAddr 1 v4 fun v11 =>
 aLoad false 1 v11 h7 fun v12 =>
 K (.tup [v12,(.p (.bool true))]) h7)
 (aBin false false .add y0 (.p (.int .i64 1)) fun v13 =>
 B1 [v13] h7))
 (K (.tup [(.p (.raw .nilFunc)),(.p (.bool false))]) H)
def eval_table_func_a_val_Value_val_Value_find (x0 x1:AV) (H:List Ob) (K:AV→List Ob→Prop):Prop :=
 aLen false false x0 fun v0 =>
 aLoopN 1 [(.p (.int .i64 0))] H fun xs H B1=>eval_table_func_a_val_Value_val_Value_find_L1 x1 x0 v0 (xs.getD 0 .top) H B1 K
def eval_table_func_a_val_Value_val_Value_find_ann:Nat→List Nat:=fun k=>match k with | 2=>[11] | _=>[]
theorem eval_table_func_a_val_Value_val_Value_find_eq (x0 x1:AV) (H:List Ob) (r:AV) (Ho:List Ob):aBody Tryz.prog eval_table_func_a_val_Value_val_Value_find_ann Tryz.f177 H [x0,x1] r Ho = eval_table_func_a_val_Value_val_Value_find x0 x1 H (fun v H'=>Gives H.length v H' r Ho):=by kernel_rfl
theorem eval_table_func_a_val_Value_val_Value_find_fn {x0 x1:AV} {r:AV} {Ho:List Ob} (h:eval_table_func_a_val_Value_val_Value_find x0 x1 [] (fun v H'=>Gives 0 v H' r Ho)):Abs.Fn Tryz.prog eval_table_func_a_val_Value_val_Value_find_i [] [x0,x1] r Ho :=
 fn_intro mixed eval_table_func_a_val_Value_val_Value_find_ann (fn:=Tryz.f177) (by kernel_rfl) (by kernel_rfl) (by rw [eval_table_func_a_val_Value_val_Value_find_eq]; exact h)
def eval_twos (H:List Ob) (K:AV→List Ob→Prop):Prop :=
 aCall Tryz.prog (.p (.func eval_number_i [])) [(.p (.func eval_twos_1_i []))] H fun v0 h1 =>
 aBuild [(.p (.str [])),(.p (.raw .nilFunc))] [(0,1,(.p (.str [97,100,100]))),(1,1,v0)] fun v2 =>
 aCall Tryz.prog (.p (.func eval_number_i [])) [(.p (.func eval_twos_2_i []))] h1 fun v3 h4 =>
 aBuild [(.p (.str [])),(.p (.raw .nilFunc))] [(0,1,(.p (.str [115,117,98]))),(1,1,v3)] fun v5 =>
 aCall Tryz.prog (.p (.func eval_number_i [])) [(.p (.func eval_twos_3_i []))] h4 fun v6 h7 =>
 aBuild [(.p (.str [])),(.p (.raw .nilFunc))] [(0,1,(.p (.str [109,117,108]))),(1,1,v6)] fun v8 =>
 aCall Tryz.prog (.p (.func eval_divided_i [])) [(.p (.func eval_twos_4_i []))] h7 fun v9 h10 =>
 aBuild [(.p (.str [])),(.p (.raw .nilFunc))] [(0,1,(.p (.str [100,105,118]))),(1,1,v9)] fun v11 =>
 aCall Tryz.prog (.p (.func eval_divided_i [])) [(.p (.func eval_twos_5_i []))] h10 fun v12 h13 =>
 aBuild [(.p (.str [])),(.p (.raw .nilFunc))] [(0,1,(.p (.str [114,101,109]))),(1,1,v12)] fun v14 =>
 aBuild [(.p (.str [])),(.p (.raw .nilFunc))] [(0,1,(.p (.str [101,113]))),(1,1,(.p (.func eval_twos_6_i [])))] fun v15 =>
 aBuild [(.p (.str [])),(.p (.raw .nilFunc))] [(0,1,(.p (.str [108,116]))),(1,1,(.p (.func eval_twos_7_i [])))] fun v16 =>
 aBuild [(.p (.str [])),(.p (.raw .nilFunc))] [(0,1,(.p (.str [99,97,116]))),(1,1,(.p (.func eval_cat_i [])))] fun v17 =>
 aBuildSlice 2 [v2,v5,v8,v11,v14,v15,v16,v17] fun v18 =>
 K v18 h13
def eval_twos_ann:Nat→List Nat:=fun _=>[]
theorem eval_twos_eq (H:List Ob) (r:AV) (Ho:List Ob):aBody Tryz.prog eval_twos_ann Tryz.f178 H [] r Ho = eval_twos H (fun v H'=>Gives H.length v H' r Ho):=by kernel_rfl
theorem eval_twos_fn {r:AV} {Ho:List Ob} (h:eval_twos [] (fun v H'=>Gives 0 v H' r Ho)):Abs.Fn Tryz.prog eval_twos_i [] [] r Ho :=
 fn_intro mixed eval_twos_ann (fn:=Tryz.f178) (by kernel_rfl) (by kernel_rfl) (by rw [eval_twos_eq]; exact h)
def eval_table_eval_Two_find_L1 (q1s1 q1s9 q1s10 y0:AV) (H:List Ob) (B1:List AV→List Ob→Prop) (K:AV→List Ob→Prop):Prop :=
 aBin false false .lss y0 q1s10 fun v1 =>
 aGuard v1
 (aIndexAddr 2 q1s9 y0 fun v2 =>
 aLoad true 2 v2 H fun v3 =>
 aAlloc [(.p (.str [])),(.p (.raw .nilFunc))] H fun v4 h5 =>
 aStore 2 v4 v3 h5 fun _ h7 =>
 aFieldAddr 0 v4 fun v8 =>
 aLoad false 1 v8 h7 fun v9 =>
 aBin false false .eql v9 q1s1 fun v10 =>
 aGuard v10
 (aFieldAddr 1 v4 fun v11 =>
 aLoad false 1 v11 h7 fun v12 =>
 K (.tup [v12,(.p (.bool true))]) h7)
 (aBin false false .add y0 (.p (.int .i64 1)) fun v13 =>
 B1 [v13] h7))
 (K (.tup [(.p (.raw .nilFunc)),(.p (.bool false))]) H)
def eval_table_eval_Two_find (x0 x1:AV) (H:List Ob) (K:AV→List Ob→Prop):Prop :=
 aLen false false x0 fun v0 =>
 aLoopN 1 [(.p (.int .i64 0))] H fun xs H B1=>eval_table_eval_Two_find_L1 x1 x0 v0 (xs.getD 0 .top) H B1 K
def eval_table_eval_Two_find_ann:Nat→List Nat:=fun k=>match k with | 2=>[11] | _=>[]
theorem eval_table_eval_Two_find_eq (x0 x1:AV) (H:List Ob) (r:AV) (Ho:List Ob):aBody Tryz.prog eval_table_eval_Two_find_ann Tryz.f179 H [x0,x1] r Ho = eval_table_eval_Two_find x0 x1 H (fun v H'=>Gives H.length v H' r Ho):=by kernel_rfl
theorem eval_table_eval_Two_find_fn {x0 x1:AV} {r:AV} {Ho:List Ob} (h:eval_table_eval_Two_find x0 x1 [] (fun v H'=>Gives 0 v H' r Ho)):Abs.Fn Tryz.prog eval_table_eval_Two_find_i [] [x0,x1] r Ho :=
 fn_intro mixed eval_table_eval_Two_find_ann (fn:=Tryz.f179) (by kernel_rfl) (by kernel_rfl) (by rw [eval_table_eval_Two_find_eq]; exact h)
def eval_ones_1 (x0:AV) (H:List Ob) (K:AV→List Ob→Prop):Prop :=
 aBox x0 H fun v0 h1 =>
 aAlloc [(.p (.int .i64 0)),(.p (.int .i64 0)),(.p (.bool false)),(.p (.str [])),(.full [])] h1 fun v2 h3 =>
 aFieldAddr 1 v0 fun v4 =>
 aLoad false 1 v4 h3 fun v5 =>
 aUn .neg v5 fun v6 =>
 aCall Tryz.prog (.p (.func val_Int_i [])) [v6] h3 fun v7 h8 =>
 aStore 5 v2 v7 h8 fun _ h10 =>
 aLoad true 5 v2 h10 fun v11 =>
 K v11 h10
def eval_ones_1_ann:Nat→List Nat:=fun _=>[]
theorem eval_ones_1_eq (x0:AV) (H:List Ob) (r:AV) (Ho:List Ob):aBody Tryz.prog eval_ones_1_ann Tryz.f213 H [x0] r Ho = eval_ones_1 x0 H (fun v H'=>Gives H.length v H' r Ho):=by kernel_rfl
theorem eval_ones_1_fn {x0:AV} {r:AV} {Ho:List Ob} (h:eval_ones_1 x0 [] (fun v H'=>Gives 0 v H' r Ho)):Abs.Fn Tryz.prog eval_ones_1_i [] [x0] r Ho :=
 fn_intro mixed eval_ones_1_ann (fn:=Tryz.f213) (by kernel_rfl) (by kernel_rfl) (by rw [eval_ones_1_eq]; exact h)
def eval_ones_2 (x0:AV) (H:List Ob) (K:AV→List Ob→Prop):Prop :=
 aBox x0 H fun v0 h1 =>
 aAlloc [(.p (.int .i64 0)),(.p (.int .i64 0)),(.p (.bool false)),(.p (.str [])),(.full [])] h1 fun v2 h3 =>
 aFieldAddr 2 v0 fun v4 =>
 aLoad false 1 v4 h3 fun v5 =>
 aUn .not v5 fun v6 =>
 aCall Tryz.prog (.p (.func val_Bool_i [])) [v6] h3 fun v7 h8 =>
 aStore 5 v2 v7 h8 fun _ h10 =>
 aLoad true 5 v2 h10 fun v11 =>
 K v11 h10
def eval_ones_2_ann:Nat→List Nat:=fun _=>[]
theorem eval_ones_2_eq (x0:AV) (H:List Ob) (r:AV) (Ho:List Ob):aBody Tryz.prog eval_ones_2_ann Tryz.f214 H [x0] r Ho = eval_ones_2 x0 H (fun v H'=>Gives H.length v H' r Ho):=by kernel_rfl
theorem eval_ones_2_fn {x0:AV} {r:AV} {Ho:List Ob} (h:eval_ones_2 x0 [] (fun v H'=>Gives 0 v H' r Ho)):Abs.Fn Tryz.prog eval_ones_2_i [] [x0] r Ho :=
 fn_intro mixed eval_ones_2_ann (fn:=Tryz.f214) (by kernel_rfl) (by kernel_rfl) (by rw [eval_ones_2_eq]; exact h)
def eval_ones_3 (x0:AV) (H:List Ob) (K:AV→List Ob→Prop):Prop :=
 aBox x0 H fun v0 h1 =>
 aAlloc [(.p (.int .i64 0)),(.p (.int .i64 0)),(.p (.bool false)),(.p (.str [])),(.full [])] h1 fun v2 h3 =>
 aFieldAddr 3 v0 fun v4 =>
 aLoad false 1 v4 h3 fun v5 =>
 aLen false true v5 fun v6 =>
 aCall Tryz.prog (.p (.func val_Int_i [])) [v6] h3 fun v7 h8 =>
 aStore 5 v2 v7 h8 fun _ h10 =>
 aLoad true 5 v2 h10 fun v11 =>
 K v11 h10
def eval_ones_3_ann:Nat→List Nat:=fun _=>[]
theorem eval_ones_3_eq (x0:AV) (H:List Ob) (r:AV) (Ho:List Ob):aBody Tryz.prog eval_ones_3_ann Tryz.f216 H [x0] r Ho = eval_ones_3 x0 H (fun v H'=>Gives H.length v H' r Ho):=by kernel_rfl
theorem eval_ones_3_fn {x0:AV} {r:AV} {Ho:List Ob} (h:eval_ones_3 x0 [] (fun v H'=>Gives 0 v H' r Ho)):Abs.Fn Tryz.prog eval_ones_3_i [] [x0] r Ho :=
 fn_intro mixed eval_ones_3_ann (fn:=Tryz.f216) (by kernel_rfl) (by kernel_rfl) (by rw [eval_ones_3_eq]; exact h)
def eval_number (x0:AV) (H:List Ob) (K:AV→List Ob→Prop):Prop :=
 aBox x0 H fun v0 h1 =>
 aMakeFunc eval_number_1_i [v0] h1 fun v2 h3 =>
 K v2 h3
def eval_number_ann:Nat→List Nat:=fun _=>[]
theorem eval_number_eq (x0:AV) (H:List Ob) (r:AV) (Ho:List Ob):aBody Tryz.prog eval_number_ann Tryz.f217 H [x0] r Ho = eval_number x0 H (fun v H'=>Gives H.length v H' r Ho):=by kernel_rfl
theorem eval_number_fn {x0:AV} {r:AV} {Ho:List Ob} (h:eval_number x0 [] (fun v H'=>Gives 0 v H' r Ho)):Abs.Fn Tryz.prog eval_number_i [] [x0] r Ho :=
 fn_intro mixed eval_number_ann (fn:=Tryz.f217) (by kernel_rfl) (by kernel_rfl) (by rw [eval_number_eq]; exact h)
def eval_twos_1 (x0 x1:AV) (H:List Ob) (K:AV→List Ob→Prop):Prop :=
 aBin false false .add x0 x1 fun v0 =>
 K v0 H
def eval_twos_1_ann:Nat→List Nat:=fun _=>[]
theorem eval_twos_1_eq (x0 x1:AV) (H:List Ob) (r:AV) (Ho:List Ob):aBody Tryz.prog eval_twos_1_ann Tryz.f218 H [x0,x1] r Ho = eval_twos_1 x0 x1 H (fun v H'=>Gives H.length v H' r Ho):=by kernel_rfl
theorem eval_twos_1_fn {x0 x1:AV} {r:AV} {Ho:List Ob} (h:eval_twos_1 x0 x1 [] (fun v H'=>Gives 0 v H' r Ho)):Abs.Fn Tryz.prog eval_twos_1_i [] [x0,x1] r Ho :=
 fn_intro mixed eval_twos_1_ann (fn:=Tryz.f218) (by kernel_rfl) (by kernel_rfl) (by rw [eval_twos_1_eq]; exact h)
def eval_twos_2 (x0 x1:AV) (H:List Ob) (K:AV→List Ob→Prop):Prop :=
 aBin false false .sub x0 x1 fun v0 =>
 K v0 H
def eval_twos_2_ann:Nat→List Nat:=fun _=>[]
theorem eval_twos_2_eq (x0 x1:AV) (H:List Ob) (r:AV) (Ho:List Ob):aBody Tryz.prog eval_twos_2_ann Tryz.f219 H [x0,x1] r Ho = eval_twos_2 x0 x1 H (fun v H'=>Gives H.length v H' r Ho):=by kernel_rfl
theorem eval_twos_2_fn {x0 x1:AV} {r:AV} {Ho:List Ob} (h:eval_twos_2 x0 x1 [] (fun v H'=>Gives 0 v H' r Ho)):Abs.Fn Tryz.prog eval_twos_2_i [] [x0,x1] r Ho :=
 fn_intro mixed eval_twos_2_ann (fn:=Tryz.f219) (by kernel_rfl) (by kernel_rfl) (by rw [eval_twos_2_eq]; exact h)
def eval_twos_3 (x0 x1:AV) (H:List Ob) (K:AV→List Ob→Prop):Prop :=
 aBin false false .mul x0 x1 fun v0 =>
 K v0 H
def eval_twos_3_ann:Nat→List Nat:=fun _=>[]
theorem eval_twos_3_eq (x0 x1:AV) (H:List Ob) (r:AV) (Ho:List Ob):aBody Tryz.prog eval_twos_3_ann Tryz.f220 H [x0,x1] r Ho = eval_twos_3 x0 x1 H (fun v H'=>Gives H.length v H' r Ho):=by kernel_rfl
theorem eval_twos_3_fn {x0 x1:AV} {r:AV} {Ho:List Ob} (h:eval_twos_3 x0 x1 [] (fun v H'=>Gives 0 v H' r Ho)):Abs.Fn Tryz.prog eval_twos_3_i [] [x0,x1] r Ho :=
 fn_intro mixed eval_twos_3_ann (fn:=Tryz.f220) (by kernel_rfl) (by kernel_rfl) (by rw [eval_twos_3_eq]; exact h)
def eval_divided (x0:AV) (H:List Ob) (K:AV→List Ob→Prop):Prop :=
 aBox x0 H fun v0 h1 =>
 aMakeFunc eval_divided_1_i [v0] h1 fun v2 h3 =>
 K v2 h3
def eval_divided_ann:Nat→List Nat:=fun _=>[]
theorem eval_divided_eq (x0:AV) (H:List Ob) (r:AV) (Ho:List Ob):aBody Tryz.prog eval_divided_ann Tryz.f221 H [x0] r Ho = eval_divided x0 H (fun v H'=>Gives H.length v H' r Ho):=by kernel_rfl
theorem eval_divided_fn {x0:AV} {r:AV} {Ho:List Ob} (h:eval_divided x0 [] (fun v H'=>Gives 0 v H' r Ho)):Abs.Fn Tryz.prog eval_divided_i [] [x0] r Ho :=
 fn_intro mixed eval_divided_ann (fn:=Tryz.f221) (by kernel_rfl) (by kernel_rfl) (by rw [eval_divided_eq]; exact h)
def eval_twos_4 (x0 x1:AV) (H:List Ob) (K:AV→List Ob→Prop):Prop :=
 aBin false false .quo x0 x1 fun v0 =>
 K v0 H
def eval_twos_4_ann:Nat→List Nat:=fun _=>[]
theorem eval_twos_4_eq (x0 x1:AV) (H:List Ob) (r:AV) (Ho:List Ob):aBody Tryz.prog eval_twos_4_ann Tryz.f222 H [x0,x1] r Ho = eval_twos_4 x0 x1 H (fun v H'=>Gives H.length v H' r Ho):=by kernel_rfl
theorem eval_twos_4_fn {x0 x1:AV} {r:AV} {Ho:List Ob} (h:eval_twos_4 x0 x1 [] (fun v H'=>Gives 0 v H' r Ho)):Abs.Fn Tryz.prog eval_twos_4_i [] [x0,x1] r Ho :=
 fn_intro mixed eval_twos_4_ann (fn:=Tryz.f222) (by kernel_rfl) (by kernel_rfl) (by rw [eval_twos_4_eq]; exact h)
def eval_twos_5 (x0 x1:AV) (H:List Ob) (K:AV→List Ob→Prop):Prop :=
 aBin false false .rem x0 x1 fun v0 =>
 K v0 H
def eval_twos_5_ann:Nat→List Nat:=fun _=>[]
theorem eval_twos_5_eq (x0 x1:AV) (H:List Ob) (r:AV) (Ho:List Ob):aBody Tryz.prog eval_twos_5_ann Tryz.f223 H [x0,x1] r Ho = eval_twos_5 x0 x1 H (fun v H'=>Gives H.length v H' r Ho):=by kernel_rfl
theorem eval_twos_5_fn {x0 x1:AV} {r:AV} {Ho:List Ob} (h:eval_twos_5 x0 x1 [] (fun v H'=>Gives 0 v H' r Ho)):Abs.Fn Tryz.prog eval_twos_5_i [] [x0,x1] r Ho :=
 fn_intro mixed eval_twos_5_ann (fn:=Tryz.f223) (by kernel_rfl) (by kernel_rfl) (by rw [eval_twos_5_eq]; exact h)
def eval_twos_6 (x0 x1:AV) (H:List Ob) (K:AV→List Ob→Prop):Prop :=
 aBox x0 H fun v0 h1 =>
 aBox x1 h1 fun v2 h3 =>
 aAlloc [(.p (.int .i64 0)),(.p (.int .i64 0)),(.p (.bool false)),(.p (.str [])),(.full [])] h3 fun v4 h5 =>
 aLoad true 5 v0 h5 fun v6 =>
 aLoad true 5 v2 h5 fun v7 =>
 aCall Tryz.prog (.p (.func val_Same_i [])) [v6,v7] h5 fun v8 h9 =>
 aCall Tryz.prog (.p (.func val_Bool_i [])) [v8] h9 fun v10 h11 =>
 aStore 5 v4 v10 h11 fun _ h13 =>
 aLoad true 5 v4 h13 fun v14 =>
 K (.tup [v14,(.p (.int .i64 0))]) h13
def eval_twos_6_ann:Nat→List Nat:=fun _=>[]
theorem eval_twos_6_eq (x0 x1:AV) (H:List Ob) (r:AV) (Ho:List Ob):aBody Tryz.prog eval_twos_6_ann Tryz.f224 H [x0,x1] r Ho = eval_twos_6 x0 x1 H (fun v H'=>Gives H.length v H' r Ho):=by kernel_rfl
theorem eval_twos_6_fn {x0 x1:AV} {r:AV} {Ho:List Ob} (h:eval_twos_6 x0 x1 [] (fun v H'=>Gives 0 v H' r Ho)):Abs.Fn Tryz.prog eval_twos_6_i [] [x0,x1] r Ho :=
 fn_intro mixed eval_twos_6_ann (fn:=Tryz.f224) (by kernel_rfl) (by kernel_rfl) (by rw [eval_twos_6_eq]; exact h)
def eval_twos_7 (x0 x1:AV) (H:List Ob) (K:AV→List Ob→Prop):Prop :=
 aBox x0 H fun v0 h1 =>
 aBox x1 h1 fun v2 h3 =>
 aAlloc [(.p (.int .i64 0)),(.p (.int .i64 0)),(.p (.bool false)),(.p (.str [])),(.full [])] h3 fun v4 h5 =>
 aLoad true 5 v0 h5 fun v6 =>
 aLoad true 5 v2 h5 fun v7 =>
 aCall Tryz.prog (.p (.func val_Compare_i [])) [v6,v7] h5 fun v8 h9 =>
 aBin false false .lss v8 (.p (.int .i64 0)) fun v10 =>
 aCall Tryz.prog (.p (.func val_Bool_i [])) [v10] h9 fun v11 h12 =>
 aStore 5 v4 v11 h12 fun _ h14 =>
 aLoad true 5 v4 h14 fun v15 =>
 K (.tup [v15,(.p (.int .i64 0))]) h14
def eval_twos_7_ann:Nat→List Nat:=fun _=>[]
theorem eval_twos_7_eq (x0 x1:AV) (H:List Ob) (r:AV) (Ho:List Ob):aBody Tryz.prog eval_twos_7_ann Tryz.f225 H [x0,x1] r Ho = eval_twos_7 x0 x1 H (fun v H'=>Gives H.length v H' r Ho):=by kernel_rfl
theorem eval_twos_7_fn {x0 x1:AV} {r:AV} {Ho:List Ob} (h:eval_twos_7 x0 x1 [] (fun v H'=>Gives 0 v H' r Ho)):Abs.Fn Tryz.prog eval_twos_7_i [] [x0,x1] r Ho :=
 fn_intro mixed eval_twos_7_ann (fn:=Tryz.f225) (by kernel_rfl) (by kernel_rfl) (by rw [eval_twos_7_eq]; exact h)
def eval_cat (x0 x1:AV) (H:List Ob) (K:AV→List Ob→Prop):Prop :=
 aBox x0 H fun v0 h1 =>
 aBox x1 h1 fun v2 h3 =>
 aAlloc [(.p (.int .i64 0)),(.p (.int .i64 0)),(.p (.bool false)),(.p (.str [])),(.full [])] h3 fun v4 h5 =>
 aFieldAddr 3 v0 fun v6 =>
 aLoad false 1 v6 h5 fun v7 =>
 aLen false true v7 fun v8 =>
 aFieldAddr 3 v2 fun v9 =>
 aLoad false 1 v9 h5 fun v10 =>
 aLen false true v10 fun v11 =>
 aBin false false .add v8 v11 fun v12 =>
 aBin false false .gtr v12 (.p (.int .i64 255)) fun v13 =>
 aGuard v13
 (aBuild [(.p (.int .i64 0)),(.p (.int .i64 0)),(.p (.bool false)),(.p (.str [])),(.full [])] [] fun v14 =>
 aStore 5 v4 v14 h5 fun _ h16 =>
 aLoad true 5 v4 h16 fun v17 =>
 K (.tup [v17,(.p (.int .i64 4))]) h16)
 (aFieldAddr 3 v0 fun v18 =>
 aLoad false 1 v18 h5 fun v19 =>
 aFieldAddr 3 v2 fun v20 =>
 aLoad false 1 v20 h5 fun v21 =>
 aBin false false .add v19 v21 fun v22 =>
 aCall Tryz.prog (.p (.func val_Str_i [])) [v22] h5 fun v23 h24 =>
 aStore 5 v4 v23 h24 fun _ h26 =>
 aLoad true 5 v4 h26 fun v27 =>
 K (.tup [v27,(.p (.int .i64 0))]) h26)
def eval_cat_ann:Nat→List Nat:=fun _=>[]
theorem eval_cat_eq (x0 x1:AV) (H:List Ob) (r:AV) (Ho:List Ob):aBody Tryz.prog eval_cat_ann Tryz.f226 H [x0,x1] r Ho = eval_cat x0 x1 H (fun v H'=>Gives H.length v H' r Ho):=by kernel_rfl
theorem eval_cat_fn {x0 x1:AV} {r:AV} {Ho:List Ob} (h:eval_cat x0 x1 [] (fun v H'=>Gives 0 v H' r Ho)):Abs.Fn Tryz.prog eval_cat_i [] [x0,x1] r Ho :=
 fn_intro mixed eval_cat_ann (fn:=Tryz.f226) (by kernel_rfl) (by kernel_rfl) (by rw [eval_cat_eq]; exact h)
def eval_number_1 (x0 x1 x2:AV) (H:List Ob) (K:AV→List Ob→Prop):Prop :=
 aBox x0 H fun v0 h1 =>
 aBox x1 h1 fun v2 h3 =>
 aAlloc [(.p (.int .i64 0)),(.p (.int .i64 0)),(.p (.bool false)),(.p (.str [])),(.full [])] h3 fun v4 h5 =>
 aLoad false 1 x2 h5 fun v6 =>
 aFieldAddr 1 v0 fun v7 =>
 aLoad false 1 v7 h5 fun v8 =>
 aFieldAddr 1 v2 fun v9 =>
 aLoad false 1 v9 h5 fun v10 =>
 aCall Tryz.prog v6 [v8,v10] h5 fun v11 h12 =>
 aCall Tryz.prog (.p (.func val_Int_i [])) [v11] h12 fun v13 h14 =>
 aStore 5 v4 v13 h14 fun _ h16 =>
 aLoad true 5 v4 h16 fun v17 =>
 K (.tup [v17,(.p (.int .i64 0))]) h16
def eval_number_1_ann:Nat→List Nat:=fun _=>[]
theorem eval_number_1_eq (x0 x1 x2:AV) (H:List Ob) (r:AV) (Ho:List Ob):aBody Tryz.prog eval_number_1_ann Tryz.f251 H [x0,x1,x2] r Ho = eval_number_1 x0 x1 x2 H (fun v H'=>Gives H.length v H' r Ho):=by kernel_rfl
theorem eval_number_1_fn {x0 x1 x2:AV} {r:AV} {Ho:List Ob} (h:eval_number_1 x0 x1 x2 [] (fun v H'=>Gives 0 v H' r Ho)):Abs.Fn Tryz.prog eval_number_1_i [] [x0,x1,x2] r Ho :=
 fn_intro mixed eval_number_1_ann (fn:=Tryz.f251) (by kernel_rfl) (by kernel_rfl) (by rw [eval_number_1_eq]; exact h)
def eval_divided_1 (x0 x1 x2:AV) (H:List Ob) (K:AV→List Ob→Prop):Prop :=
 aBox x0 H fun v0 h1 =>
 aBox x1 h1 fun v2 h3 =>
 aAlloc [(.p (.int .i64 0)),(.p (.int .i64 0)),(.p (.bool false)),(.p (.str [])),(.full [])] h3 fun v4 h5 =>
 aFieldAddr 1 v2 fun v6 =>
 aLoad false 1 v6 h5 fun v7 =>
 aBin false false .eql v7 (.p (.int .i64 0)) fun v8 =>
 aGuard v8
 (aBuild [(.p (.int .i64 0)),(.p (.int .i64 0)),(.p (.bool false)),(.p (.str [])),(.full [])] [] fun v9 =>
 aStore 5 v4 v9 h5 fun _ h11 =>
 aLoad true 5 v4 h11 fun v12 =>
 K (.tup [v12,(.p (.int .i64 8))]) h11)
 (aLoad false 1 x2 h5 fun v13 =>
 aFieldAddr 1 v0 fun v14 =>
 aLoad false 1 v14 h5 fun v15 =>
 aFieldAddr 1 v2 fun v16 =>
 aLoad false 1 v16 h5 fun v17 =>
 aCall Tryz.prog v13 [v15,v17] h5 fun v18 h19 =>
 aCall Tryz.prog (.p (.func val_Int_i [])) [v18] h19 fun v20 h21 =>
 aStore 5 v4 v20 h21 fun _ h23 =>
 aLoad true 5 v4 h23 fun v24 =>
 K (.tup [v24,(.p (.int .i64 0))]) h23)
def eval_divided_1_ann:Nat→List Nat:=fun _=>[]
theorem eval_divided_1_eq (x0 x1 x2:AV) (H:List Ob) (r:AV) (Ho:List Ob):aBody Tryz.prog eval_divided_1_ann Tryz.f252 H [x0,x1,x2] r Ho = eval_divided_1 x0 x1 x2 H (fun v H'=>Gives H.length v H' r Ho):=by kernel_rfl
theorem eval_divided_1_fn {x0 x1 x2:AV} {r:AV} {Ho:List Ob} (h:eval_divided_1 x0 x1 x2 [] (fun v H'=>Gives 0 v H' r Ho)):Abs.Fn Tryz.prog eval_divided_1_i [] [x0,x1,x2] r Ho :=
 fn_intro mixed eval_divided_1_ann (fn:=Tryz.f252) (by kernel_rfl) (by kernel_rfl) (by rw [eval_divided_1_eq]; exact h)
end Go.Proofs.YtdmgbhamigegfaaGreatDoor
end

section
/- Made by program (Gen.lean): functions of the dump, over trees. -/
set_option maxRecDepth 4000
set_option linter.unusedVariables false
namespace Go.Proofs.YtdmgbhamigegfaaGreatDoor
open Go Go.Abs
def op_Keyed (x0:AV) (H:List Ob) (K:AV→List Ob→Prop):Prop :=
 aBox x0 H fun v0 h1 =>
 aAlloc [(.p (.bool false)),(.p (.bool false)),(.p (.bool false)),(.p (.int .i64 0)),(.p (.int .i64 0)),(.p (.int .i64 0)),(.p (.int .i64 0)),(.p (.int .i64 0)),(.p (.int .i64 0)),(.p (.int .i64 0)),(.p (.int .i64 0))] h1 fun v2 h3 =>
 aCallT Tryz.prog (.p (.func op_shapes_i [])) [] fun v4 =>
 aFieldAddr 0 v0 fun v5 =>
 aLoad false 1 v5 h3 fun v6 =>
 aCallT Tryz.prog (.p (.func op_of_op_shape_i [])) [v4,v6] fun v7 =>
 aExtract v7 0 fun v8 =>
 aExtract v7 1 fun _ =>
 aStore 11 v2 v8 h3 fun _ h11 =>
 aFieldAddr 2 v2 fun v12 =>
 aLoad false 1 v12 h11 fun v13 =>
 K v13 h11
def op_Keyed_ann:Nat→List Nat:=fun _=>[]
theorem op_Keyed_eq (x0:AV) (H:List Ob) (r:AV) (Ho:List Ob):aBody Tryz.prog op_Keyed_ann Tryz.f70 H [x0] r Ho = op_Keyed x0 H (fun v H'=>Gives H.length v H' r Ho):=by kernel_rfl
theorem op_Keyed_fn {x0:AV} {r:AV} {Ho:List Ob} (h:op_Keyed x0 [] (fun v H'=>Gives 0 v H' r Ho)):Abs.Fn Tryz.prog op_Keyed_i [] [x0] r Ho :=
 fn_intro mixed op_Keyed_ann (fn:=Tryz.f70) (by kernel_rfl) (by kernel_rfl) (by rw [op_Keyed_eq]; exact h)
def op_of_op_shape_L1 (q1s1 q1s4 q1s9 q1s10 y0:AV) (H:List Ob) (B1:List AV→List Ob→Prop) (K:AV→List Ob→Prop):Prop :=
 aBin false false .lss y0 q1s10 fun v3 =>
 aGuard v3
 (aIndexAddr 12 q1s9 y0 fun v4 =>
 aLoad true 12 v4 H fun v5 =>
 aAlloc [(.p (.int .i64 0)),(.p (.bool false)),(.p (.bool false)),(.p (.bool false)),(.p (.int .i64 0)),(.p (.int .i64 0)),(.p (.int .i64 0)),(.p (.int .i64 0)),(.p (.int .i64 0)),(.p (.int .i64 0)),(.p (.int .i64 0)),(.p (.int .i64 0))] H fun v6 h7 =>
 aStore 12 v6 v5 h7 fun _ h9 =>
 aFieldAddr 0 v6 fun v10 =>
 aLoad false 1 v10 h9 fun v11 =>
 aBin false false .eql v11 q1s1 fun v12 =>
 aGuard v12
 (aFieldAddr 1 v6 fun v13 =>
 aLoad true 11 v13 h9 fun v14 =>
 aStore 11 q1s4 v14 h9 fun _ h16 =>
 aLoad true 11 q1s4 h16 fun v17 =>
 K (.tup [v17,(.p (.bool true))]) h16)
 (aBin false false .add y0 (.p (.int .i64 1)) fun v18 =>
 B1 [v18] h9))
 (aAlloc [(.p (.bool false)),(.p (.bool false)),(.p (.bool false)),(.p (.int .i64 0)),(.p (.int .i64 0)),(.p (.int .i64 0)),(.p (.int .i64 0)),(.p (.int .i64 0)),(.p (.int .i64 0)),(.p (.int .i64 0)),(.p (.int .i64 0))] H fun v19 h20 =>
 aLoad true 11 v19 h20 fun v21 =>
 aStore 11 q1s4 v21 h20 fun _ h23 =>
 aLoad true 11 q1s4 h23 fun v24 =>
 K (.tup [v24,(.p (.bool false))]) h23)
def op_of_op_shape (x0 x1:AV) (H:List Ob) (K:AV→List Ob→Prop):Prop :=
 aAlloc [(.p (.bool false)),(.p (.bool false)),(.p (.bool false)),(.p (.int .i64 0)),(.p (.int .i64 0)),(.p (.int .i64 0)),(.p (.int .i64 0)),(.p (.int .i64 0)),(.p (.int .i64 0)),(.p (.int .i64 0)),(.p (.int .i64 0))] H fun v0 h1 =>
 aLen false false x0 fun v2 =>
 aLoopN 1 [(.p (.int .i64 0))] h1 fun xs H B1=>op_of_op_shape_L1 x1 v0 x0 v2 (xs.getD 0 .top) H B1 K
def op_of_op_shape_ann:Nat→List Nat:=fun k=>match k with | 2=>[11] | _=>[]
theorem op_of_op_shape_eq (x0 x1:AV) (H:List Ob) (r:AV) (Ho:List Ob):aBody Tryz.prog op_of_op_shape_ann Tryz.f106 H [x0,x1] r Ho = op_of_op_shape x0 x1 H (fun v H'=>Gives H.length v H' r Ho):=by kernel_rfl
theorem op_of_op_shape_fn {x0 x1:AV} {r:AV} {Ho:List Ob} (h:op_of_op_shape x0 x1 [] (fun v H'=>Gives 0 v H' r Ho)):Abs.Fn Tryz.prog op_of_op_shape_i [] [x0,x1] r Ho :=
 fn_intro mixed op_of_op_shape_ann (fn:=Tryz.f106) (by kernel_rfl) (by kernel_rfl) (by rw [op_of_op_shape_eq]; exact h)
def op_shapes (H:List Ob) (K:AV→List Ob→Prop):Prop :=
 aBuild [(.p (.int .i64 0)),(.p (.int .i64 0))] [(0,1,(.p (.int .i64 1))),(1,1,(.p (.int .i64 1)))] fun v0 =>
 aAlloc [(.p (.int .i64 0)),(.p (.int .i64 0))] H fun v1 h2 =>
 aStore 2 v1 v0 h2 fun _ h4 =>
 aBuild [(.p (.bool false)),(.p (.bool false)),(.p (.bool false)),(.p (.int .i64 0)),(.p (.int .i64 0)),(.p (.int .i64 0)),(.p (.int .i64 0)),(.p (.int .i64 0)),(.p (.int .i64 0)),(.p (.int .i64 0)),(.p (.int .i64 0))] [(0,1,(.p (.bool true))),(1,1,(.p (.bool true)))] fun v5 =>
 aBuild [(.p (.int .i64 0)),(.p (.bool false)),(.p (.bool false)),(.p (.bool false)),(.p (.int .i64 0)),(.p (.int .i64 0)),(.p (.int .i64 0)),(.p (.int .i64 0)),(.p (.int .i64 0)),(.p (.int .i64 0)),(.p (.int .i64 0)),(.p (.int .i64 0))] [(0,1,(.p (.int .i64 1))),(1,11,v5)] fun v6 =>
 aLoad true 2 v1 h4 fun v7 =>
 aLoad true 2 v1 h4 fun v8 =>
 aBuild [(.p (.bool false)),(.p (.bool false)),(.p (.bool false)),(.p (.int .i64 0)),(.p (.int .i64 0)),(.p (.int .i64 0)),(.p (.int .i64 0)),(.p (.int .i64 0)),(.p (.int .i64 0)),(.p (.int .i64 0)),(.p (.int .i64 0))] [(3,2,v7),(5,2,v8)] fun v9 =>
 aBuild [(.p (.int .i64 0)),(.p (.bool false)),(.p (.bool false)),(.p (.bool false)),(.p (.int .i64 0)),(.p (.int .i64 0)),(.p (.int .i64 0)),(.p (.int .i64 0)),(.p (.int .i64 0)),(.p (.int .i64 0)),(.p (.int .i64 0)),(.p (.int .i64 0))] [(0,1,(.p (.int .i64 2))),(1,11,v9)] fun v10 =>
 aLoad true 2 v1 h4 fun v11 =>
 aLoad true 2 v1 h4 fun v12 =>
 aBuild [(.p (.bool false)),(.p (.bool false)),(.p (.bool false)),(.p (.int .i64 0)),(.p (.int .i64 0)),(.p (.int .i64 0)),(.p (.int .i64 0)),(.p (.int .i64 0)),(.p (.int .i64 0)),(.p (.int .i64 0)),(.p (.int .i64 0))] [(3,2,v11),(5,2,v12)] fun v13 =>
 aBuild [(.p (.int .i64 0)),(.p (.bool false)),(.p (.bool false)),(.p (.bool false)),(.p (.int .i64 0)),(.p (.int .i64 0)),(.p (.int .i64 0)),(.p (.int .i64 0)),(.p (.int .i64 0)),(.p (.int .i64 0)),(.p (.int .i64 0)),(.p (.int .i64 0))] [(0,1,(.p (.int .i64 3))),(1,11,v13)] fun v14 =>
 aBuild [(.p (.int .i64 0)),(.p (.int .i64 0))] [(0,1,(.p (.int .i64 1))),(1,1,(.p (.int .i64 4)))] fun v15 =>
 aLoad true 2 v1 h4 fun v16 =>
 aBuild [(.p (.bool false)),(.p (.bool false)),(.p (.bool false)),(.p (.int .i64 0)),(.p (.int .i64 0)),(.p (.int .i64 0)),(.p (.int .i64 0)),(.p (.int .i64 0)),(.p (.int .i64 0)),(.p (.int .i64 0)),(.p (.int .i64 0))] [(3,2,v15),(5,2,v16)] fun v17 =>
 aBuild [(.p (.int .i64 0)),(.p (.bool false)),(.p (.bool false)),(.p (.bool false)),(.p (.int .i64 0)),(.p (.int .i64 0)),(.p (.int .i64 0)),(.p (.int .i64 0)),(.p (.int .i64 0)),(.p (.int .i64 0)),(.p (.int .i64 0)),(.p (.int .i64 0))] [(0,1,(.p (.int .i64 4))),(1,11,v17)] fun v18 =>
 aLoad true 2 v1 h4 fun v19 =>
 aLoad true 2 v1 h4 fun v20 =>
 aBuild [(.p (.int .i64 0)),(.p (.int .i64 0))] [(0,1,(.p (.int .i64 1))),(1,1,(.p (.int .i64 4)))] fun v21 =>
 aBuild [(.p (.bool false)),(.p (.bool false)),(.p (.bool false)),(.p (.int .i64 0)),(.p (.int .i64 0)),(.p (.int .i64 0)),(.p (.int .i64 0)),(.p (.int .i64 0)),(.p (.int .i64 0)),(.p (.int .i64 0)),(.p (.int .i64 0))] [(2,1,(.p (.bool true))),(3,2,v19),(5,2,v20),(7,2,v21)] fun v22 =>
 aBuild [(.p (.int .i64 0)),(.p (.bool false)),(.p (.bool false)),(.p (.bool false)),(.p (.int .i64 0)),(.p (.int .i64 0)),(.p (.int .i64 0)),(.p (.int .i64 0)),(.p (.int .i64 0)),(.p (.int .i64 0)),(.p (.int .i64 0)),(.p (.int .i64 0))] [(0,1,(.p (.int .i64 5))),(1,11,v22)] fun v23 =>
 aLoad true 2 v1 h4 fun v24 =>
 aBuild [(.p (.int .i64 0)),(.p (.int .i64 0))] [(0,1,(.p (.int .i64 1))),(1,1,(.p (.int .i64 1000)))] fun v25 =>
 aBuild [(.p (.bool false)),(.p (.bool false)),(.p (.bool false)),(.p (.int .i64 0)),(.p (.int .i64 0)),(.p (.int .i64 0)),(.p (.int .i64 0)),(.p (.int .i64 0)),(.p (.int .i64 0)),(.p (.int .i64 0)),(.p (.int .i64 0))] [(2,1,(.p (.bool true))),(5,2,v24),(9,2,v25)] fun v26 =>
 aBuild [(.p (.int .i64 0)),(.p (.bool false)),(.p (.bool false)),(.p (.bool false)),(.p (.int .i64 0)),(.p (.int .i64 0)),(.p (.int .i64 0)),(.p (.int .i64 0)),(.p (.int .i64 0)),(.p (.int .i64 0)),(.p (.int .i64 0)),(.p (.int .i64 0))] [(0,1,(.p (.int .i64 6))),(1,11,v26)] fun v27 =>
 aLoad true 2 v1 h4 fun v28 =>
 aBuild [(.p (.bool false)),(.p (.bool false)),(.p (.bool false)),(.p (.int .i64 0)),(.p (.int .i64 0)),(.p (.int .i64 0)),(.p (.int .i64 0)),(.p (.int .i64 0)),(.p (.int .i64 0)),(.p (.int .i64 0)),(.p (.int .i64 0))] [(2,1,(.p (.bool true))),(5,2,v28)] fun v29 =>
 aBuild [(.p (.int .i64 0)),(.p (.bool false)),(.p (.bool false)),(.p (.bool false)),(.p (.int .i64 0)),(.p (.int .i64 0)),(.p (.int .i64 0)),(.p (.int .i64 0)),(.p (.int .i64 0)),(.p (.int .i64 0)),(.p (.int .i64 0)),(.p (.int .i64 0))] [(0,1,(.p (.int .i64 7))),(1,11,v29)] fun v30 =>
 aBuild [(.p (.int .i64 0)),(.p (.int .i64 0))] [(0,1,(.p (.int .i64 2))),(1,1,(.p (.int .i64 4)))] fun v31 =>
 aBuild [(.p (.bool false)),(.p (.bool false)),(.p (.bool false)),(.p (.int .i64 0)),(.p (.int .i64 0)),(.p (.int .i64 0)),(.p (.int .i64 0)),(.p (.int .i64 0)),(.p (.int .i64 0)),(.p (.int .i64 0)),(.p (.int .i64 0))] [(5,2,v31)] fun v32 =>
 aBuild [(.p (.int .i64 0)),(.p (.bool false)),(.p (.bool false)),(.p (.bool false)),(.p (.int .i64 0)),(.p (.int .i64 0)),(.p (.int .i64 0)),(.p (.int .i64 0)),(.p (.int .i64 0)),(.p (.int .i64 0)),(.p (.int .i64 0)),(.p (.int .i64 0))] [(0,1,(.p (.int .i64 8))),(1,11,v32)] fun v33 =>
 aLoad true 2 v1 h4 fun v34 =>
 aBuild [(.p (.bool false)),(.p (.bool false)),(.p (.bool false)),(.p (.int .i64 0)),(.p (.int .i64 0)),(.p (.int .i64 0)),(.p (.int .i64 0)),(.p (.int .i64 0)),(.p (.int .i64 0)),(.p (.int .i64 0)),(.p (.int .i64 0))] [(0,1,(.p (.bool true))),(5,2,v34)] fun v35 =>
 aBuild [(.p (.int .i64 0)),(.p (.bool false)),(.p (.bool false)),(.p (.bool false)),(.p (.int .i64 0)),(.p (.int .i64 0)),(.p (.int .i64 0)),(.p (.int .i64 0)),(.p (.int .i64 0)),(.p (.int .i64 0)),(.p (.int .i64 0)),(.p (.int .i64 0))] [(0,1,(.p (.int .i64 9))),(1,11,v35)] fun v36 =>
 aBuildSlice 12 [v6,v10,v14,v18,v23,v27,v30,v33,v36] fun v37 =>
 K v37 h4
def op_shapes_ann:Nat→List Nat:=fun _=>[]
theorem op_shapes_eq (H:List Ob) (r:AV) (Ho:List Ob):aBody Tryz.prog op_shapes_ann Tryz.f107 H [] r Ho = op_shapes H (fun v H'=>Gives H.length v H' r Ho):=by kernel_rfl
theorem op_shapes_fn {r:AV} {Ho:List Ob} (h:op_shapes [] (fun v H'=>Gives 0 v H' r Ho)):Abs.Fn Tryz.prog op_shapes_i [] [] r Ho :=
 fn_intro mixed op_shapes_ann (fn:=Tryz.f107) (by kernel_rfl) (by kernel_rfl) (by rw [op_shapes_eq]; exact h)
def op_Apply_L1 (q1s2 q1s3 q1s20 q1s21 y0 y1:AV) (H:List Ob) (B1:List AV→List Ob→Prop) (K:AV→List Ob→Prop):Prop :=
 aBin false false .lss y1 q1s21 fun v16 =>
 aGuard v16
 (aIndexAddr 8 q1s20 y1 fun v17 =>
 aLoad true 8 v17 H fun v18 =>
 aAlloc [(.p (.str [])),(.p (.int .i64 0)),(.p (.int .i64 0)),(.p (.bool false)),(.p (.str [])),(.full []),(.p (.int .i64 0)),(.full [])] H fun v19 h20 =>
 aStore 8 v19 v18 h20 fun _ h22 =>
 aLoad true 8 v19 h22 fun v23 =>
 aLoad true 5 q1s3 h22 fun v24 =>
 aCall Tryz.prog (.p (.func eval_Eval_i [])) [v23,v24] h22 fun v25 h26 =>
 aExtract v25 0 fun v27 =>
 aExtract v25 1 fun v28 =>
 aAlloc [(.p (.int .i64 0)),(.p (.int .i64 0)),(.p (.bool false)),(.p (.str [])),(.full [])] h26 fun v29 h30 =>
 aStore 5 v29 v27 h30 fun _ h32 =>
 aBin false false .neq v28 (.p (.int .i64 0)) fun v33 =>
 aGuard v33
 (K (.tup [(.full []),v28]) h32)
 (aLoad true 5 v29 h32 fun v34 =>
 aBuildSlice 5 [v34] fun v35 =>
 aAppend false 5 64 y0 v35 h32 fun v36 h37 =>
 aBin false false .add y1 (.p (.int .i64 1)) fun v38 =>
 B1 [v36,v38] h37))
 (aFieldAddr 0 q1s2 fun v39 =>
 aLoad false 1 v39 H fun v40 =>
 aBin false false .eql v40 (.p (.int .i64 3)) fun v41 =>
 aGuard v41
 (aIndexAddr 5 y0 (.p (.int .i64 0)) fun v42 =>
 aFieldAddr 2 v42 fun v43 =>
 aLoad false 1 v43 H fun v44 =>
 aUn .not v44 fun v45 =>
 aGuard v45
 (K (.tup [(.full []),(.p (.int .i64 0))]) H)
 (aLoad true 5 q1s3 H fun v46 =>
 aBuildSlice 5 [v46] fun v47 =>
 K (.tup [v47,(.p (.int .i64 0))]) H))
 (K (.tup [y0,(.p (.int .i64 0))]) H))
def op_Apply (x0 x1:AV) (H:List Ob) (K:AV→List Ob→Prop):Prop :=
 aBox x0 H fun v0 h1 =>
 aBox x1 h1 fun v2 h3 =>
 aFieldAddr 0 v0 fun v4 =>
 aLoad false 1 v4 h3 fun v5 =>
 aBin false false .eql v5 (.p (.int .i64 2)) fun v6 =>
 aMerge false v6 (fun Q7 =>
 aBin false false .eql v5 (.p (.int .i64 3)) fun v8 =>
 aMerge false v8 (fun Q9 =>
 aBin false false .eql v5 (.p (.int .i64 4)) fun v10 =>
 (h3 = h3 ∧ Q9 v10)) fun v11 =>
 (h3 = h3 ∧ Q7 v11)) fun v12 =>
 aGuard v12
 (aFieldAddr 4 v0 fun v13 =>
 aLoad false 1 v13 h3 fun v14 =>
 aLen false false v14 fun v15 =>
 aLoopN 2 [(.full []),(.p (.int .i64 0))] h3 fun xs H B1=>op_Apply_L1 v0 v2 v14 v15 (xs.getD 0 .top) (xs.getD 1 .top) H B1 K)
 (aLoad true 5 v2 h3 fun v48 =>
 aBuildSlice 5 [v48] fun v49 =>
 K (.tup [v49,(.p (.int .i64 0))]) h3)
def op_Apply_ann:Nat→List Nat:=fun k=>match k with | 8=>[6,22] | 1000005=>[1] | 1000004=>[1] | _=>[]
theorem op_Apply_eq (x0 x1:AV) (H:List Ob) (r:AV) (Ho:List Ob):aBody Tryz.prog op_Apply_ann Tryz.f114 H [x0,x1] r Ho = op_Apply x0 x1 H (fun v H'=>Gives H.length v H' r Ho):=by kernel_rfl
theorem op_Apply_fn {x0 x1:AV} {r:AV} {Ho:List Ob} (h:op_Apply x0 x1 [] (fun v H'=>Gives 0 v H' r Ho)):Abs.Fn Tryz.prog op_Apply_i [] [x0,x1] r Ho :=
 fn_intro mixed op_Apply_ann (fn:=Tryz.f114) (by kernel_rfl) (by kernel_rfl) (by rw [op_Apply_eq]; exact h)
def op_Name_L1 (q1s0 q1s6 q1s7 y0:AV) (H:List Ob) (B1:List AV→List Ob→Prop) (K:AV→List Ob→Prop):Prop :=
 aBin false false .lss y0 q1s7 fun v2 =>
 aGuard v2
 (aIndexAddr 1 q1s6 y0 fun v3 =>
 aLoad false 1 v3 H fun v4 =>
 aBin false false .geq v4 (.p (.int .u8 97)) fun v5 =>
 aMerge true v5 (fun Q6 =>
 aBin false false .leq v4 (.p (.int .u8 122)) fun v7 =>
 (H = H ∧ Q6 v7)) fun v8 =>
 aMerge false v8 (fun Q9 =>
 aBin false false .gtr y0 (.p (.int .i64 0)) fun v10 =>
 aMerge true v10 (fun Q11 =>
 aBin false false .geq v4 (.p (.int .u8 48)) fun v12 =>
 aMerge true v12 (fun Q13 =>
 aBin false false .leq v4 (.p (.int .u8 57)) fun v14 =>
 (H = H ∧ Q13 v14)) fun v15 =>
 aMerge false v15 (fun Q16 =>
 aBin false false .eql v4 (.p (.int .u8 95)) fun v17 =>
 (H = H ∧ Q16 v17)) fun v18 =>
 (H = H ∧ Q11 v18)) fun v19 =>
 (H = H ∧ Q9 v19)) fun v20 =>
 aUn .not v20 fun v21 =>
 aGuard v21
 (K (.p (.bool false)) H)
 (aBin false false .add y0 (.p (.int .i64 1)) fun v22 =>
 B1 [v22] H))
 (aBin false false .neq q1s0 (.p (.str [])) fun v23 =>
 aMerge true v23 (fun Q24 =>
 aLenS true q1s0 fun v25 =>
 aBin false false .leq v25 (.p (.int .i64 16)) fun v26 =>
 (H = H ∧ Q24 v26)) fun v27 =>
 K v27 H)
def op_Name (x0:AV) (H:List Ob) (K:AV→List Ob→Prop):Prop :=
 aStrBytes x0 fun v0 =>
 aLen false false v0 fun v1 =>
 aLoopN 1 [(.p (.int .i64 0))] H fun xs H B1=>op_Name_L1 x0 v0 v1 (xs.getD 0 .top) H B1 K
def op_Name_ann:Nat→List Nat:=fun k=>match k with | 2=>[8] | _=>[]
theorem op_Name_eq (x0:AV) (H:List Ob) (r:AV) (Ho:List Ob):aBody Tryz.prog op_Name_ann Tryz.f126 H [x0] r Ho = op_Name x0 H (fun v H'=>Gives H.length v H' r Ho):=by kernel_rfl
theorem op_Name_fn {x0:AV} {r:AV} {Ho:List Ob} (h:op_Name x0 [] (fun v H'=>Gives 0 v H' r Ho)):Abs.Fn Tryz.prog op_Name_i [] [x0] r Ho :=
 fn_intro mixed op_Name_ann (fn:=Tryz.f126) (by kernel_rfl) (by kernel_rfl) (by rw [op_Name_eq]; exact h)
def op_Out_J2 (j2s1 j2s2 j2s4 j2s8 j2s10:AV) (H:List Ob) (K:AV→List Ob→Prop):Prop :=
 aLoad true 15 j2s2 H fun v61 =>
 aCall Tryz.prog (.p (.func op_Op_fits_i [])) [v61,j2s10,j2s1] H fun v62 h63 =>
 aUn .not v62 fun v64 =>
 aGuard v64
 (aBuild [(.p (.int .i64 0)),(.full [])] [] fun v65 =>
 aStore 2 j2s4 v65 h63 fun _ h67 =>
 aLoad true 2 j2s4 h67 fun v68 =>
 K (.tup [v68,(.p (.int .i64 5))]) h67)
 (aLoad true 15 j2s2 h63 fun v69 =>
 aLoad true 2 j2s8 h63 fun v70 =>
 aCall Tryz.prog (.p (.func op_Op_goes_i [])) [v69,v70,j2s10,j2s1] h63 fun v71 h72 =>
 aAlloc [(.p (.int .i64 0)),(.full [])] h72 fun v73 h74 =>
 aStore 2 v73 v71 h74 fun _ h76 =>
 aLoad true 2 v73 h76 fun v77 =>
 aCall Tryz.prog (.p (.func typ_Check_i [])) [v77] h76 fun v78 h79 =>
 aBin false false .neq v78 (.p (.int .i64 0)) fun v80 =>
 aGuard v80
 (aBuild [(.p (.int .i64 0)),(.full [])] [] fun v81 =>
 aStore 2 j2s4 v81 h79 fun _ h83 =>
 aLoad true 2 j2s4 h83 fun v84 =>
 K (.tup [v84,v78]) h83)
 (aLoad true 2 v73 h79 fun v85 =>
 aStore 2 j2s4 v85 h79 fun _ h87 =>
 aLoad true 2 j2s4 h87 fun v88 =>
 K (.tup [v88,(.p (.int .i64 0))]) h87))
def op_Out_J1 (j1s1 j1s2 j1s4 j1s8:AV) (H:List Ob) (K:AV→List Ob→Prop):Prop :=
 aFieldAddr 4 j1s2 fun v89 =>
 aLoad false 1 v89 H fun v90 =>
 aLen false false v90 fun v91 =>
 aBin false false .gtr v91 (.p (.int .i64 0)) fun v92 =>
 aGuard v92
 (aLoad true 15 j1s2 H fun v93 =>
 aIndexAddr 2 j1s1 (.p (.int .i64 0)) fun v94 =>
 aLoad true 2 v94 H fun v95 =>
 aCallT Tryz.prog (.p (.func op_Op_es_i [])) [v93,v95] fun v96 =>
 aExtract v96 0 fun v97 =>
 aExtract v96 1 fun v98 =>
 aBin false false .neq v98 (.p (.int .i64 0)) fun v99 =>
 aGuard v99
 (aBuild [(.p (.int .i64 0)),(.full [])] [] fun v100 =>
 aStore 2 j1s4 v100 H fun _ h102 =>
 aLoad true 2 j1s4 h102 fun v103 =>
 K (.tup [v103,v98]) h102)
 (op_Out_J2 j1s1 j1s2 j1s4 j1s8 v97 H K))
 (op_Out_J2 j1s1 j1s2 j1s4 j1s8 (.full []) H K)
def op_Out (x0 x1:AV) (H:List Ob) (K:AV→List Ob→Prop):Prop :=
 aBox x0 H fun v0 h1 =>
 aAlloc [(.p (.int .i64 0)),(.full [])] h1 fun v2 h3 =>
 aAlloc [(.p (.bool false)),(.p (.bool false)),(.p (.bool false)),(.p (.int .i64 0)),(.p (.int .i64 0)),(.p (.int .i64 0)),(.p (.int .i64 0)),(.p (.int .i64 0)),(.p (.int .i64 0)),(.p (.int .i64 0)),(.p (.int .i64 0))] h3 fun v4 h5 =>
 aCallT Tryz.prog (.p (.func op_shapes_i [])) [] fun v6 =>
 aFieldAddr 0 v0 fun v7 =>
 aLoad false 1 v7 h5 fun v8 =>
 aCallT Tryz.prog (.p (.func op_of_op_shape_i [])) [v6,v8] fun v9 =>
 aExtract v9 0 fun v10 =>
 aExtract v9 1 fun v11 =>
 aStore 11 v4 v10 h5 fun _ h13 =>
 aUn .not v11 fun v14 =>
 aMerge false v14 (fun Q15 =>
 aFieldAddr 0 v4 fun v16 =>
 aLoad false 1 v16 h13 fun v17 =>
 aMerge true v17 (fun Q18 =>
 aFieldAddr 1 v0 fun v19 =>
 aLoad false 1 v19 h13 fun v20 =>
 aCall Tryz.prog (.p (.func op_Name_i [])) [v20] h13 fun v21 h22 =>
 aUn .not v21 fun v23 =>
 (h22 = h13 ∧ Q18 v23)) fun v24 =>
 (h13 = h13 ∧ Q15 v24)) fun v25 =>
 aGuard v25
 (aBuild [(.p (.int .i64 0)),(.full [])] [] fun v26 =>
 aStore 2 v2 v26 h13 fun _ h28 =>
 aLoad true 2 v2 h28 fun v29 =>
 K (.tup [v29,(.p (.int .i64 6))]) h28)
 (aLoad true 15 v0 h13 fun v30 =>
 aLoad true 11 v4 h13 fun v31 =>
 aLen false false x1 fun v32 =>
 aCall Tryz.prog (.p (.func op_Op_fields_i [])) [v30,v31,v32] h13 fun v33 h34 =>
 aUn .not v33 fun v35 =>
 aGuard v35
 (aBuild [(.p (.int .i64 0)),(.full [])] [] fun v36 =>
 aStore 2 v2 v36 h34 fun _ h38 =>
 aLoad true 2 v2 h38 fun v39 =>
 K (.tup [v39,(.p (.int .i64 1))]) h38)
 (aCall Tryz.prog (.p (.func op_types_i [])) [x1] h34 fun v40 h41 =>
 aUn .not v40 fun v42 =>
 aMerge false v42 (fun Q43 =>
 aFieldAddr 1 v4 fun v44 =>
 aLoad false 1 v44 h41 fun v45 =>
 aMerge true v45 (fun Q46 =>
 aFieldAddr 2 v0 fun v47 =>
 aLoad true 2 v47 h41 fun v48 =>
 aBuildSlice 2 [v48] fun v49 =>
 aCall Tryz.prog (.p (.func op_types_i [])) [v49] h41 fun v50 h51 =>
 aUn .not v50 fun v52 =>
 (h51 = h41 ∧ Q46 v52)) fun v53 =>
 (h41 = h41 ∧ Q43 v53)) fun v54 =>
 aGuard v54
 (aBuild [(.p (.int .i64 0)),(.full [])] [] fun v55 =>
 aStore 2 v2 v55 h41 fun _ h57 =>
 aLoad true 2 v2 h57 fun v58 =>
 K (.tup [v58,(.p (.int .i64 5))]) h57)
 (aAlloc [(.p (.int .i64 0)),(.full [])] h41 fun v59 h60 =>
 aFieldAddr 2 v4 fun v104 =>
 aLoad false 1 v104 h60 fun v105 =>
 aGuard v105
 (aFieldAddr 5 v0 fun v106 =>
 aLoad true 8 v106 h60 fun v107 =>
 aIndexAddr 2 x1 (.p (.int .i64 0)) fun v108 =>
 aLoad true 2 v108 h60 fun v109 =>
 aCallT Tryz.prog (.p (.func expr_Check_i [])) [v107,v109] fun v110 =>
 aExtract v110 0 fun v111 =>
 aExtract v110 1 fun v112 =>
 aStore 2 v59 v111 h60 fun _ h114 =>
 aBin false false .neq v112 (.p (.int .i64 0)) fun v115 =>
 aGuard v115
 (aBuild [(.p (.int .i64 0)),(.full [])] [] fun v116 =>
 aStore 2 v2 v116 h114 fun _ h118 =>
 aLoad true 2 v2 h118 fun v119 =>
 K (.tup [v119,v112]) h118)
 (op_Out_J1 x1 v0 v2 v59 h114 K))
 (op_Out_J1 x1 v0 v2 v59 h60 K))))
def op_Out_ann:Nat→List Nat:=fun k=>match k with | 1000003=>[1] | 1000008=>[1] | _=>[]
theorem op_Out_eq (x0 x1:AV) (H:List Ob) (r:AV) (Ho:List Ob):aBody Tryz.prog op_Out_ann Tryz.f129 H [x0,x1] r Ho = op_Out x0 x1 H (fun v H'=>Gives H.length v H' r Ho):=by kernel_rfl
theorem op_Out_fn {x0 x1:AV} {r:AV} {Ho:List Ob} (h:op_Out x0 x1 [] (fun v H'=>Gives 0 v H' r Ho)):Abs.Fn Tryz.prog op_Out_i [] [x0,x1] r Ho :=
 fn_intro mixed op_Out_ann (fn:=Tryz.f129) (by kernel_rfl) (by kernel_rfl) (by rw [op_Out_eq]; exact h)
def op_Op_fields (x0 x1 x2:AV) (H:List Ob) (K:AV→List Ob→Prop):Prop :=
 aBox x0 H fun v0 h1 =>
 aBox x1 h1 fun v2 h3 =>
 aFieldAddr 0 v2 fun v4 =>
 aLoad false 1 v4 h3 fun v5 =>
 aMerge false v5 (fun Q6 =>
 aFieldAddr 1 v0 fun v7 =>
 aLoad false 1 v7 h3 fun v8 =>
 aBin false false .eql v8 (.p (.str [])) fun v9 =>
 (h3 = h3 ∧ Q6 v9)) fun v10 =>
 aMerge true v10 (fun Q11 =>
 aFieldAddr 1 v2 fun v12 =>
 aLoad false 1 v12 h3 fun v13 =>
 aMerge false v13 (fun Q14 =>
 aFieldAddr 2 v0 fun v15 =>
 aFieldAddr 0 v15 fun v16 =>
 aLoad false 1 v16 h3 fun v17 =>
 aBin false false .eql v17 (.p (.int .i64 0)) fun v18 =>
 aMerge true v18 (fun Q19 =>
 aFieldAddr 2 v0 fun v20 =>
 aFieldAddr 1 v20 fun v21 =>
 aLoad false 1 v21 h3 fun v22 =>
 aLenS false v22 fun v23 =>
 aBin false false .eql v23 (.p (.int .i64 0)) fun v24 =>
 (h3 = h3 ∧ Q19 v24)) fun v25 =>
 (h3 = h3 ∧ Q14 v25)) fun v26 =>
 (h3 = h3 ∧ Q11 v26)) fun v27 =>
 aMerge true v27 (fun Q28 =>
 aFieldAddr 2 v2 fun v29 =>
 aLoad false 1 v29 h3 fun v30 =>
 aMerge false v30 (fun Q31 =>
 aFieldAddr 5 v0 fun v32 =>
 aLoad true 8 v32 h3 fun v33 =>
 aCall Tryz.prog (.p (.func op_nothing_i [])) [v33] h3 fun v34 h35 =>
 (h35 = h3 ∧ Q31 v34)) fun v36 =>
 (h3 = h3 ∧ Q28 v36)) fun v37 =>
 aMerge true v37 (fun Q38 =>
 aFieldAddr 3 v2 fun v39 =>
 aLoad true 2 v39 h3 fun v40 =>
 aFieldAddr 4 v0 fun v41 =>
 aLoad false 1 v41 h3 fun v42 =>
 aLenS false v42 fun v43 =>
 aCall Tryz.prog (.p (.func op_span_in_i [])) [v40,v43] h3 fun v44 h45 =>
 (h45 = h3 ∧ Q38 v44)) fun v46 =>
 aMerge true v46 (fun Q47 =>
 aFieldAddr 7 v2 fun v48 =>
 aLoad true 2 v48 h3 fun v49 =>
 aFieldAddr 13 v0 fun v50 =>
 aLoad false 1 v50 h3 fun v51 =>
 aCall Tryz.prog (.p (.func op_span_in_i [])) [v49,v51] h3 fun v52 h53 =>
 (h53 = h3 ∧ Q47 v52)) fun v54 =>
 aMerge true v54 (fun Q55 =>
 aFieldAddr 9 v2 fun v56 =>
 aLoad true 2 v56 h3 fun v57 =>
 aFieldAddr 14 v0 fun v58 =>
 aLoad false 1 v58 h3 fun v59 =>
 aCall Tryz.prog (.p (.func op_span_in_i [])) [v57,v59] h3 fun v60 h61 =>
 (h61 = h3 ∧ Q55 v60)) fun v62 =>
 aMerge true v62 (fun Q63 =>
 aFieldAddr 5 v2 fun v64 =>
 aLoad true 2 v64 h3 fun v65 =>
 aCall Tryz.prog (.p (.func op_span_in_i [])) [v65,x2] h3 fun v66 h67 =>
 (h67 = h3 ∧ Q63 v66)) fun v68 =>
 K v68 h3
def op_Op_fields_ann:Nat→List Nat:=fun _=>[]
theorem op_Op_fields_eq (x0 x1 x2:AV) (H:List Ob) (r:AV) (Ho:List Ob):aBody Tryz.prog op_Op_fields_ann Tryz.f161 H [x0,x1,x2] r Ho = op_Op_fields x0 x1 x2 H (fun v H'=>Gives H.length v H' r Ho):=by kernel_rfl
theorem op_Op_fields_fn {x0 x1 x2:AV} {r:AV} {Ho:List Ob} (h:op_Op_fields x0 x1 x2 [] (fun v H'=>Gives 0 v H' r Ho)):Abs.Fn Tryz.prog op_Op_fields_i [] [x0,x1,x2] r Ho :=
 fn_intro mixed op_Op_fields_ann (fn:=Tryz.f161) (by kernel_rfl) (by kernel_rfl) (by rw [op_Op_fields_eq]; exact h)
def op_types_L1 (q1s5 q1s6 y0:AV) (H:List Ob) (B1:List AV→List Ob→Prop) (K:AV→List Ob→Prop):Prop :=
 aBin false false .lss y0 q1s6 fun v1 =>
 aGuard v1
 (aIndexAddr 2 q1s5 y0 fun v2 =>
 aLoad true 2 v2 H fun v3 =>
 aAlloc [(.p (.int .i64 0)),(.full [])] H fun v4 h5 =>
 aStore 2 v4 v3 h5 fun _ h7 =>
 aLoad true 2 v4 h7 fun v8 =>
 aCall Tryz.prog (.p (.func typ_Check_i [])) [v8] h7 fun v9 h10 =>
 aBin false false .neq v9 (.p (.int .i64 0)) fun v11 =>
 aGuard v11
 (K (.p (.bool false)) h10)
 (aBin false false .add y0 (.p (.int .i64 1)) fun v12 =>
 B1 [v12] h10))
 (K (.p (.bool true)) H)
def op_types (x0:AV) (H:List Ob) (K:AV→List Ob→Prop):Prop :=
 aLen false false x0 fun v0 =>
 aLoopN 1 [(.p (.int .i64 0))] H fun xs H B1=>op_types_L1 x0 v0 (xs.getD 0 .top) H B1 K
def op_types_ann:Nat→List Nat:=fun k=>match k with | 2=>[7] | _=>[]
theorem op_types_eq (x0:AV) (H:List Ob) (r:AV) (Ho:List Ob):aBody Tryz.prog op_types_ann Tryz.f162 H [x0] r Ho = op_types x0 H (fun v H'=>Gives H.length v H' r Ho):=by kernel_rfl
theorem op_types_fn {x0:AV} {r:AV} {Ho:List Ob} (h:op_types x0 [] (fun v H'=>Gives 0 v H' r Ho)):Abs.Fn Tryz.prog op_types_i [] [x0] r Ho :=
 fn_intro mixed op_types_ann (fn:=Tryz.f162) (by kernel_rfl) (by kernel_rfl) (by rw [op_types_eq]; exact h)
def op_Op_es_L1 (q1s3 q1s12 q1s13 y0 y1:AV) (H:List Ob) (B1:List AV→List Ob→Prop) (K:AV→List Ob→Prop):Prop :=
 aBin false false .lss y1 q1s13 fun v7 =>
 aGuard v7
 (aIndexAddr 8 q1s12 y1 fun v8 =>
 aLoad true 8 v8 H fun v9 =>
 aAlloc [(.p (.str [])),(.p (.int .i64 0)),(.p (.int .i64 0)),(.p (.bool false)),(.p (.str [])),(.full []),(.p (.int .i64 0)),(.full [])] H fun v10 h11 =>
 aStore 8 v10 v9 h11 fun _ h13 =>
 aLoad true 8 v10 h13 fun v14 =>
 aLoad true 2 q1s3 h13 fun v15 =>
 aCall Tryz.prog (.p (.func expr_Check_i [])) [v14,v15] h13 fun v16 h17 =>
 aExtract v16 0 fun v18 =>
 aExtract v16 1 fun v19 =>
 aAlloc [(.p (.int .i64 0)),(.full [])] h17 fun v20 h21 =>
 aStore 2 v20 v18 h21 fun _ h23 =>
 aBin false false .neq v19 (.p (.int .i64 0)) fun v24 =>
 aGuard v24
 (K (.tup [(.full []),v19]) h23)
 (aLoad true 2 v20 h23 fun v25 =>
 aBuildSlice 2 [v25] fun v26 =>
 aAppend false 2 32 y0 v26 h23 fun v27 h28 =>
 aBin false false .add y1 (.p (.int .i64 1)) fun v29 =>
 B1 [v27,v29] h28))
 (K (.tup [y0,(.p (.int .i64 0))]) H)
def op_Op_es (x0 x1:AV) (H:List Ob) (K:AV→List Ob→Prop):Prop :=
 aBox x0 H fun v0 h1 =>
 aBox x1 h1 fun v2 h3 =>
 aFieldAddr 4 v0 fun v4 =>
 aLoad false 1 v4 h3 fun v5 =>
 aLen false false v5 fun v6 =>
 aLoopN 2 [(.full []),(.p (.int .i64 0))] h3 fun xs H B1=>op_Op_es_L1 v2 v5 v6 (xs.getD 0 .top) (xs.getD 1 .top) H B1 K
def op_Op_es_ann:Nat→List Nat:=fun k=>match k with | 3=>[6,14] | _=>[]
theorem op_Op_es_eq (x0 x1:AV) (H:List Ob) (r:AV) (Ho:List Ob):aBody Tryz.prog op_Op_es_ann Tryz.f164 H [x0,x1] r Ho = op_Op_es x0 x1 H (fun v H'=>Gives H.length v H' r Ho):=by kernel_rfl
theorem op_Op_es_fn {x0 x1:AV} {r:AV} {Ho:List Ob} (h:op_Op_es x0 x1 [] (fun v H'=>Gives 0 v H' r Ho)):Abs.Fn Tryz.prog op_Op_es_i [] [x0,x1] r Ho :=
 fn_intro mixed op_Op_es_ann (fn:=Tryz.f164) (by kernel_rfl) (by kernel_rfl) (by rw [op_Op_es_eq]; exact h)
def op_Op_fits (x0 x1 x2:AV) (H:List Ob) (K:AV→List Ob→Prop):Prop :=
 aBox x0 H fun v0 h1 =>
 aFieldAddr 0 v0 fun v2 =>
 aLoad false 1 v2 h1 fun v3 =>
 aBin false false .eql v3 (.p (.int .i64 3)) fun v4 =>
 aGuard v4
 (aIndexAddr 2 x1 (.p (.int .i64 0)) fun v5 =>
 aFieldAddr 0 v5 fun v6 =>
 aLoad false 1 v6 h1 fun v7 =>
 aBin false false .eql v7 (.p (.int .i64 2)) fun v8 =>
 K v8 h1)
 (aBin false false .eql v3 (.p (.int .i64 4)) fun v9 =>
 aGuard v9
 (aCall Tryz.prog (.p (.func op_alike_i [])) [x1] h1 fun v10 h11 =>
 K v10 h11)
 (aBin false false .eql v3 (.p (.int .i64 5)) fun v12 =>
 aGuard v12
 (aIndexAddr 2 x1 (.p (.int .i64 0)) fun v13 =>
 aFieldAddr 0 v13 fun v14 =>
 aLoad false 1 v14 h1 fun v15 =>
 aBin false false .eql v15 (.p (.int .i64 1)) fun v16 =>
 K v16 h1)
 (aBin false false .eql v3 (.p (.int .i64 8)) fun v17 =>
 aGuard v17
 (aCall Tryz.prog (.p (.func op_alike_i [])) [x2] h1 fun v18 h19 =>
 K v18 h19)
 (K (.p (.bool true)) h1))))
def op_Op_fits_ann:Nat→List Nat:=fun _=>[]
theorem op_Op_fits_eq (x0 x1 x2:AV) (H:List Ob) (r:AV) (Ho:List Ob):aBody Tryz.prog op_Op_fits_ann Tryz.f165 H [x0,x1,x2] r Ho = op_Op_fits x0 x1 x2 H (fun v H'=>Gives H.length v H' r Ho):=by kernel_rfl
theorem op_Op_fits_fn {x0 x1 x2:AV} {r:AV} {Ho:List Ob} (h:op_Op_fits x0 x1 x2 [] (fun v H'=>Gives 0 v H' r Ho)):Abs.Fn Tryz.prog op_Op_fits_i [] [x0,x1,x2] r Ho :=
 fn_intro mixed op_Op_fits_ann (fn:=Tryz.f165) (by kernel_rfl) (by kernel_rfl) (by rw [op_Op_fits_eq]; exact h)
def op_Op_goes (x0 x1 x2 x3:AV) (H:List Ob) (K:AV→List Ob→Prop):Prop :=
 aBox x0 H fun v0 h1 =>
 aBox x1 h1 fun v2 h3 =>
 aAlloc [(.p (.int .i64 0)),(.full [])] h3 fun v4 h5 =>
 aFieldAddr 0 v0 fun v6 =>
 aLoad false 1 v6 h5 fun v7 =>
 aBin false false .eql v7 (.p (.int .i64 1)) fun v8 =>
 aGuard v8
 (aFieldAddr 2 v0 fun v9 =>
 aLoad true 2 v9 h5 fun v10 =>
 aStore 2 v4 v10 h5 fun _ h12 =>
 aLoad true 2 v4 h12 fun v13 =>
 K v13 h12)
 (aBin false false .eql v7 (.p (.int .i64 2)) fun v14 =>
 aMerge false v14 (fun Q15 =>
 aBin false false .eql v7 (.p (.int .i64 4)) fun v16 =>
 (h5 = h5 ∧ Q15 v16)) fun v17 =>
 aGuard v17
 (aIndexAddr 2 x2 (.p (.int .i64 0)) fun v18 =>
 aLoad true 2 v18 h5 fun v19 =>
 aStore 2 v4 v19 h5 fun _ h21 =>
 aLoad true 2 v4 h21 fun v22 =>
 K v22 h21)
 (aBin false false .eql v7 (.p (.int .i64 5)) fun v23 =>
 aMerge false v23 (fun Q24 =>
 aBin false false .eql v7 (.p (.int .i64 6)) fun v25 =>
 (h5 = h5 ∧ Q24 v25)) fun v26 =>
 aGuard v26
 (aLoad true 2 v2 h5 fun v27 =>
 aBuild [(.p (.int .i64 0)),(.full [])] [(0,1,(.p (.int .i64 1)))] fun v28 =>
 aBuildSlice 2 [v27,v28] fun v29 =>
 aBuild [(.p (.int .i64 0)),(.full [])] [(0,1,(.p (.int .i64 4))),(1,1,v29)] fun v30 =>
 aStore 2 v4 v30 h5 fun _ h32 =>
 aLoad true 2 v4 h32 fun v33 =>
 K v33 h32)
 (aBin false false .eql v7 (.p (.int .i64 7)) fun v34 =>
 aGuard v34
 (aLoad true 2 v2 h5 fun v35 =>
 aStore 2 v4 v35 h5 fun _ h37 =>
 aLoad true 2 v4 h37 fun v38 =>
 K v38 h37)
 (aIndexAddr 2 x3 (.p (.int .i64 0)) fun v39 =>
 aLoad true 2 v39 h5 fun v40 =>
 aStore 2 v4 v40 h5 fun _ h42 =>
 aLoad true 2 v4 h42 fun v43 =>
 K v43 h42))))
def op_Op_goes_ann:Nat→List Nat:=fun k=>match k with | 1000005=>[1] | 1000008=>[1] | _=>[]
theorem op_Op_goes_eq (x0 x1 x2 x3:AV) (H:List Ob) (r:AV) (Ho:List Ob):aBody Tryz.prog op_Op_goes_ann Tryz.f166 H [x0,x1,x2,x3] r Ho = op_Op_goes x0 x1 x2 x3 H (fun v H'=>Gives H.length v H' r Ho):=by kernel_rfl
theorem op_Op_goes_fn {x0 x1 x2 x3:AV} {r:AV} {Ho:List Ob} (h:op_Op_goes x0 x1 x2 x3 [] (fun v H'=>Gives 0 v H' r Ho)):Abs.Fn Tryz.prog op_Op_goes_i [] [x0,x1,x2,x3] r Ho :=
 fn_intro mixed op_Op_goes_ann (fn:=Tryz.f166) (by kernel_rfl) (by kernel_rfl) (by rw [op_Op_goes_eq]; exact h)
def op_nothing (x0:AV) (H:List Ob) (K:AV→List Ob→Prop):Prop :=
 aBox x0 H fun v0 h1 =>
 aFieldAddr 0 v0 fun v2 =>
 aLoad false 1 v2 h1 fun v3 =>
 aBin false false .eql v3 (.p (.str [])) fun v4 =>
 aMerge true v4 (fun Q5 =>
 aFieldAddr 1 v0 fun v6 =>
 aLoad true 5 v6 h1 fun v7 =>
 aBuild [(.p (.int .i64 0)),(.p (.int .i64 0)),(.p (.bool false)),(.p (.str [])),(.full [])] [] fun v8 =>
 aCall Tryz.prog (.p (.func val_Same_i [])) [v7,v8] h1 fun v9 h10 =>
 (h10 = h1 ∧ Q5 v9)) fun v11 =>
 aMerge true v11 (fun Q12 =>
 aFieldAddr 6 v0 fun v13 =>
 aLoad false 1 v13 h1 fun v14 =>
 aBin false false .eql v14 (.p (.int .i64 0)) fun v15 =>
 (h1 = h1 ∧ Q12 v15)) fun v16 =>
 aMerge true v16 (fun Q17 =>
 aFieldAddr 7 v0 fun v18 =>
 aLoad false 1 v18 h1 fun v19 =>
 aLenS false v19 fun v20 =>
 aBin false false .eql v20 (.p (.int .i64 0)) fun v21 =>
 (h1 = h1 ∧ Q17 v21)) fun v22 =>
 K v22 h1
def op_nothing_ann:Nat→List Nat:=fun _=>[]
theorem op_nothing_eq (x0:AV) (H:List Ob) (r:AV) (Ho:List Ob):aBody Tryz.prog op_nothing_ann Tryz.f189 H [x0] r Ho = op_nothing x0 H (fun v H'=>Gives H.length v H' r Ho):=by kernel_rfl
theorem op_nothing_fn {x0:AV} {r:AV} {Ho:List Ob} (h:op_nothing x0 [] (fun v H'=>Gives 0 v H' r Ho)):Abs.Fn Tryz.prog op_nothing_i [] [x0] r Ho :=
 fn_intro mixed op_nothing_ann (fn:=Tryz.f189) (by kernel_rfl) (by kernel_rfl) (by rw [op_nothing_eq]; exact h)
def op_span_in (x0 x1:AV) (H:List Ob) (K:AV→List Ob→Prop):Prop :=
 aBox x0 H fun v0 h1 =>
 aFieldAddr 0 v0 fun v2 =>
 aLoad false 1 v2 h1 fun v3 =>
 aBin false false .geq x1 v3 fun v4 =>
 aMerge true v4 (fun Q5 =>
 aFieldAddr 1 v0 fun v6 =>
 aLoad false 1 v6 h1 fun v7 =>
 aBin false false .leq x1 v7 fun v8 =>
 (h1 = h1 ∧ Q5 v8)) fun v9 =>
 K v9 h1
def op_span_in_ann:Nat→List Nat:=fun _=>[]
theorem op_span_in_eq (x0 x1:AV) (H:List Ob) (r:AV) (Ho:List Ob):aBody Tryz.prog op_span_in_ann Tryz.f190 H [x0,x1] r Ho = op_span_in x0 x1 H (fun v H'=>Gives H.length v H' r Ho):=by kernel_rfl
theorem op_span_in_fn {x0 x1:AV} {r:AV} {Ho:List Ob} (h:op_span_in x0 x1 [] (fun v H'=>Gives 0 v H' r Ho)):Abs.Fn Tryz.prog op_span_in_i [] [x0,x1] r Ho :=
 fn_intro mixed op_span_in_ann (fn:=Tryz.f190) (by kernel_rfl) (by kernel_rfl) (by rw [op_span_in_eq]; exact h)
def op_alike_L1 (q1s0 q1s5 q1s6 y0:AV) (H:List Ob) (B1:List AV→List Ob→Prop) (K:AV→List Ob→Prop):Prop :=
 aBin false false .lss y0 q1s6 fun v1 =>
 aGuard v1
 (aIndexAddr 2 q1s5 y0 fun v2 =>
 aLoad true 2 v2 H fun v3 =>
 aAlloc [(.p (.int .i64 0)),(.full [])] H fun v4 h5 =>
 aStore 2 v4 v3 h5 fun _ h7 =>
 aLoad true 2 v4 h7 fun v8 =>
 aIndexAddr 2 q1s0 (.p (.int .i64 0)) fun v9 =>
 aLoad true 2 v9 h7 fun v10 =>
 aCallT Tryz.prog (.p (.func typ_Same_i [])) [v8,v10] fun v11 =>
 aUn .not v11 fun v12 =>
 aGuard v12
 (K (.p (.bool false)) h7)
 (aBin false false .add y0 (.p (.int .i64 1)) fun v13 =>
 B1 [v13] h7))
 (K (.p (.bool true)) H)
def op_alike (x0:AV) (H:List Ob) (K:AV→List Ob→Prop):Prop :=
 aLen false false x0 fun v0 =>
 aLoopN 1 [(.p (.int .i64 0))] H fun xs H B1=>op_alike_L1 x0 x0 v0 (xs.getD 0 .top) H B1 K
def op_alike_ann:Nat→List Nat:=fun k=>match k with | 2=>[7] | _=>[]
theorem op_alike_eq (x0:AV) (H:List Ob) (r:AV) (Ho:List Ob):aBody Tryz.prog op_alike_ann Tryz.f193 H [x0] r Ho = op_alike x0 H (fun v H'=>Gives H.length v H' r Ho):=by kernel_rfl
theorem op_alike_fn {x0:AV} {r:AV} {Ho:List Ob} (h:op_alike x0 [] (fun v H'=>Gives 0 v H' r Ho)):Abs.Fn Tryz.prog op_alike_i [] [x0] r Ho :=
 fn_intro mixed op_alike_ann (fn:=Tryz.f193) (by kernel_rfl) (by kernel_rfl) (by rw [op_alike_eq]; exact h)
end Go.Proofs.YtdmgbhamigegfaaGreatDoor
end

section
/- Made by program (Gen.lean): functions of the dump, over trees. -/
set_option maxRecDepth 4000
set_option linter.unusedVariables false
namespace Go.Proofs.YtdmgbhamigegfaaGreatDoor
open Go Go.Abs
def deno_Whole_L1 (q1s0 q1s1 q1s4 q1s7 y0 y1:AV) (H:List Ob) (B1:List AV→List Ob→Prop) (K:AV→List Ob→Prop):Prop :=
 aBin false false .lss y1 q1s7 fun v3 =>
 aGuard v3
 (aBuildSlice 1 [(.p (.int .i64 1000))] fun v4 =>
 aCall Tryz.prog (.p (.func slices_Repeat_int_int_i [])) [v4,(.p (.int .i64 16))] H fun v5 h6 =>
 aBuildSlice 1 [v5] fun v7 =>
 aAppend false 1 24 y0 v7 h6 fun v8 h9 =>
 aBin false false .add y1 (.p (.int .i64 1)) fun v10 =>
 B1 [v8,v10] h9)
 (aCall Tryz.prog (.p (.func deno_Front_i [])) [q1s0,q1s1,y0,(.p (.bool true))] H fun v11 h12 =>
 aStore 2 q1s4 v11 h12 fun _ h14 =>
 aLoad true 2 q1s4 h14 fun v15 =>
 K v15 h14)
def deno_Whole (x0 x1:AV) (H:List Ob) (K:AV→List Ob→Prop):Prop :=
 aAlloc [(.full []),(.full [])] H fun v0 h1 =>
 aLen false false x1 fun v2 =>
 aLoopN 2 [(.full []),(.p (.int .i64 0))] h1 fun xs H B1=>deno_Whole_L1 x0 x1 v0 v2 (xs.getD 0 .top) (xs.getD 1 .top) H B1 K
def deno_Whole_ann:Nat→List Nat:=fun k=>match k with | 3=>[5,8] | _=>[]
theorem deno_Whole_eq (x0 x1:AV) (H:List Ob) (r:AV) (Ho:List Ob):aBody Tryz.prog deno_Whole_ann Tryz.f14 H [x0,x1] r Ho = deno_Whole x0 x1 H (fun v H'=>Gives H.length v H' r Ho):=by kernel_rfl
theorem deno_Whole_fn {x0 x1:AV} {r:AV} {Ho:List Ob} (h:deno_Whole x0 x1 [] (fun v H'=>Gives 0 v H' r Ho)):Abs.Fn Tryz.prog deno_Whole_i [] [x0,x1] r Ho :=
 fn_intro mixed deno_Whole_ann (fn:=Tryz.f14) (by kernel_rfl) (by kernel_rfl) (by rw [deno_Whole_eq]; exact h)
def deno_Check_L2 (q2s1 q2s2 q2s8 q2s56 q2s57 y0:AV) (H:List Ob) (B2:List AV→List Ob→Prop) (K:AV→List Ob→Prop):Prop :=
 aBin false false .lss y0 q2s57 fun v34 =>
 aGuard v34
 (aIndexAddr 1 q2s56 y0 fun v35 =>
 aLoad false 1 v35 H fun v36 =>
 aAlloc [(.p (.int .i64 0))] H fun v37 h38 =>
 aStore 1 v37 v36 h38 fun _ h40 =>
 aIndexAddr 2 q2s1 y0 fun v41 =>
 aFieldAddr 1 v41 fun v42 =>
 aLoad false 1 v42 h40 fun v43 =>
 aMakeFunc deno_Check_1_i [q2s2,v37] h40 fun v44 h45 =>
 aCall Tryz.prog (.p (.func slices_ContainsFunc_val_Value_val_Value_i [])) [v43,v44] h45 fun v46 h47 =>
 aGuard v46
 (K (.p (.int .i64 5)) h47)
 (aBin false false .add y0 (.p (.int .i64 1)) fun v48 =>
 B2 [v48] h47))
 (aBin false false .gtr q2s8 (.p (.int .i64 1000)) fun v49 =>
 aGuard v49
 (K (.p (.int .i64 10)) H)
 (K (.p (.int .i64 0)) H))
def deno_Check_L1 (q1s1 q1s2 q1s7 q1s28 q1s29 y0 y1:AV) (H:List Ob) (B1:List AV→List Ob→Prop) (K:AV→List Ob→Prop):Prop :=
 aBin false false .lss y1 q1s29 fun v15 =>
 aGuard v15
 (aIndexAddr 1 q1s28 y1 fun v16 =>
 aLoad false 1 v16 H fun v17 =>
 aIndexAddr 2 q1s1 y1 fun v18 =>
 aFieldAddr 0 v18 fun v19 =>
 aLoad false 1 v19 H fun v20 =>
 aLoad false 1 q1s2 H fun v21 =>
 aIndexAddr 21 v21 v17 fun v22 =>
 aFieldAddr 1 v22 fun v23 =>
 aFieldAddr 1 v23 fun v24 =>
 aLoad false 1 v24 H fun v25 =>
 aBin false false .neq v20 v25 fun v26 =>
 aGuard v26
 (K (.p (.int .i64 6)) H)
 (aIndexAddr 2 q1s1 y1 fun v27 =>
 aFieldAddr 1 v27 fun v28 =>
 aLoad false 1 v28 H fun v29 =>
 aLen false false v29 fun v30 =>
 aBin false false .add y0 v30 fun v31 =>
 aBin false false .add y1 (.p (.int .i64 1)) fun v32 =>
 B1 [v31,v32] H))
 (aLen false false q1s7 fun v33 =>
 aLoopN 1 [(.p (.int .i64 0))] H fun xs H B2=>deno_Check_L2 q1s1 q1s2 y0 q1s7 v33 (xs.getD 0 .top) H B2 K)
def deno_Check (x0 x1:AV) (H:List Ob) (K:AV→List Ob→Prop):Prop :=
 aBox x0 H fun v0 h1 =>
 aLoad false 1 v0 h1 fun v2 =>
 aCall Tryz.prog (.p (.func graph_Check_i [])) [v2] h1 fun v3 h4 =>
 aExtract v3 0 fun _ =>
 aExtract v3 1 fun v6 =>
 aBin false false .neq v6 (.p (.int .i64 0)) fun v7 =>
 aGuard v7
 (K v6 h4)
 (aLoad false 1 v0 h4 fun v8 =>
 aCall Tryz.prog (.p (.func graph_Named_i [])) [v8,(.p (.int .i64 1))] h4 fun v9 h10 =>
 aLen false false x1 fun v11 =>
 aLen false false v9 fun v12 =>
 aBin false false .neq v11 v12 fun v13 =>
 aGuard v13
 (K (.p (.int .i64 6)) h10)
 (aLen false false v9 fun v14 =>
 aLoopN 2 [(.p (.int .i64 0)),(.p (.int .i64 0))] h10 fun xs H B1=>deno_Check_L1 x1 v0 v9 v9 v14 (xs.getD 0 .top) (xs.getD 1 .top) H B1 K))
def deno_Check_ann:Nat→List Nat:=fun k=>match k with | 9=>[8,30] | 16=>[58] | _=>[]
theorem deno_Check_eq (x0 x1:AV) (H:List Ob) (r:AV) (Ho:List Ob):aBody Tryz.prog deno_Check_ann Tryz.f27 H [x0,x1] r Ho = deno_Check x0 x1 H (fun v H'=>Gives H.length v H' r Ho):=by kernel_rfl
theorem deno_Check_fn {x0 x1:AV} {r:AV} {Ho:List Ob} (h:deno_Check x0 x1 [] (fun v H'=>Gives 0 v H' r Ho)):Abs.Fn Tryz.prog deno_Check_i [] [x0,x1] r Ho :=
 fn_intro mixed deno_Check_ann (fn:=Tryz.f27) (by kernel_rfl) (by kernel_rfl) (by rw [deno_Check_eq]; exact h)
def deno_Split (x0 x1 x2:AV) (H:List Ob) (K:AV→List Ob→Prop):Prop :=
 aIndexAddr 21 x0 x1 fun v0 =>
 aFieldAddr 18 v0 fun v1 =>
 aLoad false 1 v1 H fun v2 =>
 aBin false false .rem x2 v2 fun v3 =>
 K v3 H
def deno_Split_ann:Nat→List Nat:=fun _=>[]
theorem deno_Split_eq (x0 x1 x2:AV) (H:List Ob) (r:AV) (Ho:List Ob):aBody Tryz.prog deno_Split_ann Tryz.f29 H [x0,x1,x2] r Ho = deno_Split x0 x1 x2 H (fun v H'=>Gives H.length v H' r Ho):=by kernel_rfl
theorem deno_Split_fn {x0 x1 x2:AV} {r:AV} {Ho:List Ob} (h:deno_Split x0 x1 x2 [] (fun v H'=>Gives 0 v H' r Ho)):Abs.Fn Tryz.prog deno_Split_i [] [x0,x1,x2] r Ho :=
 fn_intro mixed deno_Split_ann (fn:=Tryz.f29) (by kernel_rfl) (by kernel_rfl) (by rw [deno_Split_eq]; exact h)
def deno_Same (x0 x1:AV) (H:List Ob) (K:AV→List Ob→Prop):Prop :=
 aBox x0 H fun v0 h1 =>
 aBox x1 h1 fun v2 h3 =>
 aFieldAddr 0 v0 fun v4 =>
 aLoad false 1 v4 h3 fun v5 =>
 aFieldAddr 0 v2 fun v6 =>
 aLoad false 1 v6 h3 fun v7 =>
 aCall Tryz.prog (.p (.func slices_EqualRows_val_Value_val_Value_val_Value_val_Value_i [])) [v5,v7,(.p (.func deno_Same_1_i []))] h3 fun v8 h9 =>
 aMerge true v8 (fun Q10 =>
 aFieldAddr 1 v0 fun v11 =>
 aLoad false 1 v11 h9 fun v12 =>
 aFieldAddr 1 v2 fun v13 =>
 aLoad false 1 v13 h9 fun v14 =>
 aCall Tryz.prog (.p (.func slices_EqualFunc_deno_Bad_deno_Bad_deno_Bad_deno_Bad_i [])) [v12,v14,(.p (.func deno_Same_2_i []))] h9 fun v15 h16 =>
 (h16 = h9 ∧ Q10 v15)) fun v17 =>
 K v17 h9
def deno_Same_ann:Nat→List Nat:=fun _=>[]
theorem deno_Same_eq (x0 x1:AV) (H:List Ob) (r:AV) (Ho:List Ob):aBody Tryz.prog deno_Same_ann Tryz.f32 H [x0,x1] r Ho = deno_Same x0 x1 H (fun v H'=>Gives H.length v H' r Ho):=by kernel_rfl
theorem deno_Same_fn {x0 x1:AV} {r:AV} {Ho:List Ob} (h:deno_Same x0 x1 [] (fun v H'=>Gives 0 v H' r Ho)):Abs.Fn Tryz.prog deno_Same_i [] [x0,x1] r Ho :=
 fn_intro mixed deno_Same_ann (fn:=Tryz.f32) (by kernel_rfl) (by kernel_rfl) (by rw [deno_Same_eq]; exact h)
def runnellaw10_ToOutput_L2 (q2s1 q2s2 q2s3 y0:AV) (H:List Ob) (B2:List AV→List Ob→Prop) (K:AV→List Ob→Prop):Prop :=
 aFieldAddr 1 q2s1 fun v27 =>
 aLoad false 1 v27 H fun v28 =>
 aLen false false v28 fun v29 =>
 aBin false false .lss y0 v29 fun v30 =>
 aGuard v30
 (aFieldAddr 1 q2s3 fun v31 =>
 aLoad false 1 v31 H fun v32 =>
 aFieldAddr 1 q2s1 fun v33 =>
 aLoad false 1 v33 H fun v34 =>
 aIndexAddr 6 v34 y0 fun v35 =>
 aFieldAddr 0 v35 fun v36 =>
 aLoad false 1 v36 H fun v37 =>
 aFieldAddr 1 q2s1 fun v38 =>
 aLoad false 1 v38 H fun v39 =>
 aIndexAddr 6 v39 y0 fun v40 =>
 aFieldAddr 1 v40 fun v41 =>
 aLoad true 5 v41 H fun v42 =>
 aCallT Tryz.prog (.p (.func runnellaw2_To_i [])) [v42] fun v43 =>
 aBuild [(.p (.int .i64 0)),(.p (.int .i64 0)),(.p (.int .i64 0)),(.p (.bool false)),(.p (.str [])),(.full [])] [(0,1,v37),(1,5,v43)] fun v44 =>
 aBuildSlice 6 [v44] fun v45 =>
 aCalm [v32,v45] <|
 aAppend false 6 72 v32 v45 H fun v46 h47 =>
 aFieldAddr 1 q2s3 fun v48 =>
 aStore 1 v48 v46 h47 fun _ h50 =>
 aBin false false .add y0 (.p (.int .i64 1)) fun v51 =>
 B2 [v51] h50)
 (aLoad true 2 q2s3 H fun v52 =>
 aStore 2 q2s2 v52 H fun _ h54 =>
 aLoad true 2 q2s2 h54 fun v55 =>
 K v55 h54)
def runnellaw10_ToOutput_L1 (q1s1 q1s2 q1s3 y0:AV) (H:List Ob) (B1:List AV→List Ob→Prop) (K:AV→List Ob→Prop):Prop :=
 aFieldAddr 0 q1s1 fun v9 =>
 aLoad false 1 v9 H fun v10 =>
 aLen false false v10 fun v11 =>
 aBin false false .lss y0 v11 fun v12 =>
 aGuard v12
 (aFieldAddr 0 q1s3 fun v13 =>
 aLoad false 1 v13 H fun v14 =>
 aFieldAddr 0 q1s1 fun v15 =>
 aLoad false 1 v15 H fun v16 =>
 aIndexAddr 1 v16 y0 fun v17 =>
 aLoad false 1 v17 H fun v18 =>
 aCallT Tryz.prog (.p (.func runnellaw2_ToAll_i [])) [v18] fun v19 =>
 aBuildSlice 1 [v19] fun v20 =>
 aCalm [v14,v20] <|
 aAppend false 1 24 v14 v20 H fun v21 h22 =>
 aFieldAddr 0 q1s3 fun v23 =>
 aStore 1 v23 v21 h22 fun _ h25 =>
 aBin false false .add y0 (.p (.int .i64 1)) fun v26 =>
 B1 [v26] h25)
 (aLoopN 1 [(.p (.int .i64 0))] H fun xs H B2=>runnellaw10_ToOutput_L2 q1s1 q1s2 q1s3 (xs.getD 0 .top) H B2 K)
def runnellaw10_ToOutput (x0:AV) (H:List Ob) (K:AV→List Ob→Prop):Prop :=
 aBox x0 H fun v0 h1 =>
 aAlloc [(.full []),(.full [])] h1 fun v2 h3 =>
 aBuild [(.full []),(.full [])] [] fun v4 =>
 aAlloc [(.full []),(.full [])] h3 fun v5 h6 =>
 aStore 2 v5 v4 h6 fun _ h8 =>
 aLoopN 1 [(.p (.int .i64 0))] h8 fun xs H B1=>runnellaw10_ToOutput_L1 v0 v2 v5 (xs.getD 0 .top) H B1 K
def runnellaw10_ToOutput_ann:Nat→List Nat:=fun k=>match k with | 3=>[4] | 7=>[5] | _=>[]
theorem runnellaw10_ToOutput_eq (x0:AV) (H:List Ob) (r:AV) (Ho:List Ob):aBody Tryz.prog runnellaw10_ToOutput_ann Tryz.f33 H [x0] r Ho = runnellaw10_ToOutput x0 H (fun v H'=>Gives H.length v H' r Ho):=by kernel_rfl
theorem runnellaw10_ToOutput_fn {x0:AV} {r:AV} {Ho:List Ob} (h:runnellaw10_ToOutput x0 [] (fun v H'=>Gives 0 v H' r Ho)):Abs.Fn Tryz.prog runnellaw10_ToOutput_i [] [x0] r Ho :=
 fn_intro mixed runnellaw10_ToOutput_ann (fn:=Tryz.f33) (by kernel_rfl) (by kernel_rfl) (by rw [runnellaw10_ToOutput_eq]; exact h)
def deno_Within_L1 (q1s2 q1s3 q1s15 q1s16 y0:AV) (H:List Ob) (B1:List AV→List Ob→Prop) (K:AV→List Ob→Prop):Prop :=
 aBin false false .lss y0 q1s16 fun v14 =>
 aGuard v14
 (aIndexAddr 1 q1s15 y0 fun v15 =>
 aLoad false 1 v15 H fun v16 =>
 aFieldAddr 0 q1s3 fun v17 =>
 aLoad false 1 v17 H fun v18 =>
 aIndexAddr 1 v18 y0 fun v19 =>
 aLoad false 1 v19 H fun v20 =>
 aCall Tryz.prog (.p (.func deno_within_val_Value_i [])) [v16,v20,(.p (.func val_Compare_i []))] H fun v21 h22 =>
 aUn .not v21 fun v23 =>
 aGuard v23
 (K (.p (.bool false)) h22)
 (aBin false false .add y0 (.p (.int .i64 1)) fun v24 =>
 B1 [v24] h22))
 (aFieldAddr 1 q1s2 fun v25 =>
 aLoad false 1 v25 H fun v26 =>
 aFieldAddr 1 q1s3 fun v27 =>
 aLoad false 1 v27 H fun v28 =>
 aCall Tryz.prog (.p (.func deno_within_deno_Bad_i [])) [v26,v28,(.p (.func deno_compare_i []))] H fun v29 h30 =>
 K v29 h30)
def deno_Within (x0 x1:AV) (H:List Ob) (K:AV→List Ob→Prop):Prop :=
 aBox x0 H fun v0 h1 =>
 aBox x1 h1 fun v2 h3 =>
 aFieldAddr 0 v0 fun v4 =>
 aLoad false 1 v4 h3 fun v5 =>
 aLen false false v5 fun v6 =>
 aFieldAddr 0 v2 fun v7 =>
 aLoad false 1 v7 h3 fun v8 =>
 aLen false false v8 fun v9 =>
 aBin false false .neq v6 v9 fun v10 =>
 aGuard v10
 (K (.p (.bool false)) h3)
 (aFieldAddr 0 v0 fun v11 =>
 aLoad false 1 v11 h3 fun v12 =>
 aLen false false v12 fun v13 =>
 aLoopN 1 [(.p (.int .i64 0))] h3 fun xs H B1=>deno_Within_L1 v0 v2 v12 v13 (xs.getD 0 .top) H B1 K)
def deno_Within_ann:Nat→List Nat:=fun k=>match k with | 4=>[17] | _=>[]
theorem deno_Within_eq (x0 x1:AV) (H:List Ob) (r:AV) (Ho:List Ob):aBody Tryz.prog deno_Within_ann Tryz.f34 H [x0,x1] r Ho = deno_Within x0 x1 H (fun v H'=>Gives H.length v H' r Ho):=by kernel_rfl
theorem deno_Within_fn {x0 x1:AV} {r:AV} {Ho:List Ob} (h:deno_Within x0 x1 [] (fun v H'=>Gives 0 v H' r Ho)):Abs.Fn Tryz.prog deno_Within_i [] [x0,x1] r Ho :=
 fn_intro mixed deno_Within_ann (fn:=Tryz.f34) (by kernel_rfl) (by kernel_rfl) (by rw [deno_Within_eq]; exact h)
def deno_Front_J1 (j1s9 j1s10 j1s13 j1s14 j1s26:AV) (H:List Ob) (B1:List AV→List Ob→Prop) (K:AV→List Ob→Prop):Prop :=
 aNilCheck j1s9 fun v29 =>
 aFieldAddr 1 v29 fun v30 =>
 aLoad false 1 v30 H fun v31 =>
 aBuildSlice 1 [j1s14] fun v32 =>
 aAppend false 1 24 v31 v32 H fun v33 h34 =>
 aNilCheck j1s9 fun v35 =>
 aFieldAddr 1 v35 fun v36 =>
 aStore 1 v36 v33 h34 fun _ h38 =>
 aFieldAddr 1 j1s13 fun v39 =>
 aFieldAddr 0 v39 fun v40 =>
 aLoad false 1 v40 h38 fun v41 =>
 aBin false false .eql v41 (.p (.int .i64 9)) fun v42 =>
 aGuard v42
 (aBuildSlice 1 [j1s14] fun v43 =>
 aAppend false 1 24 j1s10 v43 h38 fun v44 h45 =>
 aBin false false .add j1s26 (.p (.int .i64 1)) fun v46 =>
 B1 [v44,v46] h45)
 (aBin false false .add j1s26 (.p (.int .i64 1)) fun v47 =>
 B1 [j1s10,v47] h38)
def deno_Front_L2 (q2s0 q2s1 q2s2 q2s9 q2s10 q2s11 q2s12 q2s13 q2s26 q2s32 q2s33 y0 y1:AV) (H:List Ob) (B2:List AV→List Ob→Prop) (B1:List AV→List Ob→Prop) (K:AV→List Ob→Prop):Prop :=
 aBin false false .lss y1 q2s33 fun v18 =>
 aGuard v18
 (aIndexAddr 1 q2s32 y1 fun v19 =>
 aLoad false 1 v19 H fun v20 =>
 aNilCheck q2s9 fun v21 =>
 aFieldAddr 1 v21 fun v22 =>
 aLoad false 1 v22 H fun v23 =>
 aIndexAddr 1 v23 v20 fun v24 =>
 aLoad false 1 v24 H fun v25 =>
 aAppend false 5 64 y0 v25 H fun v26 h27 =>
 aBin false false .add y1 (.p (.int .i64 1)) fun v28 =>
 B2 [v26,v28] h27)
 (aCall Tryz.prog (.p (.func slices_Index_int_int_i [])) [q2s11,q2s12] H fun v48 h49 =>
 aBin false false .geq v48 (.p (.int .i64 0)) fun v50 =>
 aGuard v50
 (aIndexAddr 2 q2s1 v48 fun v51 =>
 aFieldAddr 1 v51 fun v52 =>
 aLoad false 1 v52 h49 fun v53 =>
 aIndexAddr 1 q2s2 v48 fun v54 =>
 aLoad false 1 v54 h49 fun v55 =>
 aCallT Tryz.prog (.p (.func deno_came_i [])) [q2s0,q2s12,v53,v55] fun v56 =>
 deno_Front_J1 q2s9 q2s10 q2s13 v56 q2s26 h49 B1 K)
 (aFieldAddr 1 q2s13 fun v57 =>
 aLoad true 15 v57 h49 fun v58 =>
 aCall Tryz.prog (.p (.func op_Keyed_i [])) [v58] h49 fun v59 h60 =>
 aGuard v59
 (aCall Tryz.prog (.p (.func deno_front_keyed_i [])) [q2s9,q2s12,y0] h60 fun v61 h62 =>
 deno_Front_J1 q2s9 q2s10 q2s13 v61 q2s26 h62 B1 K)
 (aCall Tryz.prog (.p (.func deno_front_apply_i [])) [q2s9,q2s12,y0] h60 fun v63 h64 =>
 deno_Front_J1 q2s9 q2s10 q2s13 v63 q2s26 h64 B1 K)))
def deno_Front_L1 (q1s0 q1s1 q1s2 q1s8 q1s9 q1s11 q1s24 q1s25 y0 y1:AV) (H:List Ob) (B1:List AV→List Ob→Prop) (K:AV→List Ob→Prop):Prop :=
 aBin false false .lss y1 q1s25 fun v8 =>
 aGuard v8
 (aIndexAddr 21 q1s24 y1 fun v9 =>
 aLoad true 21 v9 H fun v10 =>
 aAlloc [(.p (.str [])),(.p (.int .i64 0)),(.p (.str [])),(.p (.int .i64 0)),(.full []),(.full []),(.p (.str [])),(.p (.int .i64 0)),(.p (.int .i64 0)),(.p (.bool false)),(.p (.str [])),(.full []),(.p (.int .i64 0)),(.full []),(.p (.int .i64 0)),(.p (.int .i64 0)),(.full []),(.p (.int .i64 0)),(.p (.int .i64 0)),(.p (.str [])),(.p (.bool false))] H fun v11 h12 =>
 aStore 21 v11 v10 h12 fun _ h14 =>
 aFieldAddr 16 v11 fun v15 =>
 aLoad false 1 v15 h14 fun v16 =>
 aLen false false v16 fun v17 =>
 aLoopN 2 [(.full []),(.p (.int .i64 0))] h14 fun xs H B2=>deno_Front_L2 q1s0 q1s1 q1s2 q1s9 y0 q1s11 y1 v11 y1 v16 v17 (xs.getD 0 .top) (xs.getD 1 .top) H B2 B1 K)
 (aNilCheck q1s9 fun v65 =>
 aFieldAddr 2 v65 fun v66 =>
 aLoad false 1 v66 H fun v67 =>
 aBuild [(.full []),(.full [])] [(0,1,y0),(1,1,v67)] fun v68 =>
 aCall Tryz.prog (.p (.func deno_Sorted_i [])) [v68] H fun v69 h70 =>
 aStore 2 q1s8 v69 h70 fun _ h72 =>
 aLoad true 2 q1s8 h72 fun v73 =>
 K v73 h72)
def deno_Front (x0 x1 x2 x3:AV) (H:List Ob) (K:AV→List Ob→Prop):Prop :=
 aAlloc [(.full []),(.full [])] H fun v0 h1 =>
 aBuild [(.full []),(.full []),(.full []),(.p (.bool false))] [(0,1,x0),(3,1,x3)] fun v2 =>
 aBox v2 h1 fun v3 h4 =>
 aCall Tryz.prog (.p (.func graph_Named_i [])) [x0,(.p (.int .i64 1))] h4 fun v5 h6 =>
 aLen false false x0 fun v7 =>
 aLoopN 2 [(.full []),(.p (.int .i64 0))] h6 fun xs H B1=>deno_Front_L1 x0 x1 x2 v0 v3 v5 x0 v7 (xs.getD 0 .top) (xs.getD 1 .top) H B1 K
def deno_Front_ann:Nat→List Nat:=fun k=>match k with | 5=>[10,26] | 9=>[14,34] | _=>[]
theorem deno_Front_eq (x0 x1 x2 x3:AV) (H:List Ob) (r:AV) (Ho:List Ob):aBody Tryz.prog deno_Front_ann Tryz.f37 H [x0,x1,x2,x3] r Ho = deno_Front x0 x1 x2 x3 H (fun v H'=>Gives H.length v H' r Ho):=by kernel_rfl
theorem deno_Front_fn {x0 x1 x2 x3:AV} {r:AV} {Ho:List Ob} (h:deno_Front x0 x1 x2 x3 [] (fun v H'=>Gives 0 v H' r Ho)):Abs.Fn Tryz.prog deno_Front_i [] [x0,x1,x2,x3] r Ho :=
 fn_intro mixed deno_Front_ann (fn:=Tryz.f37) (by kernel_rfl) (by kernel_rfl) (by rw [deno_Front_eq]; exact h)
def slices_ContainsFunc_val_Value_val_Value (x0 x1:AV) (H:List Ob) (K:AV→List Ob→Prop):Prop :=
 aCall Tryz.prog (.p (.func slices_IndexFunc_val_Value_val_Value_i [])) [x0,x1] H fun v0 h1 =>
 aBin false false .geq v0 (.p (.int .i64 0)) fun v2 =>
 K v2 h1
def slices_ContainsFunc_val_Value_val_Value_ann:Nat→List Nat:=fun _=>[]
theorem slices_ContainsFunc_val_Value_val_Value_eq (x0 x1:AV) (H:List Ob) (r:AV) (Ho:List Ob):aBody Tryz.prog slices_ContainsFunc_val_Value_val_Value_ann Tryz.f50 H [x0,x1] r Ho = slices_ContainsFunc_val_Value_val_Value x0 x1 H (fun v H'=>Gives H.length v H' r Ho):=by kernel_rfl
theorem slices_ContainsFunc_val_Value_val_Value_fn {x0 x1:AV} {r:AV} {Ho:List Ob} (h:slices_ContainsFunc_val_Value_val_Value x0 x1 [] (fun v H'=>Gives 0 v H' r Ho)):Abs.Fn Tryz.prog slices_ContainsFunc_val_Value_val_Value_i [] [x0,x1] r Ho :=
 fn_intro mixed slices_ContainsFunc_val_Value_val_Value_ann (fn:=Tryz.f50) (by kernel_rfl) (by kernel_rfl) (by rw [slices_ContainsFunc_val_Value_val_Value_eq]; exact h)
def deno_Check_1 (x0 x1 x2:AV) (H:List Ob) (K:AV→List Ob→Prop):Prop :=
 aBox x0 H fun v0 h1 =>
 aLoad true 5 v0 h1 fun v2 =>
 aLoad false 1 x1 h1 fun v3 =>
 aLoad false 1 x2 h1 fun v4 =>
 aIndexAddr 21 v3 v4 fun v5 =>
 aFieldAddr 1 v5 fun v6 =>
 aFieldAddr 2 v6 fun v7 =>
 aLoad true 2 v7 h1 fun v8 =>
 aCallT Tryz.prog (.p (.func val_Is_i [])) [v2,v8] fun v9 =>
 aUn .not v9 fun v10 =>
 K v10 h1
def deno_Check_1_ann:Nat→List Nat:=fun _=>[]
theorem deno_Check_1_eq (x0 x1 x2:AV) (H:List Ob) (r:AV) (Ho:List Ob):aBody Tryz.prog deno_Check_1_ann Tryz.f51 H [x0,x1,x2] r Ho = deno_Check_1 x0 x1 x2 H (fun v H'=>Gives H.length v H' r Ho):=by kernel_rfl
theorem deno_Check_1_fn {x0 x1 x2:AV} {r:AV} {Ho:List Ob} (h:deno_Check_1 x0 x1 x2 [] (fun v H'=>Gives 0 v H' r Ho)):Abs.Fn Tryz.prog deno_Check_1_i [] [x0,x1,x2] r Ho :=
 fn_intro mixed deno_Check_1_ann (fn:=Tryz.f51) (by kernel_rfl) (by kernel_rfl) (by rw [deno_Check_1_eq]; exact h)
def slices_EqualRows_val_Value_val_Value_val_Value_val_Value_L1 (q1s1 q1s2 q1s15 q1s16 y0:AV) (H:List Ob) (B1:List AV→List Ob→Prop) (K:AV→List Ob→Prop):Prop :=
 aBin false false .lss y0 q1s16 fun v4 =>
 aGuard v4
 (aIndexAddr 1 q1s15 y0 fun v5 =>
 aLoad false 1 v5 H fun v6 =>
 aIndexAddr 1 q1s1 y0 fun v7 =>
 aLoad false 1 v7 H fun v8 =>
 aCall Tryz.prog q1s2 [v6,v8] H fun v9 h10 =>
 aUn .not v9 fun v11 =>
 aGuard v11
 (K (.p (.bool false)) h10)
 (aBin false false .add y0 (.p (.int .i64 1)) fun v12 =>
 B1 [v12] h10))
 (K (.p (.bool true)) H)
def slices_EqualRows_val_Value_val_Value_val_Value_val_Value (x0 x1 x2:AV) (H:List Ob) (K:AV→List Ob→Prop):Prop :=
 aLen false false x0 fun v0 =>
 aLen false false x1 fun v1 =>
 aBin false false .neq v0 v1 fun v2 =>
 aGuard v2
 (K (.p (.bool false)) H)
 (aLen false false x0 fun v3 =>
 aLoopN 1 [(.p (.int .i64 0))] H fun xs H B1=>slices_EqualRows_val_Value_val_Value_val_Value_val_Value_L1 x1 x2 x0 v3 (xs.getD 0 .top) H B1 K)
def slices_EqualRows_val_Value_val_Value_val_Value_val_Value_ann:Nat→List Nat:=fun k=>match k with | 4=>[17] | _=>[]
theorem slices_EqualRows_val_Value_val_Value_val_Value_val_Value_eq (x0 x1 x2:AV) (H:List Ob) (r:AV) (Ho:List Ob):aBody Tryz.prog slices_EqualRows_val_Value_val_Value_val_Value_val_Value_ann Tryz.f54 H [x0,x1,x2] r Ho = slices_EqualRows_val_Value_val_Value_val_Value_val_Value x0 x1 x2 H (fun v H'=>Gives H.length v H' r Ho):=by kernel_rfl
theorem slices_EqualRows_val_Value_val_Value_val_Value_val_Value_fn {x0 x1 x2:AV} {r:AV} {Ho:List Ob} (h:slices_EqualRows_val_Value_val_Value_val_Value_val_Value x0 x1 x2 [] (fun v H'=>Gives 0 v H' r Ho)):Abs.Fn Tryz.prog slices_EqualRows_val_Value_val_Value_val_Value_val_Value_i [] [x0,x1,x2] r Ho :=
 fn_intro mixed slices_EqualRows_val_Value_val_Value_val_Value_val_Value_ann (fn:=Tryz.f54) (by kernel_rfl) (by kernel_rfl) (by rw [slices_EqualRows_val_Value_val_Value_val_Value_val_Value_eq]; exact h)
def deno_Same_1 (x0 x1:AV) (H:List Ob) (K:AV→List Ob→Prop):Prop :=
 aCall Tryz.prog (.p (.func slices_EqualFunc_val_Value_val_Value_val_Value_val_Value_i [])) [x0,x1,(.p (.func val_Same_i []))] H fun v0 h1 =>
 K v0 h1
def deno_Same_1_ann:Nat→List Nat:=fun _=>[]
theorem deno_Same_1_eq (x0 x1:AV) (H:List Ob) (r:AV) (Ho:List Ob):aBody Tryz.prog deno_Same_1_ann Tryz.f55 H [x0,x1] r Ho = deno_Same_1 x0 x1 H (fun v H'=>Gives H.length v H' r Ho):=by kernel_rfl
theorem deno_Same_1_fn {x0 x1:AV} {r:AV} {Ho:List Ob} (h:deno_Same_1 x0 x1 [] (fun v H'=>Gives 0 v H' r Ho)):Abs.Fn Tryz.prog deno_Same_1_i [] [x0,x1] r Ho :=
 fn_intro mixed deno_Same_1_ann (fn:=Tryz.f55) (by kernel_rfl) (by kernel_rfl) (by rw [deno_Same_1_eq]; exact h)
def slices_EqualFunc_val_Value_val_Value_val_Value_val_Value_L1 (q1s1 q1s2 q1s15 q1s16 y0:AV) (H:List Ob) (B1:List AV→List Ob→Prop) (K:AV→List Ob→Prop):Prop :=
 aBin false false .lss y0 q1s16 fun v4 =>
 aGuard v4
 (aIndexAddr 5 q1s15 y0 fun v5 =>
 aLoad true 5 v5 H fun v6 =>
 aAlloc [(.p (.int .i64 0)),(.p (.int .i64 0)),(.p (.bool false)),(.p (.str [])),(.full [])] H fun v7 h8 =>
 aStore 5 v7 v6 h8 fun _ h10 =>
 aIndexAddr 5 q1s1 y0 fun v11 =>
 aLoad true 5 v11 h10 fun v12 =>
 aAlloc [(.p (.int .i64 0)),(.p (.int .i64 0)),(.p (.bool false)),(.p (.str [])),(.full [])] h10 fun v13 h14 =>
 aStore 5 v13 v12 h14 fun _ h16 =>
 aLoad true 5 v7 h16 fun v17 =>
 aLoad true 5 v13 h16 fun v18 =>
 aCall Tryz.prog q1s2 [v17,v18] h16 fun v19 h20 =>
 aUn .not v19 fun v21 =>
 aGuard v21
 (K (.p (.bool false)) h20)
 (aBin false false .add y0 (.p (.int .i64 1)) fun v22 =>
 B1 [v22] h20))
 (K (.p (.bool true)) H)
def slices_EqualFunc_val_Value_val_Value_val_Value_val_Value (x0 x1 x2:AV) (H:List Ob) (K:AV→List Ob→Prop):Prop :=
 aLen false false x0 fun v0 =>
 aLen false false x1 fun v1 =>
 aBin false false .neq v0 v1 fun v2 =>
 aGuard v2
 (K (.p (.bool false)) H)
 (aLen false false x0 fun v3 =>
 aLoopN 1 [(.p (.int .i64 0))] H fun xs H B1=>slices_EqualFunc_val_Value_val_Value_val_Value_val_Value_L1 x1 x2 x0 v3 (xs.getD 0 .top) H B1 K)
def slices_EqualFunc_val_Value_val_Value_val_Value_val_Value_ann:Nat→List Nat:=fun k=>match k with | 4=>[17] | _=>[]
theorem slices_EqualFunc_val_Value_val_Value_val_Value_val_Value_eq (x0 x1 x2:AV) (H:List Ob) (r:AV) (Ho:List Ob):aBody Tryz.prog slices_EqualFunc_val_Value_val_Value_val_Value_val_Value_ann Tryz.f56 H [x0,x1,x2] r Ho = slices_EqualFunc_val_Value_val_Value_val_Value_val_Value x0 x1 x2 H (fun v H'=>Gives H.length v H' r Ho):=by kernel_rfl
theorem slices_EqualFunc_val_Value_val_Value_val_Value_val_Value_fn {x0 x1 x2:AV} {r:AV} {Ho:List Ob} (h:slices_EqualFunc_val_Value_val_Value_val_Value_val_Value x0 x1 x2 [] (fun v H'=>Gives 0 v H' r Ho)):Abs.Fn Tryz.prog slices_EqualFunc_val_Value_val_Value_val_Value_val_Value_i [] [x0,x1,x2] r Ho :=
 fn_intro mixed slices_EqualFunc_val_Value_val_Value_val_Value_val_Value_ann (fn:=Tryz.f56) (by kernel_rfl) (by kernel_rfl) (by rw [slices_EqualFunc_val_Value_val_Value_val_Value_val_Value_eq]; exact h)
def slices_EqualFunc_deno_Bad_deno_Bad_deno_Bad_deno_Bad_L1 (q1s1 q1s2 q1s15 q1s16 y0:AV) (H:List Ob) (B1:List AV→List Ob→Prop) (K:AV→List Ob→Prop):Prop :=
 aBin false false .lss y0 q1s16 fun v4 =>
 aGuard v4
 (aIndexAddr 6 q1s15 y0 fun v5 =>
 aLoad true 6 v5 H fun v6 =>
 aAlloc [(.p (.int .i64 0)),(.p (.int .i64 0)),(.p (.int .i64 0)),(.p (.bool false)),(.p (.str [])),(.full [])] H fun v7 h8 =>
 aStore 6 v7 v6 h8 fun _ h10 =>
 aIndexAddr 6 q1s1 y0 fun v11 =>
 aLoad true 6 v11 h10 fun v12 =>
 aAlloc [(.p (.int .i64 0)),(.p (.int .i64 0)),(.p (.int .i64 0)),(.p (.bool false)),(.p (.str [])),(.full [])] h10 fun v13 h14 =>
 aStore 6 v13 v12 h14 fun _ h16 =>
 aLoad true 6 v7 h16 fun v17 =>
 aLoad true 6 v13 h16 fun v18 =>
 aCall Tryz.prog q1s2 [v17,v18] h16 fun v19 h20 =>
 aUn .not v19 fun v21 =>
 aGuard v21
 (K (.p (.bool false)) h20)
 (aBin false false .add y0 (.p (.int .i64 1)) fun v22 =>
 B1 [v22] h20))
 (K (.p (.bool true)) H)
def slices_EqualFunc_deno_Bad_deno_Bad_deno_Bad_deno_Bad (x0 x1 x2:AV) (H:List Ob) (K:AV→List Ob→Prop):Prop :=
 aLen false false x0 fun v0 =>
 aLen false false x1 fun v1 =>
 aBin false false .neq v0 v1 fun v2 =>
 aGuard v2
 (K (.p (.bool false)) H)
 (aLen false false x0 fun v3 =>
 aLoopN 1 [(.p (.int .i64 0))] H fun xs H B1=>slices_EqualFunc_deno_Bad_deno_Bad_deno_Bad_deno_Bad_L1 x1 x2 x0 v3 (xs.getD 0 .top) H B1 K)
def slices_EqualFunc_deno_Bad_deno_Bad_deno_Bad_deno_Bad_ann:Nat→List Nat:=fun k=>match k with | 4=>[17] | _=>[]
theorem slices_EqualFunc_deno_Bad_deno_Bad_deno_Bad_deno_Bad_eq (x0 x1 x2:AV) (H:List Ob) (r:AV) (Ho:List Ob):aBody Tryz.prog slices_EqualFunc_deno_Bad_deno_Bad_deno_Bad_deno_Bad_ann Tryz.f58 H [x0,x1,x2] r Ho = slices_EqualFunc_deno_Bad_deno_Bad_deno_Bad_deno_Bad x0 x1 x2 H (fun v H'=>Gives H.length v H' r Ho):=by kernel_rfl
theorem slices_EqualFunc_deno_Bad_deno_Bad_deno_Bad_deno_Bad_fn {x0 x1 x2:AV} {r:AV} {Ho:List Ob} (h:slices_EqualFunc_deno_Bad_deno_Bad_deno_Bad_deno_Bad x0 x1 x2 [] (fun v H'=>Gives 0 v H' r Ho)):Abs.Fn Tryz.prog slices_EqualFunc_deno_Bad_deno_Bad_deno_Bad_deno_Bad_i [] [x0,x1,x2] r Ho :=
 fn_intro mixed slices_EqualFunc_deno_Bad_deno_Bad_deno_Bad_deno_Bad_ann (fn:=Tryz.f58) (by kernel_rfl) (by kernel_rfl) (by rw [slices_EqualFunc_deno_Bad_deno_Bad_deno_Bad_deno_Bad_eq]; exact h)
def deno_Same_2 (x0 x1:AV) (H:List Ob) (K:AV→List Ob→Prop):Prop :=
 aBox x0 H fun v0 h1 =>
 aBox x1 h1 fun v2 h3 =>
 aLoad true 6 v0 h3 fun v4 =>
 aLoad true 6 v2 h3 fun v5 =>
 aCall Tryz.prog (.p (.func deno_compare_i [])) [v4,v5] h3 fun v6 h7 =>
 aBin false false .eql v6 (.p (.int .i64 0)) fun v8 =>
 K v8 h7
def deno_Same_2_ann:Nat→List Nat:=fun _=>[]
theorem deno_Same_2_eq (x0 x1:AV) (H:List Ob) (r:AV) (Ho:List Ob):aBody Tryz.prog deno_Same_2_ann Tryz.f59 H [x0,x1] r Ho = deno_Same_2 x0 x1 H (fun v H'=>Gives H.length v H' r Ho):=by kernel_rfl
theorem deno_Same_2_fn {x0 x1:AV} {r:AV} {Ho:List Ob} (h:deno_Same_2 x0 x1 [] (fun v H'=>Gives 0 v H' r Ho)):Abs.Fn Tryz.prog deno_Same_2_i [] [x0,x1] r Ho :=
 fn_intro mixed deno_Same_2_ann (fn:=Tryz.f59) (by kernel_rfl) (by kernel_rfl) (by rw [deno_Same_2_eq]; exact h)
def deno_compare (x0 x1:AV) (H:List Ob) (K:AV→List Ob→Prop):Prop :=
 aBox x0 H fun v0 h1 =>
 aBox x1 h1 fun v2 h3 =>
 aFieldAddr 0 v0 fun v4 =>
 aLoad false 1 v4 h3 fun v5 =>
 aFieldAddr 0 v2 fun v6 =>
 aLoad false 1 v6 h3 fun v7 =>
 aCallT Tryz.prog (.p (.func cmp_Compare_int_i [])) [v5,v7] fun v8 =>
 aFieldAddr 1 v0 fun v9 =>
 aLoad true 5 v9 h3 fun v10 =>
 aFieldAddr 1 v2 fun v11 =>
 aLoad true 5 v11 h3 fun v12 =>
 aCallT Tryz.prog (.p (.func val_Compare_i [])) [v10,v12] fun v13 =>
 aBuildSlice 1 [v8,v13] fun v14 =>
 aCallT Tryz.prog (.p (.func cmp_Or_int_i [])) [v14] fun v15 =>
 K v15 h3
def deno_compare_ann:Nat→List Nat:=fun _=>[]
theorem deno_compare_eq (x0 x1:AV) (H:List Ob) (r:AV) (Ho:List Ob):aBody Tryz.prog deno_compare_ann Tryz.f60 H [x0,x1] r Ho = deno_compare x0 x1 H (fun v H'=>Gives H.length v H' r Ho):=by kernel_rfl
theorem deno_compare_fn {x0 x1:AV} {r:AV} {Ho:List Ob} (h:deno_compare x0 x1 [] (fun v H'=>Gives 0 v H' r Ho)):Abs.Fn Tryz.prog deno_compare_i [] [x0,x1] r Ho :=
 fn_intro mixed deno_compare_ann (fn:=Tryz.f60) (by kernel_rfl) (by kernel_rfl) (by rw [deno_compare_eq]; exact h)
def deno_within_val_Value_L2 (q2s2 q2s8 q2s18 y0:AV) (H:List Ob) (B2:List AV→List Ob→Prop) (B1:List AV→List Ob→Prop) (K:AV→List Ob→Prop):Prop :=
 aLen true false y0 fun v16 =>
 aBin false false .gtr v16 (.p (.int .i64 0)) fun v17 =>
 aGuard v17
 (aIndexAddr 5 y0 (.p (.int .i64 0)) fun v18 =>
 aLoad true 5 v18 H fun v19 =>
 aLoad true 5 q2s8 H fun v20 =>
 aCallT Tryz.prog q2s2 [v19,v20] fun v21 =>
 aBin false false .lss v21 (.p (.int .i64 0)) fun v22 =>
 aGuard v22
 (aSlice false 5 y0 (some (.p (.int .i64 1))) none none fun v23 =>
 B2 [v23] H)
 (aLen true false y0 fun v24 =>
 aBin false false .eql v24 (.p (.int .i64 0)) fun v25 =>
 aGuard v25
 (K (.p (.bool false)) H)
 (aIndexAddr 5 y0 (.p (.int .i64 0)) fun v26 =>
 aLoad true 5 v26 H fun v27 =>
 aLoad true 5 q2s8 H fun v28 =>
 aCallT Tryz.prog q2s2 [v27,v28] fun v29 =>
 aBin false false .neq v29 (.p (.int .i64 0)) fun v30 =>
 aGuard v30
 (K (.p (.bool false)) H)
 (aSlice false 5 y0 (some (.p (.int .i64 1))) none none fun v31 =>
 aBin false false .add q2s18 (.p (.int .i64 1)) fun v32 =>
 B1 [v31,v32] H))))
 (aLen true false y0 fun v33 =>
 aBin false false .eql v33 (.p (.int .i64 0)) fun v34 =>
 aGuard v34
 (K (.p (.bool false)) H)
 (aIndexAddr 5 y0 (.p (.int .i64 0)) fun v35 =>
 aLoad true 5 v35 H fun v36 =>
 aLoad true 5 q2s8 H fun v37 =>
 aCallT Tryz.prog q2s2 [v36,v37] fun v38 =>
 aBin false false .neq v38 (.p (.int .i64 0)) fun v39 =>
 aGuard v39
 (K (.p (.bool false)) H)
 (aSlice false 5 y0 (some (.p (.int .i64 1))) none none fun v40 =>
 aBin false false .add q2s18 (.p (.int .i64 1)) fun v41 =>
 B1 [v40,v41] H)))
def deno_within_val_Value_L1 (q1s2 q1s16 q1s17 y0 y1:AV) (H:List Ob) (B1:List AV→List Ob→Prop) (K:AV→List Ob→Prop):Prop :=
 aBin false false .lss y1 q1s17 fun v9 =>
 aGuard v9
 (aIndexAddr 5 q1s16 y1 fun v10 =>
 aLoad true 5 v10 H fun v11 =>
 aAlloc [(.p (.int .i64 0)),(.p (.int .i64 0)),(.p (.bool false)),(.p (.str [])),(.full [])] H fun v12 h13 =>
 aStore 5 v12 v11 h13 fun _ h15 =>
 aLoopN 1 [y0] h15 fun xs H B2=>deno_within_val_Value_L2 q1s2 v12 y1 (xs.getD 0 .top) H B2 B1 K)
 (K (.p (.bool true)) H)
def deno_within_val_Value (x0 x1 x2:AV) (H:List Ob) (K:AV→List Ob→Prop):Prop :=
 aCall Tryz.prog (.p (.func slices_Values_val_Value_val_Value_i [])) [x1] H fun v0 h1 =>
 aCall Tryz.prog (.p (.func slices_SortedFunc_val_Value_i [])) [v0,x2] h1 fun v2 h3 =>
 aCall Tryz.prog (.p (.func slices_Values_val_Value_val_Value_i [])) [x0] h3 fun v4 h5 =>
 aCall Tryz.prog (.p (.func slices_SortedFunc_val_Value_i [])) [v4,x2] h5 fun v6 h7 =>
 aLen false false v6 fun v8 =>
 aLoopN 2 [v2,(.p (.int .i64 0))] h7 fun xs H B1=>deno_within_val_Value_L1 x2 v6 v8 (xs.getD 0 .top) (xs.getD 1 .top) H B1 K
def deno_within_val_Value_ann:Nat→List Nat:=fun k=>match k with | 3=>[1,18] | 5=>[1] | _=>[]
theorem deno_within_val_Value_eq (x0 x1 x2:AV) (H:List Ob) (r:AV) (Ho:List Ob):aBody Tryz.prog deno_within_val_Value_ann Tryz.f63 H [x0,x1,x2] r Ho = deno_within_val_Value x0 x1 x2 H (fun v H'=>Gives H.length v H' r Ho):=by kernel_rfl
theorem deno_within_val_Value_fn {x0 x1 x2:AV} {r:AV} {Ho:List Ob} (h:deno_within_val_Value x0 x1 x2 [] (fun v H'=>Gives 0 v H' r Ho)):Abs.Fn Tryz.prog deno_within_val_Value_i [] [x0,x1,x2] r Ho :=
 fn_intro mixed deno_within_val_Value_ann (fn:=Tryz.f63) (by kernel_rfl) (by kernel_rfl) (by rw [deno_within_val_Value_eq]; exact h)
def deno_within_deno_Bad_L2 (q2s2 q2s8 q2s18 y0:AV) (H:List Ob) (B2:List AV→List Ob→Prop) (B1:List AV→List Ob→Prop) (K:AV→List Ob→Prop):Prop :=
 aLen true false y0 fun v16 =>
 aBin false false .gtr v16 (.p (.int .i64 0)) fun v17 =>
 aGuard v17
 (aIndexAddr 6 y0 (.p (.int .i64 0)) fun v18 =>
 aLoad true 6 v18 H fun v19 =>
 aLoad true 6 q2s8 H fun v20 =>
 aCallT Tryz.prog q2s2 [v19,v20] fun v21 =>
 aBin false false .lss v21 (.p (.int .i64 0)) fun v22 =>
 aGuard v22
 (aSlice false 6 y0 (some (.p (.int .i64 1))) none none fun v23 =>
 B2 [v23] H)
 (aLen true false y0 fun v24 =>
 aBin false false .eql v24 (.p (.int .i64 0)) fun v25 =>
 aGuard v25
 (K (.p (.bool false)) H)
 (aIndexAddr 6 y0 (.p (.int .i64 0)) fun v26 =>
 aLoad true 6 v26 H fun v27 =>
 aLoad true 6 q2s8 H fun v28 =>
 aCallT Tryz.prog q2s2 [v27,v28] fun v29 =>
 aBin false false .neq v29 (.p (.int .i64 0)) fun v30 =>
 aGuard v30
 (K (.p (.bool false)) H)
 (aSlice false 6 y0 (some (.p (.int .i64 1))) none none fun v31 =>
 aBin false false .add q2s18 (.p (.int .i64 1)) fun v32 =>
 B1 [v31,v32] H))))
 (aLen true false y0 fun v33 =>
 aBin false false .eql v33 (.p (.int .i64 0)) fun v34 =>
 aGuard v34
 (K (.p (.bool false)) H)
 (aIndexAddr 6 y0 (.p (.int .i64 0)) fun v35 =>
 aLoad true 6 v35 H fun v36 =>
 aLoad true 6 q2s8 H fun v37 =>
 aCallT Tryz.prog q2s2 [v36,v37] fun v38 =>
 aBin false false .neq v38 (.p (.int .i64 0)) fun v39 =>
 aGuard v39
 (K (.p (.bool false)) H)
 (aSlice false 6 y0 (some (.p (.int .i64 1))) none none fun v40 =>
 aBin false false .add q2s18 (.p (.int .i64 1)) fun v41 =>
 B1 [v40,v41] H)))
def deno_within_deno_Bad_L1 (q1s2 q1s16 q1s17 y0 y1:AV) (H:List Ob) (B1:List AV→List Ob→Prop) (K:AV→List Ob→Prop):Prop :=
 aBin false false .lss y1 q1s17 fun v9 =>
 aGuard v9
 (aIndexAddr 6 q1s16 y1 fun v10 =>
 aLoad true 6 v10 H fun v11 =>
 aAlloc [(.p (.int .i64 0)),(.p (.int .i64 0)),(.p (.int .i64 0)),(.p (.bool false)),(.p (.str [])),(.full [])] H fun v12 h13 =>
 aStore 6 v12 v11 h13 fun _ h15 =>
 aLoopN 1 [y0] h15 fun xs H B2=>deno_within_deno_Bad_L2 q1s2 v12 y1 (xs.getD 0 .top) H B2 B1 K)
 (K (.p (.bool true)) H)
def deno_within_deno_Bad (x0 x1 x2:AV) (H:List Ob) (K:AV→List Ob→Prop):Prop :=
 aCall Tryz.prog (.p (.func slices_Values_deno_Bad_deno_Bad_i [])) [x1] H fun v0 h1 =>
 aCall Tryz.prog (.p (.func slices_SortedFunc_deno_Bad_i [])) [v0,x2] h1 fun v2 h3 =>
 aCall Tryz.prog (.p (.func slices_Values_deno_Bad_deno_Bad_i [])) [x0] h3 fun v4 h5 =>
 aCall Tryz.prog (.p (.func slices_SortedFunc_deno_Bad_i [])) [v4,x2] h5 fun v6 h7 =>
 aLen false false v6 fun v8 =>
 aLoopN 2 [v2,(.p (.int .i64 0))] h7 fun xs H B1=>deno_within_deno_Bad_L1 x2 v6 v8 (xs.getD 0 .top) (xs.getD 1 .top) H B1 K
def deno_within_deno_Bad_ann:Nat→List Nat:=fun k=>match k with | 3=>[1,18] | 5=>[1] | _=>[]
theorem deno_within_deno_Bad_eq (x0 x1 x2:AV) (H:List Ob) (r:AV) (Ho:List Ob):aBody Tryz.prog deno_within_deno_Bad_ann Tryz.f65 H [x0,x1,x2] r Ho = deno_within_deno_Bad x0 x1 x2 H (fun v H'=>Gives H.length v H' r Ho):=by kernel_rfl
theorem deno_within_deno_Bad_fn {x0 x1 x2:AV} {r:AV} {Ho:List Ob} (h:deno_within_deno_Bad x0 x1 x2 [] (fun v H'=>Gives 0 v H' r Ho)):Abs.Fn Tryz.prog deno_within_deno_Bad_i [] [x0,x1,x2] r Ho :=
 fn_intro mixed deno_within_deno_Bad_ann (fn:=Tryz.f65) (by kernel_rfl) (by kernel_rfl) (by rw [deno_within_deno_Bad_eq]; exact h)
def deno_came_L1 (q1s0 q1s1 q1s3 q1s10 q1s15 q1s16 y0 y1:AV) (H:List Ob) (B1:List AV→List Ob→Prop) (K:AV→List Ob→Prop):Prop :=
 aBin false false .lss y1 q1s16 fun v3 =>
 aGuard v3
 (aIndexAddr 5 q1s15 y1 fun v4 =>
 aLoad true 5 v4 H fun v5 =>
 aAlloc [(.p (.int .i64 0)),(.p (.int .i64 0)),(.p (.bool false)),(.p (.str [])),(.full [])] H fun v6 h7 =>
 aStore 5 v6 v5 h7 fun _ h9 =>
 aCall Tryz.prog (.p (.func deno_Split_i [])) [q1s0,q1s1,y1] h9 fun v10 h11 =>
 aLen true false q1s3 fun v12 =>
 aBin false false .lss v10 v12 fun v13 =>
 aGuard v13
 (aLookup (.int .i64) false (.p (.int .i64 0)) q1s10 v10 h11 fun v14 h15 =>
 aIndexAddr 1 q1s3 v10 fun v16 =>
 aLoad false 1 v16 h15 fun v17 =>
 aBin false false .lss v14 v17 fun v18 =>
 aGuard v18
 (aLoad true 5 v6 h15 fun v19 =>
 aBuildSlice 5 [v19] fun v20 =>
 aAppend false 5 64 y0 v20 h15 fun v21 h22 =>
 aLookup (.int .i64) false (.p (.int .i64 0)) q1s10 v10 h22 fun v23 h24 =>
 aBin false false .add v23 (.p (.int .i64 1)) fun v25 =>
 aMapUpdate (.int .i64) q1s10 v10 v25 h24 fun _ h27 =>
 aBin false false .add y1 (.p (.int .i64 1)) fun v28 =>
 B1 [v21,v28] h27)
 (aLookup (.int .i64) false (.p (.int .i64 0)) q1s10 v10 h15 fun v29 h30 =>
 aBin false false .add v29 (.p (.int .i64 1)) fun v31 =>
 aMapUpdate (.int .i64) q1s10 v10 v31 h30 fun _ h33 =>
 aBin false false .add y1 (.p (.int .i64 1)) fun v34 =>
 B1 [y0,v34] h33))
 (aLookup (.int .i64) false (.p (.int .i64 0)) q1s10 v10 h11 fun v35 h36 =>
 aBin false false .add v35 (.p (.int .i64 1)) fun v37 =>
 aMapUpdate (.int .i64) q1s10 v10 v37 h36 fun _ h39 =>
 aBin false false .add y1 (.p (.int .i64 1)) fun v40 =>
 B1 [y0,v40] h39))
 (K y0 H)
def deno_came (x0 x1 x2 x3:AV) (H:List Ob) (K:AV→List Ob→Prop):Prop :=
 aMakeMap H fun v0 h1 =>
 aLen false false x2 fun v2 =>
 aLoopN 2 [(.full []),(.p (.int .i64 0))] h1 fun xs H B1=>deno_came_L1 x0 x1 x3 v0 x2 v2 (xs.getD 0 .top) (xs.getD 1 .top) H B1 K
def deno_came_ann:Nat→List Nat:=fun k=>match k with | 4=>[9,17] | _=>[]
theorem deno_came_eq (x0 x1 x2 x3:AV) (H:List Ob) (r:AV) (Ho:List Ob):aBody Tryz.prog deno_came_ann Tryz.f69 H [x0,x1,x2,x3] r Ho = deno_came x0 x1 x2 x3 H (fun v H'=>Gives H.length v H' r Ho):=by kernel_rfl
theorem deno_came_fn {x0 x1 x2 x3:AV} {r:AV} {Ho:List Ob} (h:deno_came x0 x1 x2 x3 [] (fun v H'=>Gives 0 v H' r Ho)):Abs.Fn Tryz.prog deno_came_i [] [x0,x1,x2,x3] r Ho :=
 fn_intro mixed deno_came_ann (fn:=Tryz.f69) (by kernel_rfl) (by kernel_rfl) (by rw [deno_came_eq]; exact h)
def deno_front_apply_L1 (q1s0 q1s1 q1s12 q1s13 y0 y1:AV) (H:List Ob) (B1:List AV→List Ob→Prop) (K:AV→List Ob→Prop):Prop :=
 aBin false false .lss y1 q1s13 fun v1 =>
 aGuard v1
 (aIndexAddr 5 q1s12 y1 fun v2 =>
 aLoad true 5 v2 H fun v3 =>
 aAlloc [(.p (.int .i64 0)),(.p (.int .i64 0)),(.p (.bool false)),(.p (.str [])),(.full [])] H fun v4 h5 =>
 aStore 5 v4 v3 h5 fun _ h7 =>
 aNilCheck q1s0 fun v8 =>
 aFieldAddr 0 v8 fun v9 =>
 aLoad false 1 v9 h7 fun v10 =>
 aIndexAddr 21 v10 q1s1 fun v11 =>
 aFieldAddr 1 v11 fun v12 =>
 aLoad true 15 v12 h7 fun v13 =>
 aLoad true 5 v4 h7 fun v14 =>
 aCallT Tryz.prog (.p (.func op_Apply_i [])) [v13,v14] fun v15 =>
 aExtract v15 0 fun v16 =>
 aExtract v15 1 fun v17 =>
 aBin false false .neq v17 (.p (.int .i64 0)) fun v18 =>
 aGuard v18
 (aNilCheck q1s0 fun v19 =>
 aFieldAddr 2 v19 fun v20 =>
 aLoad false 1 v20 h7 fun v21 =>
 aLoad true 5 v4 h7 fun v22 =>
 aBuild [(.p (.int .i64 0)),(.p (.int .i64 0)),(.p (.int .i64 0)),(.p (.bool false)),(.p (.str [])),(.full [])] [(0,1,q1s1),(1,5,v22)] fun v23 =>
 aBuildSlice 6 [v23] fun v24 =>
 aCalm [v21,v24] <|
 aAppend false 6 72 v21 v24 h7 fun v25 h26 =>
 aNilCheck q1s0 fun v27 =>
 aFieldAddr 2 v27 fun v28 =>
 aStore 1 v28 v25 h26 fun _ h30 =>
 aAppend false 5 64 y0 v16 h30 fun v31 h32 =>
 aBin false false .add y1 (.p (.int .i64 1)) fun v33 =>
 B1 [v31,v33] h32)
 (aAppend false 5 64 y0 v16 h7 fun v34 h35 =>
 aBin false false .add y1 (.p (.int .i64 1)) fun v36 =>
 B1 [v34,v36] h35))
 (K y0 H)
def deno_front_apply (x0 x1 x2:AV) (H:List Ob) (K:AV→List Ob→Prop):Prop :=
 aLen false false x2 fun v0 =>
 aLoopN 2 [(.full []),(.p (.int .i64 0))] H fun xs H B1=>deno_front_apply_L1 x0 x1 x2 v0 (xs.getD 0 .top) (xs.getD 1 .top) H B1 K
def deno_front_apply_ann:Nat→List Nat:=fun k=>match k with | 3=>[7,14] | _=>[]
theorem deno_front_apply_eq (x0 x1 x2:AV) (H:List Ob) (r:AV) (Ho:List Ob):aBody Tryz.prog deno_front_apply_ann Tryz.f72 H [x0,x1,x2] r Ho = deno_front_apply x0 x1 x2 H (fun v H'=>Gives H.length v H' r Ho):=by kernel_rfl
theorem deno_front_apply_fnH {x0 x1 x2:AV} {Hin:List Ob} {r:AV} {Ho:List Ob} (h:deno_front_apply x0 x1 x2 Hin (fun v H'=>Gives Hin.length v H' r Ho)):Abs.Fn Tryz.prog deno_front_apply_i Hin [x0,x1,x2] r Ho :=
 fn_intro mixed deno_front_apply_ann (fn:=Tryz.f72) (by kernel_rfl) (by kernel_rfl) (by rw [deno_front_apply_eq]; exact h)
def deno_Sorted_L1 (q1s1 q1s2 q1s3 q1s7 q1s8 y0:AV) (H:List Ob) (B1:List AV→List Ob→Prop) (K:AV→List Ob→Prop):Prop :=
 aBin false false .lss y0 q1s8 fun v9 =>
 aGuard v9
 (aIndexAddr 1 q1s7 y0 fun v10 =>
 aLoad false 1 v10 H fun v11 =>
 aFieldAddr 0 q1s3 fun v12 =>
 aLoad false 1 v12 H fun v13 =>
 aCallT Tryz.prog (.p (.func slices_Values_val_Value_val_Value_i [])) [v11] fun v14 =>
 aCallT Tryz.prog (.p (.func slices_SortedFunc_val_Value_i [])) [v14,(.p (.func val_Compare_i []))] fun v15 =>
 aCallT Tryz.prog (.p (.func slices_Clip_val_Value_val_Value_i [])) [v15] fun v16 =>
 aBuildSlice 1 [v16] fun v17 =>
 aCalm [v13,v17] <|
 aAppend false 1 24 v13 v17 H fun v18 h19 =>
 aFieldAddr 0 q1s3 fun v20 =>
 aStore 1 v20 v18 h19 fun _ h22 =>
 aBin false false .add y0 (.p (.int .i64 1)) fun v23 =>
 B1 [v23] h22)
 (aFieldAddr 1 q1s1 fun v24 =>
 aLoad false 1 v24 H fun v25 =>
 aCall Tryz.prog (.p (.func slices_Values_deno_Bad_deno_Bad_i [])) [v25] H fun v26 h27 =>
 aCall Tryz.prog (.p (.func slices_SortedFunc_deno_Bad_i [])) [v26,(.p (.func deno_compare_i []))] h27 fun v28 h29 =>
 aCall Tryz.prog (.p (.func slices_Clip_deno_Bad_deno_Bad_i [])) [v28] h29 fun v30 h31 =>
 aFieldAddr 1 q1s3 fun v32 =>
 aStore 1 v32 v30 h31 fun _ h34 =>
 aLoad true 2 q1s3 h34 fun v35 =>
 aStore 2 q1s2 v35 h34 fun _ h37 =>
 aLoad true 2 q1s2 h37 fun v38 =>
 K v38 h37)
def deno_Sorted (x0:AV) (H:List Ob) (K:AV→List Ob→Prop):Prop :=
 aBox x0 H fun v0 h1 =>
 aAlloc [(.full []),(.full [])] h1 fun v2 h3 =>
 aAlloc [(.full []),(.full [])] h3 fun v4 h5 =>
 aFieldAddr 0 v0 fun v6 =>
 aLoad false 1 v6 h5 fun v7 =>
 aLen false false v7 fun v8 =>
 aLoopN 1 [(.p (.int .i64 0))] h5 fun xs H B1=>deno_Sorted_L1 v0 v2 v4 v7 v8 (xs.getD 0 .top) H B1 K
def deno_Sorted_ann:Nat→List Nat:=fun k=>match k with | 3=>[9] | _=>[]
theorem deno_Sorted_eq (x0:AV) (H:List Ob) (r:AV) (Ho:List Ob):aBody Tryz.prog deno_Sorted_ann Tryz.f73 H [x0] r Ho = deno_Sorted x0 H (fun v H'=>Gives H.length v H' r Ho):=by kernel_rfl
theorem deno_Sorted_fn {x0:AV} {r:AV} {Ho:List Ob} (h:deno_Sorted x0 [] (fun v H'=>Gives 0 v H' r Ho)):Abs.Fn Tryz.prog deno_Sorted_i [] [x0] r Ho :=
 fn_intro mixed deno_Sorted_ann (fn:=Tryz.f73) (by kernel_rfl) (by kernel_rfl) (by rw [deno_Sorted_eq]; exact h)
def slices_IndexFunc_val_Value_val_Value_L1 (q1s0 q1s1 q1s7 y0:AV) (H:List Ob) (B1:List AV→List Ob→Prop) (K:AV→List Ob→Prop):Prop :=
 aBin false false .lss y0 q1s7 fun v1 =>
 aGuard v1
 (aIndexAddr 5 q1s0 y0 fun v2 =>
 aLoad true 5 v2 H fun v3 =>
 aCall Tryz.prog q1s1 [v3] H fun v4 h5 =>
 aGuard v4
 (K y0 h5)
 (aBin false false .add y0 (.p (.int .i64 1)) fun v6 =>
 B1 [v6] h5))
 (K (.p (.int .i64 (-1))) H)
def slices_IndexFunc_val_Value_val_Value (x0 x1:AV) (H:List Ob) (K:AV→List Ob→Prop):Prop :=
 aLen false false x0 fun v0 =>
 aLoopN 1 [(.p (.int .i64 0))] H fun xs H B1=>slices_IndexFunc_val_Value_val_Value_L1 x0 x1 v0 (xs.getD 0 .top) H B1 K
def slices_IndexFunc_val_Value_val_Value_ann:Nat→List Nat:=fun k=>match k with | 2=>[8] | _=>[]
theorem slices_IndexFunc_val_Value_val_Value_eq (x0 x1:AV) (H:List Ob) (r:AV) (Ho:List Ob):aBody Tryz.prog slices_IndexFunc_val_Value_val_Value_ann Tryz.f90 H [x0,x1] r Ho = slices_IndexFunc_val_Value_val_Value x0 x1 H (fun v H'=>Gives H.length v H' r Ho):=by kernel_rfl
theorem slices_IndexFunc_val_Value_val_Value_fn {x0 x1:AV} {r:AV} {Ho:List Ob} (h:slices_IndexFunc_val_Value_val_Value x0 x1 [] (fun v H'=>Gives 0 v H' r Ho)):Abs.Fn Tryz.prog slices_IndexFunc_val_Value_val_Value_i [] [x0,x1] r Ho :=
 fn_intro mixed slices_IndexFunc_val_Value_val_Value_ann (fn:=Tryz.f90) (by kernel_rfl) (by kernel_rfl) (by rw [slices_IndexFunc_val_Value_val_Value_eq]; exact h)
def slices_SortedFunc_val_Value (x0 x1:AV) (H:List Ob) (K:AV→List Ob→Prop):Prop :=
 aCall Tryz.prog (.p (.func slices_Collect_val_Value_i [])) [x0] H fun v0 h1 =>
 aCall Tryz.prog (.p (.func slices_SortFunc_val_Value_val_Value_i [])) [v0,x1] h1 fun _ h3 =>
 K v0 h3
def slices_SortedFunc_val_Value_ann:Nat→List Nat:=fun _=>[]
theorem slices_SortedFunc_val_Value_eq (x0 x1:AV) (H:List Ob) (r:AV) (Ho:List Ob):aBody Tryz.prog slices_SortedFunc_val_Value_ann Tryz.f97 H [x0,x1] r Ho = slices_SortedFunc_val_Value x0 x1 H (fun v H'=>Gives H.length v H' r Ho):=by kernel_rfl
theorem slices_SortedFunc_val_Value_fn {x0 x1:AV} {r:AV} {Ho:List Ob} (h:slices_SortedFunc_val_Value x0 x1 [] (fun v H'=>Gives 0 v H' r Ho)):Abs.Fn Tryz.prog slices_SortedFunc_val_Value_i [] [x0,x1] r Ho :=
 fn_intro mixed slices_SortedFunc_val_Value_ann (fn:=Tryz.f97) (by kernel_rfl) (by kernel_rfl) (by rw [slices_SortedFunc_val_Value_eq]; exact h)
def slices_Values_val_Value_val_Value (x0:AV) (H:List Ob) (K:AV→List Ob→Prop):Prop :=
 aBox x0 H fun v0 h1 =>
 aMakeFunc slices_Values_val_Value_val_Value_1_i [v0] h1 fun v2 h3 =>
 K v2 h3
def slices_Values_val_Value_val_Value_ann:Nat→List Nat:=fun _=>[]
theorem slices_Values_val_Value_val_Value_eq (x0:AV) (H:List Ob) (r:AV) (Ho:List Ob):aBody Tryz.prog slices_Values_val_Value_val_Value_ann Tryz.f98 H [x0] r Ho = slices_Values_val_Value_val_Value x0 H (fun v H'=>Gives H.length v H' r Ho):=by kernel_rfl
theorem slices_Values_val_Value_val_Value_fn {x0:AV} {r:AV} {Ho:List Ob} (h:slices_Values_val_Value_val_Value x0 [] (fun v H'=>Gives 0 v H' r Ho)):Abs.Fn Tryz.prog slices_Values_val_Value_val_Value_i [] [x0] r Ho :=
 fn_intro mixed slices_Values_val_Value_val_Value_ann (fn:=Tryz.f98) (by kernel_rfl) (by kernel_rfl) (by rw [slices_Values_val_Value_val_Value_eq]; exact h)
def slices_SortedFunc_deno_Bad (x0 x1:AV) (H:List Ob) (K:AV→List Ob→Prop):Prop :=
 aCall Tryz.prog (.p (.func slices_Collect_deno_Bad_i [])) [x0] H fun v0 h1 =>
 aCall Tryz.prog (.p (.func slices_SortFunc_deno_Bad_deno_Bad_i [])) [v0,x1] h1 fun _ h3 =>
 K v0 h3
def slices_SortedFunc_deno_Bad_ann:Nat→List Nat:=fun _=>[]
theorem slices_SortedFunc_deno_Bad_eq (x0 x1:AV) (H:List Ob) (r:AV) (Ho:List Ob):aBody Tryz.prog slices_SortedFunc_deno_Bad_ann Tryz.f103 H [x0,x1] r Ho = slices_SortedFunc_deno_Bad x0 x1 H (fun v H'=>Gives H.length v H' r Ho):=by kernel_rfl
theorem slices_SortedFunc_deno_Bad_fn {x0 x1:AV} {r:AV} {Ho:List Ob} (h:slices_SortedFunc_deno_Bad x0 x1 [] (fun v H'=>Gives 0 v H' r Ho)):Abs.Fn Tryz.prog slices_SortedFunc_deno_Bad_i [] [x0,x1] r Ho :=
 fn_intro mixed slices_SortedFunc_deno_Bad_ann (fn:=Tryz.f103) (by kernel_rfl) (by kernel_rfl) (by rw [slices_SortedFunc_deno_Bad_eq]; exact h)
def slices_Values_deno_Bad_deno_Bad (x0:AV) (H:List Ob) (K:AV→List Ob→Prop):Prop :=
 aBox x0 H fun v0 h1 =>
 aMakeFunc slices_Values_deno_Bad_deno_Bad_1_i [v0] h1 fun v2 h3 =>
 K v2 h3
def slices_Values_deno_Bad_deno_Bad_ann:Nat→List Nat:=fun _=>[]
theorem slices_Values_deno_Bad_deno_Bad_eq (x0:AV) (H:List Ob) (r:AV) (Ho:List Ob):aBody Tryz.prog slices_Values_deno_Bad_deno_Bad_ann Tryz.f104 H [x0] r Ho = slices_Values_deno_Bad_deno_Bad x0 H (fun v H'=>Gives H.length v H' r Ho):=by kernel_rfl
theorem slices_Values_deno_Bad_deno_Bad_fn {x0:AV} {r:AV} {Ho:List Ob} (h:slices_Values_deno_Bad_deno_Bad x0 [] (fun v H'=>Gives 0 v H' r Ho)):Abs.Fn Tryz.prog slices_Values_deno_Bad_deno_Bad_i [] [x0] r Ho :=
 fn_intro mixed slices_Values_deno_Bad_deno_Bad_ann (fn:=Tryz.f104) (by kernel_rfl) (by kernel_rfl) (by rw [slices_Values_deno_Bad_deno_Bad_eq]; exact h)
def slices_Clip_deno_Bad_deno_Bad (x0:AV) (H:List Ob) (K:AV→List Ob→Prop):Prop :=
 aLen false false x0 fun v0 =>
 aLen false false x0 fun v1 =>
 aSlice false 6 x0 none (some v0) (some v1) fun v2 =>
 K v2 H
def slices_Clip_deno_Bad_deno_Bad_ann:Nat→List Nat:=fun _=>[]
theorem slices_Clip_deno_Bad_deno_Bad_eq (x0:AV) (H:List Ob) (r:AV) (Ho:List Ob):aBody Tryz.prog slices_Clip_deno_Bad_deno_Bad_ann Tryz.f116 H [x0] r Ho = slices_Clip_deno_Bad_deno_Bad x0 H (fun v H'=>Gives H.length v H' r Ho):=by kernel_rfl
theorem slices_Clip_deno_Bad_deno_Bad_fn {x0:AV} {r:AV} {Ho:List Ob} (h:slices_Clip_deno_Bad_deno_Bad x0 [] (fun v H'=>Gives 0 v H' r Ho)):Abs.Fn Tryz.prog slices_Clip_deno_Bad_deno_Bad_i [] [x0] r Ho :=
 fn_intro mixed slices_Clip_deno_Bad_deno_Bad_ann (fn:=Tryz.f116) (by kernel_rfl) (by kernel_rfl) (by rw [slices_Clip_deno_Bad_deno_Bad_eq]; exact h)
def slices_Collect_val_Value (x0:AV) (H:List Ob) (K:AV→List Ob→Prop):Prop :=
 aCall Tryz.prog (.p (.func slices_AppendSeq_val_Value_val_Value_i [])) [(.full []),x0] H fun v0 h1 =>
 K v0 h1
def slices_Collect_val_Value_ann:Nat→List Nat:=fun _=>[]
theorem slices_Collect_val_Value_eq (x0:AV) (H:List Ob) (r:AV) (Ho:List Ob):aBody Tryz.prog slices_Collect_val_Value_ann Tryz.f139 H [x0] r Ho = slices_Collect_val_Value x0 H (fun v H'=>Gives H.length v H' r Ho):=by kernel_rfl
theorem slices_Collect_val_Value_fn {x0:AV} {r:AV} {Ho:List Ob} (h:slices_Collect_val_Value x0 [] (fun v H'=>Gives 0 v H' r Ho)):Abs.Fn Tryz.prog slices_Collect_val_Value_i [] [x0] r Ho :=
 fn_intro mixed slices_Collect_val_Value_ann (fn:=Tryz.f139) (by kernel_rfl) (by kernel_rfl) (by rw [slices_Collect_val_Value_eq]; exact h)
def slices_Collect_deno_Bad (x0:AV) (H:List Ob) (K:AV→List Ob→Prop):Prop :=
 aCall Tryz.prog (.p (.func slices_AppendSeq_deno_Bad_deno_Bad_i [])) [(.full []),x0] H fun v0 h1 =>
 K v0 h1
def slices_Collect_deno_Bad_ann:Nat→List Nat:=fun _=>[]
theorem slices_Collect_deno_Bad_eq (x0:AV) (H:List Ob) (r:AV) (Ho:List Ob):aBody Tryz.prog slices_Collect_deno_Bad_ann Tryz.f145 H [x0] r Ho = slices_Collect_deno_Bad x0 H (fun v H'=>Gives H.length v H' r Ho):=by kernel_rfl
theorem slices_Collect_deno_Bad_fn {x0:AV} {r:AV} {Ho:List Ob} (h:slices_Collect_deno_Bad x0 [] (fun v H'=>Gives 0 v H' r Ho)):Abs.Fn Tryz.prog slices_Collect_deno_Bad_i [] [x0] r Ho :=
 fn_intro mixed slices_Collect_deno_Bad_ann (fn:=Tryz.f145) (by kernel_rfl) (by kernel_rfl) (by rw [slices_Collect_deno_Bad_eq]; exact h)
end Go.Proofs.YtdmgbhamigegfaaGreatDoor
end

section
/- Made by program (Gen.lean): functions of the dump, over trees. -/
set_option maxRecDepth 4000
set_option linter.unusedVariables false
namespace Go.Proofs.YtdmgbhamigegfaaGreatDoor
open Go Go.Abs
def slices_Index_int_int_L1 (q1s0 q1s1 q1s7 y0:AV) (H:List Ob) (B1:List AV→List Ob→Prop) (K:AV→List Ob→Prop):Prop :=
 aBin false false .lss y0 q1s7 fun v1 =>
 aGuard v1
 (aIndexAddr 1 q1s0 y0 fun v2 =>
 aLoad false 1 v2 H fun v3 =>
 aBin false false .eql q1s1 v3 fun v4 =>
 aGuard v4
 (K y0 H)
 (aBin false false .add y0 (.p (.int .i64 1)) fun v5 =>
 B1 [v5] H))
 (K (.p (.int .i64 (-1))) H)
def slices_Index_int_int (x0 x1:AV) (H:List Ob) (K:AV→List Ob→Prop):Prop :=
 aLen false false x0 fun v0 =>
 aLoopN 1 [(.p (.int .i64 0))] H fun xs H B1=>slices_Index_int_int_L1 x0 x1 v0 (xs.getD 0 .top) H B1 K
def slices_Index_int_int_ann:Nat→List Nat:=fun k=>match k with | 2=>[8] | _=>[]
theorem slices_Index_int_int_eq (x0 x1:AV) (H:List Ob) (r:AV) (Ho:List Ob):aBody Tryz.prog slices_Index_int_int_ann Tryz.f68 H [x0,x1] r Ho = slices_Index_int_int x0 x1 H (fun v H'=>Gives H.length v H' r Ho):=by kernel_rfl
theorem slices_Index_int_int_fn {x0 x1:AV} {r:AV} {Ho:List Ob} (h:slices_Index_int_int x0 x1 [] (fun v H'=>Gives 0 v H' r Ho)):Abs.Fn Tryz.prog slices_Index_int_int_i [] [x0,x1] r Ho :=
 fn_intro mixed slices_Index_int_int_ann (fn:=Tryz.f68) (by kernel_rfl) (by kernel_rfl) (by rw [slices_Index_int_int_eq]; exact h)
def slices_Contains_int_int (x0 x1:AV) (H:List Ob) (K:AV→List Ob→Prop):Prop :=
 aCall Tryz.prog (.p (.func slices_Index_int_int_i [])) [x0,x1] H fun v0 h1 =>
 aBin false false .geq v0 (.p (.int .i64 0)) fun v2 =>
 K v2 h1
def slices_Contains_int_int_ann:Nat→List Nat:=fun _=>[]
theorem slices_Contains_int_int_eq (x0 x1:AV) (H:List Ob) (r:AV) (Ho:List Ob):aBody Tryz.prog slices_Contains_int_int_ann Tryz.f134 H [x0,x1] r Ho = slices_Contains_int_int x0 x1 H (fun v H'=>Gives H.length v H' r Ho):=by kernel_rfl
theorem slices_Contains_int_int_fn {x0 x1:AV} {r:AV} {Ho:List Ob} (h:slices_Contains_int_int x0 x1 [] (fun v H'=>Gives 0 v H' r Ho)):Abs.Fn Tryz.prog slices_Contains_int_int_i [] [x0,x1] r Ho :=
 fn_intro mixed slices_Contains_int_int_ann (fn:=Tryz.f134) (by kernel_rfl) (by kernel_rfl) (by rw [slices_Contains_int_int_eq]; exact h)
def slices_Clip_int_int (x0:AV) (H:List Ob) (K:AV→List Ob→Prop):Prop :=
 aLen false false x0 fun v0 =>
 aLen false false x0 fun v1 =>
 aSlice false 1 x0 none (some v0) (some v1) fun v2 =>
 K v2 H
def slices_Clip_int_int_ann:Nat→List Nat:=fun _=>[]
theorem slices_Clip_int_int_eq (x0:AV) (H:List Ob) (r:AV) (Ho:List Ob):aBody Tryz.prog slices_Clip_int_int_ann Tryz.f135 H [x0] r Ho = slices_Clip_int_int x0 H (fun v H'=>Gives H.length v H' r Ho):=by kernel_rfl
theorem slices_Clip_int_int_fn {x0:AV} {r:AV} {Ho:List Ob} (h:slices_Clip_int_int x0 [] (fun v H'=>Gives 0 v H' r Ho)):Abs.Fn Tryz.prog slices_Clip_int_int_i [] [x0] r Ho :=
 fn_intro mixed slices_Clip_int_int_ann (fn:=Tryz.f135) (by kernel_rfl) (by kernel_rfl) (by rw [slices_Clip_int_int_eq]; exact h)
end Go.Proofs.YtdmgbhamigegfaaGreatDoor
end
