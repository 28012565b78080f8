/- Made by program (Gen.lean): the functions' numbers. -/
import Derived.Test.YtklnalofcjagnaaProg
import Derived.KernelRfl
import Derived.Test.YtklnalofcjagnaaA3

section
/- Made by program (Gen.lean): the functions' numbers. -/
namespace Go.Proofs.Ytklnalofcjagnaa
open Go Go.Abs

theorem mixed : Try.prog.follows .mixedOrders = true := by kernel_rfl

abbrev main_main_i : Nat := 0
abbrev gosem_cut_i : Nat := 1
abbrev gosem_cut_init_i : Nat := 2
abbrev runnellaw3_WireValues_i : Nat := 3
abbrev runnellaw3_WireApart_i : Nat := 4
abbrev runnellaw3_WireCut_i : Nat := 5
abbrev runnellaw3_WireSizes_i : Nat := 6
abbrev runnellaw7_OpShapes_i : Nat := 7
abbrev runnellaw7_OpFields_i : Nat := 8
abbrev runnellaw3_known_i : Nat := 9
abbrev runnellaw2_Good_i : Nat := 10
abbrev wire_Put_i : Nat := 11
abbrev runnelref6_Put_i : Nat := 12
abbrev runnellaw2_Of_i : Nat := 13
abbrev wire_Get_i : Nat := 14
abbrev val_Same_i : Nat := 15
abbrev runnelref6_Same_i : Nat := 16
abbrev val_Int_i : Nat := 17
abbrev wire_PutNum_i : Nat := 18
abbrev runnellaw7_known_i : Nat := 19
abbrev runnellaw4_Lit_i : Nat := 20
abbrev runnellaw4_Op_i : Nat := 21
abbrev runnellaw4_X_i : Nat := 22
abbrev op_Apply_i : Nat := 23
abbrev val_Bool_i : Nat := 24
abbrev op_Out_i : Nat := 25
abbrev wire_Num_i : Nat := 26
abbrev val_Tup_i : Nat := 27
abbrev val_Str_i : Nat := 28
abbrev wire_Text_i : Nat := 29
abbrev wire_PutText_i : Nat := 30
abbrev runnellaw2_Few_i : Nat := 31
abbrev runnelref6_CheckValue_i : Nat := 32
abbrev runnelref6_PutNum_i : Nat := 33
abbrev runnelref6_PutText_i : Nat := 34
abbrev wire_Reader_value_i : Nat := 35
abbrev val_Compare_i : Nat := 36
abbrev runnelref6_Compare_i : Nat := 37
abbrev op_Key_i : Nat := 38
abbrev typ_Text_i : Nat := 39
abbrev op_Keyed_i : Nat := 40
abbrev op_Name_i : Nat := 41
abbrev eval_Eval_i : Nat := 42
abbrev op_of_op_shape_i : Nat := 43
abbrev op_shapes_i : Nat := 44
abbrev op_Op_fields_i : Nat := 45
abbrev op_types_i : Nat := 46
abbrev expr_Check_i : Nat := 47
abbrev op_Op_es_i : Nat := 48
abbrev op_Op_fits_i : Nat := 49
abbrev op_Op_goes_i : Nat := 50
abbrev typ_Check_i : Nat := 51
abbrev slices_Clip_val_Value_val_Value_i : Nat := 52
abbrev slices_Clone_val_Value_val_Value_i : Nat := 53
abbrev wire_text_i : Nat := 54
abbrev runnellaw2_budget_i : Nat := 55
abbrev runnelref6_checkValue_i : Nat := 56
abbrev wire_Reader_Byte_i : Nat := 57
abbrev wire_Reader_Uint_i : Nat := 58
abbrev wire_Reader_Fail_i : Nat := 59
abbrev wire_field_string_i : Nat := 60
abbrev typ_Row_i : Nat := 61
abbrev cmp_Or_int_i : Nat := 62
abbrev cmp_Compare_int_i : Nat := 63
abbrev cmp_Compare_int64_i : Nat := 64
abbrev val_truth_i : Nat := 65
abbrev strings_Compare_i : Nat := 66
abbrev val_rows_val_Value_i : Nat := 67
abbrev runnelref6_less_i : Nat := 68
abbrev typ_word_i : Nat := 69
abbrev strings_Join_i : Nat := 70
abbrev eval_choose_i : Nat := 71
abbrev eval_all_i : Nat := 72
abbrev eval_One_i : Nat := 73
abbrev eval_Both_i : Nat := 74
abbrev op_nothing_i : Nat := 75
abbrev op_span_in_i : Nat := 76
abbrev expr_Size_i : Nat := 77
abbrev expr_check_i : Nat := 78
abbrev op_alike_i : Nat := 79
abbrev typ_check_i : Nat := 80
abbrev wire_text_1_i : Nat := 81
abbrev wire_field_byte_i : Nat := 82
abbrev wire_one_i : Nat := 83
abbrev wire_field_uint64_i : Nat := 84
abbrev cmp_isNaN_int_i : Nat := 85
abbrev cmp_isNaN_int64_i : Nat := 86
abbrev internal_bytealg_CompareString_i : Nat := 87
abbrev slices_CompareFunc_val_Value_val_Value_val_Value_val_Value_i : Nat := 88
abbrev strings_Builder_Grow_i : Nat := 89
abbrev strings_Builder_WriteString_i : Nat := 90
abbrev strings_Builder_String_i : Nat := 91
abbrev eval_ones_i : Nat := 92
abbrev eval_table_func_a_val_Value_val_Value_find_i : Nat := 93
abbrev eval_twos_i : Nat := 94
abbrev eval_table_eval_Two_find_i : Nat := 95
abbrev expr_find_string_expr_shape_i : Nat := 96
abbrev expr_shapes_i : Nat := 97
abbrev expr_Expr_fields_i : Nat := 98
abbrev val_Check_i : Nat := 99
abbrev expr_fits_i : Nat := 100
abbrev expr_Expr_comes_i : Nat := 101
abbrev slices_Clip_typ_Type_typ_Type_i : Nat := 102
abbrev typ_Same_i : Nat := 103
abbrev typ_each_typ_Type_i : Nat := 104
abbrev typ_check_1_i : Nat := 105
abbrev internal_bytealg_abigen_runtime_cmpstring_i : Nat := 106
abbrev strings_Builder_copyCheck_i : Nat := 107
abbrev strings_Builder_grow_i : Nat := 108
abbrev eval_ones_1_i : Nat := 109
abbrev eval_ones_2_i : Nat := 110
abbrev eval_ones_3_i : Nat := 111
abbrev eval_number_i : Nat := 112
abbrev eval_twos_1_i : Nat := 113
abbrev eval_twos_2_i : Nat := 114
abbrev eval_twos_3_i : Nat := 115
abbrev eval_divided_i : Nat := 116
abbrev eval_twos_4_i : Nat := 117
abbrev eval_twos_5_i : Nat := 118
abbrev eval_twos_6_i : Nat := 119
abbrev eval_twos_7_i : Nat := 120
abbrev eval_cat_i : Nat := 121
abbrev expr_none_i : Nat := 122
abbrev val_check_i : Nat := 123
abbrev val_TypeOf_i : Nat := 124
abbrev slices_EqualFunc_typ_Type_typ_Type_typ_Type_typ_Type_i : Nat := 125
abbrev internal_abi_NoEscape_i : Nat := 126
abbrev internal_bytealg_MakeNoZero_i : Nat := 127
abbrev eval_number_1_i : Nat := 128
abbrev eval_divided_1_i : Nat := 129
abbrev val_spare_i : Nat := 130
abbrev val_kind_i : Nat := 131
abbrev runtime_boundsError_Error_i : Nat := 132
abbrev runtime_boundsError_RuntimeError_i : Nat := 133
abbrev runtime_errorString_Error_i : Nat := 134
abbrev runtime_errorString_RuntimeError_i : Nat := 135
abbrev runtime_plainError_Error_i : Nat := 136
abbrev runtime_plainError_RuntimeError_i : Nat := 137
abbrev runtime_errorAddressString_Error_i : Nat := 138
abbrev runtime_errorAddressString_RuntimeError_i : Nat := 139
abbrev runtime_TypeAssertionError_Error_i : Nat := 140
abbrev runtime_TypeAssertionError_RuntimeError_i : Nat := 141
abbrev runtime_PanicNilError_Error_i : Nat := 142
abbrev runtime_PanicNilError_RuntimeError_i : Nat := 143
abbrev internal_abi_Type_Align_i : Nat := 144
abbrev internal_runtime_maps_unhashableTypeError_Error_i : Nat := 145
abbrev internal_runtime_maps_unhashableTypeError_RuntimeError_i : Nat := 146
abbrev api_Errno_Error_i : Nat := 147
abbrev strings_Builder_Reset_i : Nat := 148
abbrev internal_abi_Kind_String_i : Nat := 149

end Go.Proofs.Ytklnalofcjagnaa
end

section
/- Made by program (Gen.lean): functions of the dump, over trees. -/
set_option maxRecDepth 4000
set_option linter.unusedVariables false
namespace Go.Proofs.Ytklnalofcjagnaa
open Go Go.Abs

/- runnel/typ.Text -/
def typ_Text_L1 (q1s13 q1s14 y0 y1 : AV) (H : List Ob) (B1 : List AV → List Ob → Prop) (K : AV → List Ob → Prop) : Prop :=
  aBin false false .lss y1 q1s14 fun v12 =>
  aGuard v12
  (aIndexAddr 2 q1s13 y1 fun v13 =>
  aLoad true 2 v13 H fun v14 =>
  aAlloc [(.p (.int .i64 0)), (.full [])] H fun v15 h16 =>
  aStore 2 v15 v14 h16 fun _ h18 =>
  aLoad true 2 v15 h18 fun v19 =>
  aCall Try.prog (.p (.func typ_Text_i [])) [v19] h18 fun v20 h21 =>
  aBuildSlice 1 [v20] fun v22 =>
  aAppend false 1 16 y0 v22 h21 fun v23 h24 =>
  aBin false false .add y1 (.p (.int .i64 1)) fun v25 =>
  B1 [v23, v25] h24)
  (aCall Try.prog (.p (.func strings_Join_i [])) [y0, (.p (.str [44]))] H fun v26 h27 =>
  aBin false false .add (.p (.str [40])) v26 fun v28 =>
  aBin false false .add v28 (.p (.str [41])) fun v29 =>
  K v29 h27)

def typ_Text (x0 : AV) (H : List Ob) (K : AV → List Ob → Prop) : Prop :=
  aBox x0 H fun v0 h1 =>
  aFieldAddr 0 v0 fun v2 =>
  aLoad false 1 v2 h1 fun v3 =>
  aBin false false .neq v3 (.p (.int .i64 4)) fun v4 =>
  aGuard v4
  (aFieldAddr 0 v0 fun v5 =>
  aLoad false 1 v5 h1 fun v6 =>
  aCall Try.prog (.p (.func typ_word_i [])) [v6] h1 fun v7 h8 =>
  K v7 h8)
  (aFieldAddr 1 v0 fun v9 =>
  aLoad false 1 v9 h1 fun v10 =>
  aLen false false v10 fun v11 =>
  aLoopN 2 [(.full []), (.p (.int .i64 0))] h1 fun xs H B1 => typ_Text_L1 v10 v11 (xs.getD 0 .top) (xs.getD 1 .top) H B1 K)

def typ_Text_ann : Nat → List Nat := fun k => match k with | 5 => [3, 15] | _ => []

theorem typ_Text_eq (x0 : AV) (H : List Ob) (r : AV) (Ho : List Ob) : aBody Try.prog typ_Text_ann Try.f39 H [x0] r Ho = typ_Text x0 H (fun v H' => Gives H.length v H' r Ho) := by kernel_rfl

theorem typ_Text_fnH {x0 : AV} {Hin : List Ob} {r : AV} {Ho : List Ob} (h : typ_Text x0 Hin (fun v H' => Gives Hin.length v H' r Ho)) : Abs.Fn Try.prog typ_Text_i Hin [x0] r Ho :=
  fn_intro mixed typ_Text_ann (fn := Try.f39) (by kernel_rfl) (by kernel_rfl) (by rw [typ_Text_eq]; exact h)

theorem typ_Text_fn {x0 : AV} {r : AV} {Ho : List Ob} (h : typ_Text x0 [] (fun v H' => Gives 0 v H' r Ho)) : Abs.Fn Try.prog typ_Text_i [] [x0] r Ho := typ_Text_fnH (Hin := []) h

/- runnel/typ.Check -/
def typ_Check (x0 : AV) (H : List Ob) (K : AV → List Ob → Prop) : Prop :=
  aBox x0 H fun v0 h1 =>
  aLoad true 2 v0 h1 fun v2 =>
  aCall Try.prog (.p (.func typ_check_i [])) [v2, (.p (.int .i64 0))] h1 fun v3 h4 =>
  K v3 h4

def typ_Check_ann : Nat → List Nat := fun _ => []

theorem typ_Check_eq (x0 : AV) (H : List Ob) (r : AV) (Ho : List Ob) : aBody Try.prog typ_Check_ann Try.f51 H [x0] r Ho = typ_Check x0 H (fun v H' => Gives H.length v H' r Ho) := by kernel_rfl

theorem typ_Check_fnH {x0 : AV} {Hin : List Ob} {r : AV} {Ho : List Ob} (h : typ_Check x0 Hin (fun v H' => Gives Hin.length v H' r Ho)) : Abs.Fn Try.prog typ_Check_i Hin [x0] r Ho :=
  fn_intro mixed typ_Check_ann (fn := Try.f51) (by kernel_rfl) (by kernel_rfl) (by rw [typ_Check_eq]; exact h)

theorem typ_Check_fn {x0 : AV} {r : AV} {Ho : List Ob} (h : typ_Check x0 [] (fun v H' => Gives 0 v H' r Ho)) : Abs.Fn Try.prog typ_Check_i [] [x0] r Ho := typ_Check_fnH (Hin := []) h

/- runnel/typ.Row -/
def typ_Row (x0 x1 : AV) (H : List Ob) (K : AV → List Ob → Prop) : Prop :=
  aBin false false .eql x0 (.p (.int .i64 0)) fun v0 =>
  aGuard v0
  (K (.p (.int .i64 1)) H)
  (aBin false false .gtr x0 (.p (.int .i64 8)) fun v1 =>
  aGuard v1
  (K (.p (.int .i64 10)) H)
  (aBin false false .gtr x1 (.p (.int .i64 4)) fun v2 =>
  aGuard v2
  (K (.p (.int .i64 9)) H)
  (K (.p (.int .i64 0)) H)))

def typ_Row_ann : Nat → List Nat := fun _ => []

theorem typ_Row_eq (x0 x1 : AV) (H : List Ob) (r : AV) (Ho : List Ob) : aBody Try.prog typ_Row_ann Try.f61 H [x0, x1] r Ho = typ_Row x0 x1 H (fun v H' => Gives H.length v H' r Ho) := by kernel_rfl

theorem typ_Row_fnH {x0 x1 : AV} {Hin : List Ob} {r : AV} {Ho : List Ob} (h : typ_Row x0 x1 Hin (fun v H' => Gives Hin.length v H' r Ho)) : Abs.Fn Try.prog typ_Row_i Hin [x0, x1] r Ho :=
  fn_intro mixed typ_Row_ann (fn := Try.f61) (by kernel_rfl) (by kernel_rfl) (by rw [typ_Row_eq]; exact h)

theorem typ_Row_fn {x0 x1 : AV} {r : AV} {Ho : List Ob} (h : typ_Row x0 x1 [] (fun v H' => Gives 0 v H' r Ho)) : Abs.Fn Try.prog typ_Row_i [] [x0, x1] r Ho := typ_Row_fnH (Hin := []) h

/- runnel/typ.word -/
def typ_word (x0 : AV) (H : List Ob) (K : AV → List Ob → Prop) : Prop :=
  aBin false false .eql x0 (.p (.int .i64 1)) fun v0 =>
  aGuard v0
  (K (.p (.str [105, 110, 116])) H)
  (aBin false false .eql x0 (.p (.int .i64 2)) fun v1 =>
  aGuard v1
  (K (.p (.str [98, 111, 111, 108])) H)
  (aBin false false .eql x0 (.p (.int .i64 3)) fun v2 =>
  aGuard v2
  (K (.p (.str [116, 101, 120, 116])) H)
  (K (.p (.str [])) H)))

def typ_word_ann : Nat → List Nat := fun _ => []

theorem typ_word_eq (x0 : AV) (H : List Ob) (r : AV) (Ho : List Ob) : aBody Try.prog typ_word_ann Try.f69 H [x0] r Ho = typ_word x0 H (fun v H' => Gives H.length v H' r Ho) := by kernel_rfl

theorem typ_word_fnH {x0 : AV} {Hin : List Ob} {r : AV} {Ho : List Ob} (h : typ_word x0 Hin (fun v H' => Gives Hin.length v H' r Ho)) : Abs.Fn Try.prog typ_word_i Hin [x0] r Ho :=
  fn_intro mixed typ_word_ann (fn := Try.f69) (by kernel_rfl) (by kernel_rfl) (by rw [typ_word_eq]; exact h)

theorem typ_word_fn {x0 : AV} {r : AV} {Ho : List Ob} (h : typ_word x0 [] (fun v H' => Gives 0 v H' r Ho)) : Abs.Fn Try.prog typ_word_i [] [x0] r Ho := typ_word_fnH (Hin := []) h

/- runnel/typ.check -/
def typ_check (x0 x1 : AV) (H : List Ob) (K : AV → List Ob → Prop) : Prop :=
  aBox x0 H fun v0 h1 =>
  aBox x1 h1 fun v2 h3 =>
  aFieldAddr 0 v0 fun v4 =>
  aLoad false 1 v4 h3 fun v5 =>
  aBin false false .eql v5 (.p (.int .i64 1)) fun v6 =>
  aMerge false v6 (fun Q7 =>
  aBin false false .eql v5 (.p (.int .i64 2)) fun v8 =>
  aMerge false v8 (fun Q9 =>
  aBin false false .eql v5 (.p (.int .i64 3)) fun v10 =>
  (h3 = h3 ∧ Q9 v10)) fun v11 =>
  (h3 = h3 ∧ Q7 v11)) fun v12 =>
  aGuard v12
  (aFieldAddr 1 v0 fun v13 =>
  aLoad false 1 v13 h3 fun v14 =>
  aLen false false v14 fun v15 =>
  aBin false false .gtr v15 (.p (.int .i64 0)) fun v16 =>
  aGuard v16
  (K (.p (.int .i64 5)) h3)
  (K (.p (.int .i64 0)) h3))
  (aBin false false .eql v5 (.p (.int .i64 4)) fun v17 =>
  aGuard v17
  (aFieldAddr 1 v0 fun v18 =>
  aLoad false 1 v18 h3 fun v19 =>
  aLen false false v19 fun v20 =>
  aLoad false 1 v2 h3 fun v21 =>
  aCall Try.prog (.p (.func typ_Row_i [])) [v20, v21] h3 fun v22 h23 =>
  aBin false false .neq v22 (.p (.int .i64 0)) fun v24 =>
  aGuard v24
  (K v22 h23)
  (aFieldAddr 1 v0 fun v25 =>
  aLoad false 1 v25 h23 fun v26 =>
  aMakeFunc typ_check_1_i [v2] h23 fun v27 h28 =>
  aCall Try.prog (.p (.func typ_each_typ_Type_i [])) [v26, v27] h28 fun v29 h30 =>
  K v29 h30))
  (K (.p (.int .i64 5)) h3))

def typ_check_ann : Nat → List Nat := fun k => match k with | 1000004 => [1] | 1000003 => [1] | _ => []

theorem typ_check_eq (x0 x1 : AV) (H : List Ob) (r : AV) (Ho : List Ob) : aBody Try.prog typ_check_ann Try.f80 H [x0, x1] r Ho = typ_check x0 x1 H (fun v H' => Gives H.length v H' r Ho) := by kernel_rfl

theorem typ_check_fnH {x0 x1 : AV} {Hin : List Ob} {r : AV} {Ho : List Ob} (h : typ_check x0 x1 Hin (fun v H' => Gives Hin.length v H' r Ho)) : Abs.Fn Try.prog typ_check_i Hin [x0, x1] r Ho :=
  fn_intro mixed typ_check_ann (fn := Try.f80) (by kernel_rfl) (by kernel_rfl) (by rw [typ_check_eq]; exact h)

theorem typ_check_fn {x0 x1 : AV} {r : AV} {Ho : List Ob} (h : typ_check x0 x1 [] (fun v H' => Gives 0 v H' r Ho)) : Abs.Fn Try.prog typ_check_i [] [x0, x1] r Ho := typ_check_fnH (Hin := []) h

/- slices.Clip[[]runnel/typ.Type,runnel/typ.Type] -/
def slices_Clip_typ_Type_typ_Type (x0 : AV) (H : List Ob) (K : AV → List Ob → Prop) : Prop :=
  aLen false false x0 fun v0 =>
  aLen false false x0 fun v1 =>
  aSlice false 2 x0 none (some v0) (some v1) fun v2 =>
  K v2 H

def slices_Clip_typ_Type_typ_Type_ann : Nat → List Nat := fun _ => []

theorem slices_Clip_typ_Type_typ_Type_eq (x0 : AV) (H : List Ob) (r : AV) (Ho : List Ob) : aBody Try.prog slices_Clip_typ_Type_typ_Type_ann Try.f102 H [x0] r Ho = slices_Clip_typ_Type_typ_Type x0 H (fun v H' => Gives H.length v H' r Ho) := by kernel_rfl

theorem slices_Clip_typ_Type_typ_Type_fnH {x0 : AV} {Hin : List Ob} {r : AV} {Ho : List Ob} (h : slices_Clip_typ_Type_typ_Type x0 Hin (fun v H' => Gives Hin.length v H' r Ho)) : Abs.Fn Try.prog slices_Clip_typ_Type_typ_Type_i Hin [x0] r Ho :=
  fn_intro mixed slices_Clip_typ_Type_typ_Type_ann (fn := Try.f102) (by kernel_rfl) (by kernel_rfl) (by rw [slices_Clip_typ_Type_typ_Type_eq]; exact h)

theorem slices_Clip_typ_Type_typ_Type_fn {x0 : AV} {r : AV} {Ho : List Ob} (h : slices_Clip_typ_Type_typ_Type x0 [] (fun v H' => Gives 0 v H' r Ho)) : Abs.Fn Try.prog slices_Clip_typ_Type_typ_Type_i [] [x0] r Ho := slices_Clip_typ_Type_typ_Type_fnH (Hin := []) h

/- runnel/typ.Same -/
def typ_Same (x0 x1 : AV) (H : List Ob) (K : AV → List Ob → Prop) : Prop :=
  aBox x0 H fun v0 h1 =>
  aBox x1 h1 fun v2 h3 =>
  aFieldAddr 0 v0 fun v4 =>
  aLoad false 1 v4 h3 fun v5 =>
  aFieldAddr 0 v2 fun v6 =>
  aLoad false 1 v6 h3 fun v7 =>
  aBin false false .eql v5 v7 fun v8 =>
  aMerge true v8 (fun Q9 =>
  aFieldAddr 1 v0 fun v10 =>
  aLoad false 1 v10 h3 fun v11 =>
  aFieldAddr 1 v2 fun v12 =>
  aLoad false 1 v12 h3 fun v13 =>
  aCall Try.prog (.p (.func slices_EqualFunc_typ_Type_typ_Type_typ_Type_typ_Type_i [])) [v11, v13, (.p (.func typ_Same_i []))] h3 fun v14 h15 =>
  (h15 = h3 ∧ Q9 v14)) fun v16 =>
  K v16 h3

def typ_Same_ann : Nat → List Nat := fun _ => []

theorem typ_Same_eq (x0 x1 : AV) (H : List Ob) (r : AV) (Ho : List Ob) : aBody Try.prog typ_Same_ann Try.f103 H [x0, x1] r Ho = typ_Same x0 x1 H (fun v H' => Gives H.length v H' r Ho) := by kernel_rfl

theorem typ_Same_fnH {x0 x1 : AV} {Hin : List Ob} {r : AV} {Ho : List Ob} (h : typ_Same x0 x1 Hin (fun v H' => Gives Hin.length v H' r Ho)) : Abs.Fn Try.prog typ_Same_i Hin [x0, x1] r Ho :=
  fn_intro mixed typ_Same_ann (fn := Try.f103) (by kernel_rfl) (by kernel_rfl) (by rw [typ_Same_eq]; exact h)

theorem typ_Same_fn {x0 x1 : AV} {r : AV} {Ho : List Ob} (h : typ_Same x0 x1 [] (fun v H' => Gives 0 v H' r Ho)) : Abs.Fn Try.prog typ_Same_i [] [x0, x1] r Ho := typ_Same_fnH (Hin := []) h

/- runnel/typ.each[runnel/typ.Type] -/
def typ_each_typ_Type_L1 (q1s1 q1s8 q1s9 y0 : AV) (H : List Ob) (B1 : List AV → List Ob → Prop) (K : AV → List Ob → Prop) : Prop :=
  aBin false false .lss y0 q1s9 fun v1 =>
  aGuard v1
  (aIndexAddr 2 q1s8 y0 fun v2 =>
  aLoad true 2 v2 H fun v3 =>
  aAlloc [(.p (.int .i64 0)), (.full [])] H fun v4 h5 =>
  aStore 2 v4 v3 h5 fun _ h7 =>
  aLoad true 2 v4 h7 fun v8 =>
  aCall Try.prog q1s1 [v8] h7 fun v9 h10 =>
  aBin false false .neq v9 (.p (.int .i64 0)) fun v11 =>
  aGuard v11
  (K v9 h10)
  (aBin false false .add y0 (.p (.int .i64 1)) fun v12 =>
  B1 [v12] h10))
  (K (.p (.int .i64 0)) H)

def typ_each_typ_Type (x0 x1 : AV) (H : List Ob) (K : AV → List Ob → Prop) : Prop :=
  aLen false false x0 fun v0 =>
  aLoopN 1 [(.p (.int .i64 0))] H fun xs H B1 => typ_each_typ_Type_L1 x1 x0 v0 (xs.getD 0 .top) H B1 K

def typ_each_typ_Type_ann : Nat → List Nat := fun k => match k with | 2 => [10] | _ => []

theorem typ_each_typ_Type_eq (x0 x1 : AV) (H : List Ob) (r : AV) (Ho : List Ob) : aBody Try.prog typ_each_typ_Type_ann Try.f104 H [x0, x1] r Ho = typ_each_typ_Type x0 x1 H (fun v H' => Gives H.length v H' r Ho) := by kernel_rfl

theorem typ_each_typ_Type_fnH {x0 x1 : AV} {Hin : List Ob} {r : AV} {Ho : List Ob} (h : typ_each_typ_Type x0 x1 Hin (fun v H' => Gives Hin.length v H' r Ho)) : Abs.Fn Try.prog typ_each_typ_Type_i Hin [x0, x1] r Ho :=
  fn_intro mixed typ_each_typ_Type_ann (fn := Try.f104) (by kernel_rfl) (by kernel_rfl) (by rw [typ_each_typ_Type_eq]; exact h)

theorem typ_each_typ_Type_fn {x0 x1 : AV} {r : AV} {Ho : List Ob} (h : typ_each_typ_Type x0 x1 [] (fun v H' => Gives 0 v H' r Ho)) : Abs.Fn Try.prog typ_each_typ_Type_i [] [x0, x1] r Ho := typ_each_typ_Type_fnH (Hin := []) h

/- runnel/typ.check$1 -/
def typ_check_1 (x0 x1 : AV) (H : List Ob) (K : AV → List Ob → Prop) : Prop :=
  aBox x0 H fun v0 h1 =>
  aLoad true 2 v0 h1 fun v2 =>
  aLoad false 1 x1 h1 fun v3 =>
  aBin false false .add v3 (.p (.int .i64 1)) fun v4 =>
  aCall Try.prog (.p (.func typ_check_i [])) [v2, v4] h1 fun v5 h6 =>
  K v5 h6

def typ_check_1_ann : Nat → List Nat := fun _ => []

theorem typ_check_1_eq (x0 x1 : AV) (H : List Ob) (r : AV) (Ho : List Ob) : aBody Try.prog typ_check_1_ann Try.f105 H [x0, x1] r Ho = typ_check_1 x0 x1 H (fun v H' => Gives H.length v H' r Ho) := by kernel_rfl

theorem typ_check_1_fnH {x0 x1 : AV} {Hin : List Ob} {r : AV} {Ho : List Ob} (h : typ_check_1 x0 x1 Hin (fun v H' => Gives Hin.length v H' r Ho)) : Abs.Fn Try.prog typ_check_1_i Hin [x0, x1] r Ho :=
  fn_intro mixed typ_check_1_ann (fn := Try.f105) (by kernel_rfl) (by kernel_rfl) (by rw [typ_check_1_eq]; exact h)

theorem typ_check_1_fn {x0 x1 : AV} {r : AV} {Ho : List Ob} (h : typ_check_1 x0 x1 [] (fun v H' => Gives 0 v H' r Ho)) : Abs.Fn Try.prog typ_check_1_i [] [x0, x1] r Ho := typ_check_1_fnH (Hin := []) h

/- slices.EqualFunc[[]runnel/typ.Type,[]runnel/typ.Type,runnel/typ.Type,runnel/typ.Type] -/
def slices_EqualFunc_typ_Type_typ_Type_typ_Type_typ_Type_L1 (q1s1 q1s2 q1s15 q1s16 y0 : AV) (H : List Ob) (B1 : List AV → List Ob → Prop) (K : AV → List Ob → Prop) : Prop :=
  aBin false false .lss y0 q1s16 fun v4 =>
  aGuard v4
  (aIndexAddr 2 q1s15 y0 fun v5 =>
  aLoad true 2 v5 H fun v6 =>
  aAlloc [(.p (.int .i64 0)), (.full [])] H fun v7 h8 =>
  aStore 2 v7 v6 h8 fun _ h10 =>
  aIndexAddr 2 q1s1 y0 fun v11 =>
  aLoad true 2 v11 h10 fun v12 =>
  aAlloc [(.p (.int .i64 0)), (.full [])] h10 fun v13 h14 =>
  aStore 2 v13 v12 h14 fun _ h16 =>
  aLoad true 2 v7 h16 fun v17 =>
  aLoad true 2 v13 h16 fun v18 =>
  aCall Try.prog q1s2 [v17, v18] h16 fun v19 h20 =>
  aUn .not v19 fun v21 =>
  aGuard v21
  (K (.p (.bool false)) h20)
  (aBin false false .add y0 (.p (.int .i64 1)) fun v22 =>
  B1 [v22] h20))
  (K (.p (.bool true)) H)

def slices_EqualFunc_typ_Type_typ_Type_typ_Type_typ_Type (x0 x1 x2 : AV) (H : List Ob) (K : AV → List Ob → Prop) : Prop :=
  aLen false false x0 fun v0 =>
  aLen false false x1 fun v1 =>
  aBin false false .neq v0 v1 fun v2 =>
  aGuard v2
  (K (.p (.bool false)) H)
  (aLen false false x0 fun v3 =>
  aLoopN 1 [(.p (.int .i64 0))] H fun xs H B1 => slices_EqualFunc_typ_Type_typ_Type_typ_Type_typ_Type_L1 x1 x2 x0 v3 (xs.getD 0 .top) H B1 K)

def slices_EqualFunc_typ_Type_typ_Type_typ_Type_typ_Type_ann : Nat → List Nat := fun k => match k with | 4 => [17] | _ => []

theorem slices_EqualFunc_typ_Type_typ_Type_typ_Type_typ_Type_eq (x0 x1 x2 : AV) (H : List Ob) (r : AV) (Ho : List Ob) : aBody Try.prog slices_EqualFunc_typ_Type_typ_Type_typ_Type_typ_Type_ann Try.f125 H [x0, x1, x2] r Ho = slices_EqualFunc_typ_Type_typ_Type_typ_Type_typ_Type x0 x1 x2 H (fun v H' => Gives H.length v H' r Ho) := by kernel_rfl

theorem slices_EqualFunc_typ_Type_typ_Type_typ_Type_typ_Type_fnH {x0 x1 x2 : AV} {Hin : List Ob} {r : AV} {Ho : List Ob} (h : slices_EqualFunc_typ_Type_typ_Type_typ_Type_typ_Type x0 x1 x2 Hin (fun v H' => Gives Hin.length v H' r Ho)) : Abs.Fn Try.prog slices_EqualFunc_typ_Type_typ_Type_typ_Type_typ_Type_i Hin [x0, x1, x2] r Ho :=
  fn_intro mixed slices_EqualFunc_typ_Type_typ_Type_typ_Type_typ_Type_ann (fn := Try.f125) (by kernel_rfl) (by kernel_rfl) (by rw [slices_EqualFunc_typ_Type_typ_Type_typ_Type_typ_Type_eq]; exact h)

theorem slices_EqualFunc_typ_Type_typ_Type_typ_Type_typ_Type_fn {x0 x1 x2 : AV} {r : AV} {Ho : List Ob} (h : slices_EqualFunc_typ_Type_typ_Type_typ_Type_typ_Type x0 x1 x2 [] (fun v H' => Gives 0 v H' r Ho)) : Abs.Fn Try.prog slices_EqualFunc_typ_Type_typ_Type_typ_Type_typ_Type_i [] [x0, x1, x2] r Ho := slices_EqualFunc_typ_Type_typ_Type_typ_Type_typ_Type_fnH (Hin := []) h

end Go.Proofs.Ytklnalofcjagnaa
end

section
/- Made by program (Gen.lean): functions of the dump, over trees. -/
set_option maxRecDepth 4000
set_option linter.unusedVariables false
namespace Go.Proofs.Ytklnalofcjagnaa
open Go Go.Abs

/- runnel/runnellaw2.Good -/
def runnellaw2_Good (x0 : AV) (H : List Ob) (K : AV → List Ob → Prop) : Prop :=
  aBox x0 H fun v0 h1 =>
  aLoad true 5 v0 h1 fun v2 =>
  aCall Try.prog (.p (.func runnellaw2_Few_i [])) [v2] h1 fun v3 h4 =>
  aMerge true v3 (fun Q5 =>
  aLoad true 5 v0 h4 fun v6 =>
  aCall Try.prog (.p (.func runnellaw2_Of_i [])) [v6] h4 fun v7 h8 =>
  aCall Try.prog (.p (.func runnelref6_CheckValue_i [])) [v7] h8 fun v9 h10 =>
  aBin false false .eql v9 (.p (.int .i64 0)) fun v11 =>
  (h10 = h4 ∧ Q5 v11)) fun v12 =>
  K v12 h4

def runnellaw2_Good_ann : Nat → List Nat := fun _ => []

theorem runnellaw2_Good_eq (x0 : AV) (H : List Ob) (r : AV) (Ho : List Ob) : aBody Try.prog runnellaw2_Good_ann Try.f10 H [x0] r Ho = runnellaw2_Good x0 H (fun v H' => Gives H.length v H' r Ho) := by kernel_rfl

theorem runnellaw2_Good_fnH {x0 : AV} {Hin : List Ob} {r : AV} {Ho : List Ob} (h : runnellaw2_Good x0 Hin (fun v H' => Gives Hin.length v H' r Ho)) : Abs.Fn Try.prog runnellaw2_Good_i Hin [x0] r Ho :=
  fn_intro mixed runnellaw2_Good_ann (fn := Try.f10) (by kernel_rfl) (by kernel_rfl) (by rw [runnellaw2_Good_eq]; exact h)

theorem runnellaw2_Good_fn {x0 : AV} {r : AV} {Ho : List Ob} (h : runnellaw2_Good x0 [] (fun v H' => Gives 0 v H' r Ho)) : Abs.Fn Try.prog runnellaw2_Good_i [] [x0] r Ho := runnellaw2_Good_fnH (Hin := []) h

/- runnel/runnellaw2.Of -/
def runnellaw2_Of_L1 (q1s1 q1s2 q1s3 y0 : AV) (H : List Ob) (B1 : List AV → List Ob → Prop) (K : AV → List Ob → Prop) : Prop :=
  aFieldAddr 4 q1s1 fun v17 =>
  aLoad false 1 v17 H fun v18 =>
  aLen false false v18 fun v19 =>
  aBin false false .lss y0 v19 fun v20 =>
  aGuard v20
  (aFieldAddr 4 q1s3 fun v21 =>
  aLoad false 1 v21 H fun v22 =>
  aFieldAddr 4 q1s1 fun v23 =>
  aLoad false 1 v23 H fun v24 =>
  aIndexAddr 5 v24 y0 fun v25 =>
  aLoad true 5 v25 H fun v26 =>
  aCallT Try.prog (.p (.func runnellaw2_Of_i [])) [v26] fun v27 =>
  aBuildSlice 5 [v27] fun v28 =>
  aCalm [v22, v28] <|
  aAppend false 5 64 v22 v28 H fun v29 h30 =>
  aFieldAddr 4 q1s3 fun v31 =>
  aStore 1 v31 v29 h30 fun _ h33 =>
  aBin false false .add y0 (.p (.int .i64 1)) fun v34 =>
  B1 [v34] h33)
  (aLoad true 5 q1s3 H fun v35 =>
  aStore 5 q1s2 v35 H fun _ h37 =>
  aLoad true 5 q1s2 h37 fun v38 =>
  K v38 h37)

def runnellaw2_Of (x0 : AV) (H : List Ob) (K : AV → List Ob → Prop) : Prop :=
  aBox x0 H fun v0 h1 =>
  aAlloc [(.p (.int .i64 0)), (.p (.int .i64 0)), (.p (.bool false)), (.p (.str [])), (.full [])] h1 fun v2 h3 =>
  aFieldAddr 0 v0 fun v4 =>
  aLoad false 1 v4 h3 fun v5 =>
  aFieldAddr 1 v0 fun v6 =>
  aLoad false 1 v6 h3 fun v7 =>
  aFieldAddr 2 v0 fun v8 =>
  aLoad false 1 v8 h3 fun v9 =>
  aFieldAddr 3 v0 fun v10 =>
  aLoad false 1 v10 h3 fun v11 =>
  aBuild [(.p (.int .i64 0)), (.p (.int .i64 0)), (.p (.bool false)), (.p (.str [])), (.full [])] [(0, 1, v5), (1, 1, v7), (2, 1, v9), (3, 1, v11)] fun v12 =>
  aAlloc [(.p (.int .i64 0)), (.p (.int .i64 0)), (.p (.bool false)), (.p (.str [])), (.full [])] h3 fun v13 h14 =>
  aStore 5 v13 v12 h14 fun _ h16 =>
  aLoopN 1 [(.p (.int .i64 0))] h16 fun xs H B1 => runnellaw2_Of_L1 v0 v2 v13 (xs.getD 0 .top) H B1 K

def runnellaw2_Of_ann : Nat → List Nat := fun k => match k with | 3 => [4] | _ => []

theorem runnellaw2_Of_eq (x0 : AV) (H : List Ob) (r : AV) (Ho : List Ob) : aBody Try.prog runnellaw2_Of_ann Try.f13 H [x0] r Ho = runnellaw2_Of x0 H (fun v H' => Gives H.length v H' r Ho) := by kernel_rfl

theorem runnellaw2_Of_fnH {x0 : AV} {Hin : List Ob} {r : AV} {Ho : List Ob} (h : runnellaw2_Of x0 Hin (fun v H' => Gives Hin.length v H' r Ho)) : Abs.Fn Try.prog runnellaw2_Of_i Hin [x0] r Ho :=
  fn_intro mixed runnellaw2_Of_ann (fn := Try.f13) (by kernel_rfl) (by kernel_rfl) (by rw [runnellaw2_Of_eq]; exact h)

theorem runnellaw2_Of_fn {x0 : AV} {r : AV} {Ho : List Ob} (h : runnellaw2_Of x0 [] (fun v H' => Gives 0 v H' r Ho)) : Abs.Fn Try.prog runnellaw2_Of_i [] [x0] r Ho := runnellaw2_Of_fnH (Hin := []) h

/- runnel/val.Same -/
def val_Same (x0 x1 : AV) (H : List Ob) (K : AV → List Ob → Prop) : Prop :=
  aBox x0 H fun v0 h1 =>
  aBox x1 h1 fun v2 h3 =>
  aLoad true 5 v0 h3 fun v4 =>
  aLoad true 5 v2 h3 fun v5 =>
  aCall Try.prog (.p (.func val_Compare_i [])) [v4, v5] h3 fun v6 h7 =>
  aBin false false .eql v6 (.p (.int .i64 0)) fun v8 =>
  K v8 h7

def val_Same_ann : Nat → List Nat := fun _ => []

theorem val_Same_eq (x0 x1 : AV) (H : List Ob) (r : AV) (Ho : List Ob) : aBody Try.prog val_Same_ann Try.f15 H [x0, x1] r Ho = val_Same x0 x1 H (fun v H' => Gives H.length v H' r Ho) := by kernel_rfl

theorem val_Same_fnH {x0 x1 : AV} {Hin : List Ob} {r : AV} {Ho : List Ob} (h : val_Same x0 x1 Hin (fun v H' => Gives Hin.length v H' r Ho)) : Abs.Fn Try.prog val_Same_i Hin [x0, x1] r Ho :=
  fn_intro mixed val_Same_ann (fn := Try.f15) (by kernel_rfl) (by kernel_rfl) (by rw [val_Same_eq]; exact h)

theorem val_Same_fn {x0 x1 : AV} {r : AV} {Ho : List Ob} (h : val_Same x0 x1 [] (fun v H' => Gives 0 v H' r Ho)) : Abs.Fn Try.prog val_Same_i [] [x0, x1] r Ho := val_Same_fnH (Hin := []) h

/- runnel/runnelref6.Same -/
def runnelref6_Same (x0 x1 : AV) (H : List Ob) (K : AV → List Ob → Prop) : Prop :=
  aBox x0 H fun v0 h1 =>
  aBox x1 h1 fun v2 h3 =>
  aLoad true 5 v0 h3 fun v4 =>
  aLoad true 5 v2 h3 fun v5 =>
  aCall Try.prog (.p (.func runnelref6_Compare_i [])) [v4, v5] h3 fun v6 h7 =>
  aBin false false .eql v6 (.p (.int .i64 0)) fun v8 =>
  K v8 h7

def runnelref6_Same_ann : Nat → List Nat := fun _ => []

theorem runnelref6_Same_eq (x0 x1 : AV) (H : List Ob) (r : AV) (Ho : List Ob) : aBody Try.prog runnelref6_Same_ann Try.f16 H [x0, x1] r Ho = runnelref6_Same x0 x1 H (fun v H' => Gives H.length v H' r Ho) := by kernel_rfl

theorem runnelref6_Same_fnH {x0 x1 : AV} {Hin : List Ob} {r : AV} {Ho : List Ob} (h : runnelref6_Same x0 x1 Hin (fun v H' => Gives Hin.length v H' r Ho)) : Abs.Fn Try.prog runnelref6_Same_i Hin [x0, x1] r Ho :=
  fn_intro mixed runnelref6_Same_ann (fn := Try.f16) (by kernel_rfl) (by kernel_rfl) (by rw [runnelref6_Same_eq]; exact h)

theorem runnelref6_Same_fn {x0 x1 : AV} {r : AV} {Ho : List Ob} (h : runnelref6_Same x0 x1 [] (fun v H' => Gives 0 v H' r Ho)) : Abs.Fn Try.prog runnelref6_Same_i [] [x0, x1] r Ho := runnelref6_Same_fnH (Hin := []) h

/- runnel/val.Int -/
def val_Int (x0 : AV) (H : List Ob) (K : AV → List Ob → Prop) : Prop :=
  aAlloc [(.p (.int .i64 0)), (.p (.int .i64 0)), (.p (.bool false)), (.p (.str [])), (.full [])] H fun v0 h1 =>
  aBuild [(.p (.int .i64 0)), (.p (.int .i64 0)), (.p (.bool false)), (.p (.str [])), (.full [])] [(0, 1, (.p (.int .i64 1))), (1, 1, x0)] fun v2 =>
  aStore 5 v0 v2 h1 fun _ h4 =>
  aLoad true 5 v0 h4 fun v5 =>
  K v5 h4

def val_Int_ann : Nat → List Nat := fun _ => []

theorem val_Int_eq (x0 : AV) (H : List Ob) (r : AV) (Ho : List Ob) : aBody Try.prog val_Int_ann Try.f17 H [x0] r Ho = val_Int x0 H (fun v H' => Gives H.length v H' r Ho) := by kernel_rfl

theorem val_Int_fnH {x0 : AV} {Hin : List Ob} {r : AV} {Ho : List Ob} (h : val_Int x0 Hin (fun v H' => Gives Hin.length v H' r Ho)) : Abs.Fn Try.prog val_Int_i Hin [x0] r Ho :=
  fn_intro mixed val_Int_ann (fn := Try.f17) (by kernel_rfl) (by kernel_rfl) (by rw [val_Int_eq]; exact h)

theorem val_Int_fn {x0 : AV} {r : AV} {Ho : List Ob} (h : val_Int x0 [] (fun v H' => Gives 0 v H' r Ho)) : Abs.Fn Try.prog val_Int_i [] [x0] r Ho := val_Int_fnH (Hin := []) h

/- runnel/val.Bool -/
def val_Bool (x0 : AV) (H : List Ob) (K : AV → List Ob → Prop) : Prop :=
  aAlloc [(.p (.int .i64 0)), (.p (.int .i64 0)), (.p (.bool false)), (.p (.str [])), (.full [])] H fun v0 h1 =>
  aBuild [(.p (.int .i64 0)), (.p (.int .i64 0)), (.p (.bool false)), (.p (.str [])), (.full [])] [(0, 1, (.p (.int .i64 2))), (2, 1, x0)] fun v2 =>
  aStore 5 v0 v2 h1 fun _ h4 =>
  aLoad true 5 v0 h4 fun v5 =>
  K v5 h4

def val_Bool_ann : Nat → List Nat := fun _ => []

theorem val_Bool_eq (x0 : AV) (H : List Ob) (r : AV) (Ho : List Ob) : aBody Try.prog val_Bool_ann Try.f24 H [x0] r Ho = val_Bool x0 H (fun v H' => Gives H.length v H' r Ho) := by kernel_rfl

theorem val_Bool_fnH {x0 : AV} {Hin : List Ob} {r : AV} {Ho : List Ob} (h : val_Bool x0 Hin (fun v H' => Gives Hin.length v H' r Ho)) : Abs.Fn Try.prog val_Bool_i Hin [x0] r Ho :=
  fn_intro mixed val_Bool_ann (fn := Try.f24) (by kernel_rfl) (by kernel_rfl) (by rw [val_Bool_eq]; exact h)

theorem val_Bool_fn {x0 : AV} {r : AV} {Ho : List Ob} (h : val_Bool x0 [] (fun v H' => Gives 0 v H' r Ho)) : Abs.Fn Try.prog val_Bool_i [] [x0] r Ho := val_Bool_fnH (Hin := []) h

/- runnel/val.Tup -/
def val_Tup (x0 : AV) (H : List Ob) (K : AV → List Ob → Prop) : Prop :=
  aAlloc [(.p (.int .i64 0)), (.p (.int .i64 0)), (.p (.bool false)), (.p (.str [])), (.full [])] H fun v0 h1 =>
  aCall Try.prog (.p (.func slices_Clone_val_Value_val_Value_i [])) [x0] h1 fun v2 h3 =>
  aCall Try.prog (.p (.func slices_Clip_val_Value_val_Value_i [])) [v2] h3 fun v4 h5 =>
  aBuild [(.p (.int .i64 0)), (.p (.int .i64 0)), (.p (.bool false)), (.p (.str [])), (.full [])] [(0, 1, (.p (.int .i64 4))), (4, 1, v4)] fun v6 =>
  aStore 5 v0 v6 h5 fun _ h8 =>
  aLoad true 5 v0 h8 fun v9 =>
  K v9 h8

def val_Tup_ann : Nat → List Nat := fun _ => []

theorem val_Tup_eq (x0 : AV) (H : List Ob) (r : AV) (Ho : List Ob) : aBody Try.prog val_Tup_ann Try.f27 H [x0] r Ho = val_Tup x0 H (fun v H' => Gives H.length v H' r Ho) := by kernel_rfl

theorem val_Tup_fnH {x0 : AV} {Hin : List Ob} {r : AV} {Ho : List Ob} (h : val_Tup x0 Hin (fun v H' => Gives Hin.length v H' r Ho)) : Abs.Fn Try.prog val_Tup_i Hin [x0] r Ho :=
  fn_intro mixed val_Tup_ann (fn := Try.f27) (by kernel_rfl) (by kernel_rfl) (by rw [val_Tup_eq]; exact h)

theorem val_Tup_fn {x0 : AV} {r : AV} {Ho : List Ob} (h : val_Tup x0 [] (fun v H' => Gives 0 v H' r Ho)) : Abs.Fn Try.prog val_Tup_i [] [x0] r Ho := val_Tup_fnH (Hin := []) h

/- runnel/val.Str -/
def val_Str (x0 : AV) (H : List Ob) (K : AV → List Ob → Prop) : Prop :=
  aAlloc [(.p (.int .i64 0)), (.p (.int .i64 0)), (.p (.bool false)), (.p (.str [])), (.full [])] H fun v0 h1 =>
  aBuild [(.p (.int .i64 0)), (.p (.int .i64 0)), (.p (.bool false)), (.p (.str [])), (.full [])] [(0, 1, (.p (.int .i64 3))), (3, 1, x0)] fun v2 =>
  aStore 5 v0 v2 h1 fun _ h4 =>
  aLoad true 5 v0 h4 fun v5 =>
  K v5 h4

def val_Str_ann : Nat → List Nat := fun _ => []

theorem val_Str_eq (x0 : AV) (H : List Ob) (r : AV) (Ho : List Ob) : aBody Try.prog val_Str_ann Try.f28 H [x0] r Ho = val_Str x0 H (fun v H' => Gives H.length v H' r Ho) := by kernel_rfl

theorem val_Str_fnH {x0 : AV} {Hin : List Ob} {r : AV} {Ho : List Ob} (h : val_Str x0 Hin (fun v H' => Gives Hin.length v H' r Ho)) : Abs.Fn Try.prog val_Str_i Hin [x0] r Ho :=
  fn_intro mixed val_Str_ann (fn := Try.f28) (by kernel_rfl) (by kernel_rfl) (by rw [val_Str_eq]; exact h)

theorem val_Str_fn {x0 : AV} {r : AV} {Ho : List Ob} (h : val_Str x0 [] (fun v H' => Gives 0 v H' r Ho)) : Abs.Fn Try.prog val_Str_i [] [x0] r Ho := val_Str_fnH (Hin := []) h

/- runnel/runnellaw2.Few -/
def runnellaw2_Few (x0 : AV) (H : List Ob) (K : AV → List Ob → Prop) : Prop :=
  aBox x0 H fun v0 h1 =>
  aLoad true 5 v0 h1 fun v2 =>
  aCall Try.prog (.p (.func runnellaw2_budget_i [])) [v2, (.p (.int .i64 12)), (.p (.int .i64 300))] h1 fun v3 h4 =>
  aBin false false .gtr v3 (.p (.int .i64 0)) fun v5 =>
  K v5 h4

def runnellaw2_Few_ann : Nat → List Nat := fun _ => []

theorem runnellaw2_Few_eq (x0 : AV) (H : List Ob) (r : AV) (Ho : List Ob) : aBody Try.prog runnellaw2_Few_ann Try.f31 H [x0] r Ho = runnellaw2_Few x0 H (fun v H' => Gives H.length v H' r Ho) := by kernel_rfl

theorem runnellaw2_Few_fnH {x0 : AV} {Hin : List Ob} {r : AV} {Ho : List Ob} (h : runnellaw2_Few x0 Hin (fun v H' => Gives Hin.length v H' r Ho)) : Abs.Fn Try.prog runnellaw2_Few_i Hin [x0] r Ho :=
  fn_intro mixed runnellaw2_Few_ann (fn := Try.f31) (by kernel_rfl) (by kernel_rfl) (by rw [runnellaw2_Few_eq]; exact h)

theorem runnellaw2_Few_fn {x0 : AV} {r : AV} {Ho : List Ob} (h : runnellaw2_Few x0 [] (fun v H' => Gives 0 v H' r Ho)) : Abs.Fn Try.prog runnellaw2_Few_i [] [x0] r Ho := runnellaw2_Few_fnH (Hin := []) h

/- runnel/runnelref6.CheckValue -/
def runnelref6_CheckValue (x0 : AV) (H : List Ob) (K : AV → List Ob → Prop) : Prop :=
  aBox x0 H fun v0 h1 =>
  aLoad true 5 v0 h1 fun v2 =>
  aCall Try.prog (.p (.func runnelref6_checkValue_i [])) [v2, (.p (.int .i64 0))] h1 fun v3 h4 =>
  K v3 h4

def runnelref6_CheckValue_ann : Nat → List Nat := fun _ => []

theorem runnelref6_CheckValue_eq (x0 : AV) (H : List Ob) (r : AV) (Ho : List Ob) : aBody Try.prog runnelref6_CheckValue_ann Try.f32 H [x0] r Ho = runnelref6_CheckValue x0 H (fun v H' => Gives H.length v H' r Ho) := by kernel_rfl

theorem runnelref6_CheckValue_fnH {x0 : AV} {Hin : List Ob} {r : AV} {Ho : List Ob} (h : runnelref6_CheckValue x0 Hin (fun v H' => Gives Hin.length v H' r Ho)) : Abs.Fn Try.prog runnelref6_CheckValue_i Hin [x0] r Ho :=
  fn_intro mixed runnelref6_CheckValue_ann (fn := Try.f32) (by kernel_rfl) (by kernel_rfl) (by rw [runnelref6_CheckValue_eq]; exact h)

theorem runnelref6_CheckValue_fn {x0 : AV} {r : AV} {Ho : List Ob} (h : runnelref6_CheckValue x0 [] (fun v H' => Gives 0 v H' r Ho)) : Abs.Fn Try.prog runnelref6_CheckValue_i [] [x0] r Ho := runnelref6_CheckValue_fnH (Hin := []) h

/- runnel/val.Compare -/
def val_Compare (x0 x1 : AV) (H : List Ob) (K : AV → List Ob → Prop) : Prop :=
  aBox x0 H fun v0 h1 =>
  aBox x1 h1 fun v2 h3 =>
  aFieldAddr 0 v0 fun v4 =>
  aLoad false 1 v4 h3 fun v5 =>
  aFieldAddr 0 v2 fun v6 =>
  aLoad false 1 v6 h3 fun v7 =>
  aCallT Try.prog (.p (.func cmp_Compare_int_i [])) [v5, v7] fun v8 =>
  aFieldAddr 1 v0 fun v9 =>
  aLoad false 1 v9 h3 fun v10 =>
  aFieldAddr 1 v2 fun v11 =>
  aLoad false 1 v11 h3 fun v12 =>
  aCallT Try.prog (.p (.func cmp_Compare_int64_i [])) [v10, v12] fun v13 =>
  aFieldAddr 2 v0 fun v14 =>
  aLoad false 1 v14 h3 fun v15 =>
  aCallT Try.prog (.p (.func val_truth_i [])) [v15] fun v16 =>
  aFieldAddr 2 v2 fun v17 =>
  aLoad false 1 v17 h3 fun v18 =>
  aCallT Try.prog (.p (.func val_truth_i [])) [v18] fun v19 =>
  aCallT Try.prog (.p (.func cmp_Compare_int_i [])) [v16, v19] fun v20 =>
  aFieldAddr 3 v0 fun v21 =>
  aLoad false 1 v21 h3 fun v22 =>
  aFieldAddr 3 v2 fun v23 =>
  aLoad false 1 v23 h3 fun v24 =>
  aCallT Try.prog (.p (.func strings_Compare_i [])) [v22, v24] fun v25 =>
  aBuildSlice 1 [v8, v13, v20, v25] fun v26 =>
  aCallT Try.prog (.p (.func cmp_Or_int_i [])) [v26] fun v27 =>
  aBin false false .neq v27 (.p (.int .i64 0)) fun v28 =>
  aGuard v28
  (K v27 h3)
  (aFieldAddr 4 v0 fun v29 =>
  aLoad false 1 v29 h3 fun v30 =>
  aFieldAddr 4 v2 fun v31 =>
  aLoad false 1 v31 h3 fun v32 =>
  aCall Try.prog (.p (.func val_rows_val_Value_i [])) [v30, v32, (.p (.func val_Compare_i []))] h3 fun v33 h34 =>
  K v33 h34)

def val_Compare_ann : Nat → List Nat := fun _ => []

theorem val_Compare_eq (x0 x1 : AV) (H : List Ob) (r : AV) (Ho : List Ob) : aBody Try.prog val_Compare_ann Try.f36 H [x0, x1] r Ho = val_Compare x0 x1 H (fun v H' => Gives H.length v H' r Ho) := by kernel_rfl

theorem val_Compare_fnH {x0 x1 : AV} {Hin : List Ob} {r : AV} {Ho : List Ob} (h : val_Compare x0 x1 Hin (fun v H' => Gives Hin.length v H' r Ho)) : Abs.Fn Try.prog val_Compare_i Hin [x0, x1] r Ho :=
  fn_intro mixed val_Compare_ann (fn := Try.f36) (by kernel_rfl) (by kernel_rfl) (by rw [val_Compare_eq]; exact h)

theorem val_Compare_fn {x0 x1 : AV} {r : AV} {Ho : List Ob} (h : val_Compare x0 x1 [] (fun v H' => Gives 0 v H' r Ho)) : Abs.Fn Try.prog val_Compare_i [] [x0, x1] r Ho := val_Compare_fnH (Hin := []) h

/- runnel/runnelref6.Compare -/
def runnelref6_Compare_L1 (q1s2 q1s3 y0 : AV) (H : List Ob) (B1 : List AV → List Ob → Prop) (K : AV → List Ob → Prop) : Prop :=
  aFieldAddr 4 q1s2 fun v49 =>
  aLoad false 1 v49 H fun v50 =>
  aLen false false v50 fun v51 =>
  aBin false false .lss y0 v51 fun v52 =>
  aMerge true v52 (fun Q53 =>
  aFieldAddr 4 q1s3 fun v54 =>
  aLoad false 1 v54 H fun v55 =>
  aLenS false v55 fun v56 =>
  aBin false false .lss y0 v56 fun v57 =>
  (H = H ∧ Q53 v57)) fun v58 =>
  aGuard v58
  (aFieldAddr 4 q1s2 fun v59 =>
  aLoad false 1 v59 H fun v60 =>
  aIndexAddr 5 v60 y0 fun v61 =>
  aLoad true 5 v61 H fun v62 =>
  aFieldAddr 4 q1s3 fun v63 =>
  aLoad false 1 v63 H fun v64 =>
  aIndexAddr 5 v64 y0 fun v65 =>
  aLoad true 5 v65 H fun v66 =>
  aCallT Try.prog (.p (.func runnelref6_Compare_i [])) [v62, v66] fun v67 =>
  aBin false false .neq v67 (.p (.int .i64 0)) fun v68 =>
  aGuard v68
  (K v67 H)
  (aBin false false .add y0 (.p (.int .i64 1)) fun v69 =>
  B1 [v69] H))
  (aFieldAddr 4 q1s2 fun v70 =>
  aLoad false 1 v70 H fun v71 =>
  aLen false false v71 fun v72 =>
  aFieldAddr 4 q1s3 fun v73 =>
  aLoad false 1 v73 H fun v74 =>
  aLen false false v74 fun v75 =>
  aBin false false .neq v72 v75 fun v76 =>
  aGuard v76
  (aFieldAddr 4 q1s2 fun v77 =>
  aLoad false 1 v77 H fun v78 =>
  aLen false false v78 fun v79 =>
  aFieldAddr 4 q1s3 fun v80 =>
  aLoad false 1 v80 H fun v81 =>
  aLen false false v81 fun v82 =>
  aBin false false .lss v79 v82 fun v83 =>
  aCall Try.prog (.p (.func runnelref6_less_i [])) [v83] H fun v84 h85 =>
  K v84 h85)
  (K (.p (.int .i64 0)) H))

def runnelref6_Compare (x0 x1 : AV) (H : List Ob) (K : AV → List Ob → Prop) : Prop :=
  aBox x0 H fun v0 h1 =>
  aBox x1 h1 fun v2 h3 =>
  aFieldAddr 0 v0 fun v4 =>
  aLoad false 1 v4 h3 fun v5 =>
  aFieldAddr 0 v2 fun v6 =>
  aLoad false 1 v6 h3 fun v7 =>
  aBin false false .neq v5 v7 fun v8 =>
  aGuard v8
  (aFieldAddr 0 v0 fun v9 =>
  aLoad false 1 v9 h3 fun v10 =>
  aFieldAddr 0 v2 fun v11 =>
  aLoad false 1 v11 h3 fun v12 =>
  aBin false false .lss v10 v12 fun v13 =>
  aCall Try.prog (.p (.func runnelref6_less_i [])) [v13] h3 fun v14 h15 =>
  K v14 h15)
  (aFieldAddr 1 v0 fun v16 =>
  aLoad false 1 v16 h3 fun v17 =>
  aFieldAddr 1 v2 fun v18 =>
  aLoad false 1 v18 h3 fun v19 =>
  aBin false false .neq v17 v19 fun v20 =>
  aGuard v20
  (aFieldAddr 1 v0 fun v21 =>
  aLoad false 1 v21 h3 fun v22 =>
  aFieldAddr 1 v2 fun v23 =>
  aLoad false 1 v23 h3 fun v24 =>
  aBin false false .lss v22 v24 fun v25 =>
  aCall Try.prog (.p (.func runnelref6_less_i [])) [v25] h3 fun v26 h27 =>
  K v26 h27)
  (aFieldAddr 2 v0 fun v28 =>
  aLoad false 1 v28 h3 fun v29 =>
  aFieldAddr 2 v2 fun v30 =>
  aLoad false 1 v30 h3 fun v31 =>
  aBin true false .neq v29 v31 fun v32 =>
  aGuard v32
  (aFieldAddr 2 v2 fun v33 =>
  aLoad false 1 v33 h3 fun v34 =>
  aCall Try.prog (.p (.func runnelref6_less_i [])) [v34] h3 fun v35 h36 =>
  K v35 h36)
  (aFieldAddr 3 v0 fun v37 =>
  aLoad false 1 v37 h3 fun v38 =>
  aFieldAddr 3 v2 fun v39 =>
  aLoad false 1 v39 h3 fun v40 =>
  aBin false false .neq v38 v40 fun v41 =>
  aGuard v41
  (aFieldAddr 3 v0 fun v42 =>
  aLoad false 1 v42 h3 fun v43 =>
  aFieldAddr 3 v2 fun v44 =>
  aLoad false 1 v44 h3 fun v45 =>
  aBin false false .lss v43 v45 fun v46 =>
  aCall Try.prog (.p (.func runnelref6_less_i [])) [v46] h3 fun v47 h48 =>
  K v47 h48)
  (aLoopN 1 [(.p (.int .i64 0))] h3 fun xs H B1 => runnelref6_Compare_L1 v0 v2 (xs.getD 0 .top) H B1 K))))

def runnelref6_Compare_ann : Nat → List Nat := fun k => match k with | 10 => [5] | _ => []

theorem runnelref6_Compare_eq (x0 x1 : AV) (H : List Ob) (r : AV) (Ho : List Ob) : aBody Try.prog runnelref6_Compare_ann Try.f37 H [x0, x1] r Ho = runnelref6_Compare x0 x1 H (fun v H' => Gives H.length v H' r Ho) := by kernel_rfl

theorem runnelref6_Compare_fnH {x0 x1 : AV} {Hin : List Ob} {r : AV} {Ho : List Ob} (h : runnelref6_Compare x0 x1 Hin (fun v H' => Gives Hin.length v H' r Ho)) : Abs.Fn Try.prog runnelref6_Compare_i Hin [x0, x1] r Ho :=
  fn_intro mixed runnelref6_Compare_ann (fn := Try.f37) (by kernel_rfl) (by kernel_rfl) (by rw [runnelref6_Compare_eq]; exact h)

theorem runnelref6_Compare_fn {x0 x1 : AV} {r : AV} {Ho : List Ob} (h : runnelref6_Compare x0 x1 [] (fun v H' => Gives 0 v H' r Ho)) : Abs.Fn Try.prog runnelref6_Compare_i [] [x0, x1] r Ho := runnelref6_Compare_fnH (Hin := []) h

/- slices.Clip[[]runnel/val.Value,runnel/val.Value] -/
def slices_Clip_val_Value_val_Value (x0 : AV) (H : List Ob) (K : AV → List Ob → Prop) : Prop :=
  aLen false false x0 fun v0 =>
  aLen false false x0 fun v1 =>
  aSlice false 5 x0 none (some v0) (some v1) fun v2 =>
  K v2 H

def slices_Clip_val_Value_val_Value_ann : Nat → List Nat := fun _ => []

theorem slices_Clip_val_Value_val_Value_eq (x0 : AV) (H : List Ob) (r : AV) (Ho : List Ob) : aBody Try.prog slices_Clip_val_Value_val_Value_ann Try.f52 H [x0] r Ho = slices_Clip_val_Value_val_Value x0 H (fun v H' => Gives H.length v H' r Ho) := by kernel_rfl

theorem slices_Clip_val_Value_val_Value_fnH {x0 : AV} {Hin : List Ob} {r : AV} {Ho : List Ob} (h : slices_Clip_val_Value_val_Value x0 Hin (fun v H' => Gives Hin.length v H' r Ho)) : Abs.Fn Try.prog slices_Clip_val_Value_val_Value_i Hin [x0] r Ho :=
  fn_intro mixed slices_Clip_val_Value_val_Value_ann (fn := Try.f52) (by kernel_rfl) (by kernel_rfl) (by rw [slices_Clip_val_Value_val_Value_eq]; exact h)

theorem slices_Clip_val_Value_val_Value_fn {x0 : AV} {r : AV} {Ho : List Ob} (h : slices_Clip_val_Value_val_Value x0 [] (fun v H' => Gives 0 v H' r Ho)) : Abs.Fn Try.prog slices_Clip_val_Value_val_Value_i [] [x0] r Ho := slices_Clip_val_Value_val_Value_fnH (Hin := []) h

/- slices.Clone[[]runnel/val.Value,runnel/val.Value] -/
def slices_Clone_val_Value_val_Value (x0 : AV) (H : List Ob) (K : AV → List Ob → Prop) : Prop :=
  aNil true .eql x0 fun v0 =>
  aGuard v0
  (K (.full []) H)
  (aBuildSlice 5 [] fun v1 =>
  aAppend false 5 64 v1 x0 H fun v2 h3 =>
  K v2 h3)

def slices_Clone_val_Value_val_Value_ann : Nat → List Nat := fun _ => []

theorem slices_Clone_val_Value_val_Value_eq (x0 : AV) (H : List Ob) (r : AV) (Ho : List Ob) : aBody Try.prog slices_Clone_val_Value_val_Value_ann Try.f53 H [x0] r Ho = slices_Clone_val_Value_val_Value x0 H (fun v H' => Gives H.length v H' r Ho) := by kernel_rfl

theorem slices_Clone_val_Value_val_Value_fnH {x0 : AV} {Hin : List Ob} {r : AV} {Ho : List Ob} (h : slices_Clone_val_Value_val_Value x0 Hin (fun v H' => Gives Hin.length v H' r Ho)) : Abs.Fn Try.prog slices_Clone_val_Value_val_Value_i Hin [x0] r Ho :=
  fn_intro mixed slices_Clone_val_Value_val_Value_ann (fn := Try.f53) (by kernel_rfl) (by kernel_rfl) (by rw [slices_Clone_val_Value_val_Value_eq]; exact h)

theorem slices_Clone_val_Value_val_Value_fn {x0 : AV} {r : AV} {Ho : List Ob} (h : slices_Clone_val_Value_val_Value x0 [] (fun v H' => Gives 0 v H' r Ho)) : Abs.Fn Try.prog slices_Clone_val_Value_val_Value_i [] [x0] r Ho := slices_Clone_val_Value_val_Value_fnH (Hin := []) h

/- runnel/runnellaw2.budget -/
def runnellaw2_budget_L1 (q1s1 q1s3 y0 y1 : AV) (H : List Ob) (B1 : List AV → List Ob → Prop) (K : AV → List Ob → Prop) : Prop :=
  aFieldAddr 4 q1s3 fun v19 =>
  aLoad false 1 v19 H fun v20 =>
  aLen false false v20 fun v21 =>
  aBin false false .lss y1 v21 fun v22 =>
  aMerge true v22 (fun Q23 =>
  aBin false false .gtr y0 (.p (.int .i64 0)) fun v24 =>
  (H = H ∧ Q23 v24)) fun v25 =>
  aGuard v25
  (aFieldAddr 4 q1s3 fun v26 =>
  aLoad false 1 v26 H fun v27 =>
  aIndexAddr 5 v27 y1 fun v28 =>
  aLoad true 5 v28 H fun v29 =>
  aBin false false .sub q1s1 (.p (.int .i64 1)) fun v30 =>
  aCall Try.prog (.p (.func runnellaw2_budget_i [])) [v29, v30, y0] H fun v31 h32 =>
  aBin false false .add y1 (.p (.int .i64 1)) fun v33 =>
  B1 [v31, v33] h32)
  (K y0 H)

def runnellaw2_budget (x0 x1 x2 : AV) (H : List Ob) (K : AV → List Ob → Prop) : Prop :=
  aBox x0 H fun v0 h1 =>
  aBin false false .leq x2 (.p (.int .i64 0)) fun v2 =>
  aMerge false v2 (fun Q3 =>
  aBin false false .leq x1 (.p (.int .i64 0)) fun v4 =>
  (h1 = h1 ∧ Q3 v4)) fun v5 =>
  aMerge false v5 (fun Q6 =>
  aFieldAddr 4 v0 fun v7 =>
  aLoad false 1 v7 h1 fun v8 =>
  aLenS false v8 fun v9 =>
  aBin false false .gtr v9 (.p (.int .i64 20)) fun v10 =>
  (h1 = h1 ∧ Q6 v10)) fun v11 =>
  aMerge false v11 (fun Q12 =>
  aFieldAddr 3 v0 fun v13 =>
  aLoad false 1 v13 h1 fun v14 =>
  aLenS true v14 fun v15 =>
  aBin false false .gtr v15 (.p (.int .i64 300)) fun v16 =>
  (h1 = h1 ∧ Q12 v16)) fun v17 =>
  aGuard v17
  (K (.p (.int .i64 0)) h1)
  (aBin false false .sub x2 (.p (.int .i64 1)) fun v18 =>
  aLoopN 2 [v18, (.p (.int .i64 0))] h1 fun xs H B1 => runnellaw2_budget_L1 x1 v0 (xs.getD 0 .top) (xs.getD 1 .top) H B1 K)

def runnellaw2_budget_ann : Nat → List Nat := fun k => match k with | 5 => [2, 7] | _ => []

theorem runnellaw2_budget_eq (x0 x1 x2 : AV) (H : List Ob) (r : AV) (Ho : List Ob) : aBody Try.prog runnellaw2_budget_ann Try.f55 H [x0, x1, x2] r Ho = runnellaw2_budget x0 x1 x2 H (fun v H' => Gives H.length v H' r Ho) := by kernel_rfl

theorem runnellaw2_budget_fnH {x0 x1 x2 : AV} {Hin : List Ob} {r : AV} {Ho : List Ob} (h : runnellaw2_budget x0 x1 x2 Hin (fun v H' => Gives Hin.length v H' r Ho)) : Abs.Fn Try.prog runnellaw2_budget_i Hin [x0, x1, x2] r Ho :=
  fn_intro mixed runnellaw2_budget_ann (fn := Try.f55) (by kernel_rfl) (by kernel_rfl) (by rw [runnellaw2_budget_eq]; exact h)

theorem runnellaw2_budget_fn {x0 x1 x2 : AV} {r : AV} {Ho : List Ob} (h : runnellaw2_budget x0 x1 x2 [] (fun v H' => Gives 0 v H' r Ho)) : Abs.Fn Try.prog runnellaw2_budget_i [] [x0, x1, x2] r Ho := runnellaw2_budget_fnH (Hin := []) h

/- runnel/runnelref6.checkValue -/
def runnelref6_checkValue_L1 (q1s1 q1s2 y0 : AV) (H : List Ob) (B1 : List AV → List Ob → Prop) (K : AV → List Ob → Prop) : Prop :=
  aFieldAddr 4 q1s2 fun v64 =>
  aLoad false 1 v64 H fun v65 =>
  aLen false false v65 fun v66 =>
  aBin false false .lss y0 v66 fun v67 =>
  aGuard v67
  (aFieldAddr 4 q1s2 fun v68 =>
  aLoad false 1 v68 H fun v69 =>
  aIndexAddr 5 v69 y0 fun v70 =>
  aLoad true 5 v70 H fun v71 =>
  aBin false false .add q1s1 (.p (.int .i64 1)) fun v72 =>
  aCall Try.prog (.p (.func runnelref6_checkValue_i [])) [v71, v72] H fun v73 h74 =>
  aBin false false .neq v73 (.p (.int .i64 0)) fun v75 =>
  aGuard v75
  (K v73 h74)
  (aBin false false .add y0 (.p (.int .i64 1)) fun v76 =>
  B1 [v76] h74))
  (K (.p (.int .i64 0)) H)

def runnelref6_checkValue (x0 x1 : AV) (H : List Ob) (K : AV → List Ob → Prop) : Prop :=
  aBox x0 H fun v0 h1 =>
  aFieldAddr 0 v0 fun v2 =>
  aLoad false 1 v2 h1 fun v3 =>
  aBin false false .lss v3 (.p (.int .i64 1)) fun v4 =>
  aMerge false v4 (fun Q5 =>
  aFieldAddr 0 v0 fun v6 =>
  aLoad false 1 v6 h1 fun v7 =>
  aBin false false .gtr v7 (.p (.int .i64 4)) fun v8 =>
  (h1 = h1 ∧ Q5 v8)) fun v9 =>
  aGuard v9
  (K (.p (.int .i64 5)) h1)
  (aFieldAddr 0 v0 fun v10 =>
  aLoad false 1 v10 h1 fun v11 =>
  aBin false false .neq v11 (.p (.int .i64 1)) fun v12 =>
  aMerge true v12 (fun Q13 =>
  aFieldAddr 1 v0 fun v14 =>
  aLoad false 1 v14 h1 fun v15 =>
  aBin false false .neq v15 (.p (.int .i64 0)) fun v16 =>
  (h1 = h1 ∧ Q13 v16)) fun v17 =>
  aMerge false v17 (fun Q18 =>
  aFieldAddr 0 v0 fun v19 =>
  aLoad false 1 v19 h1 fun v20 =>
  aBin false false .neq v20 (.p (.int .i64 2)) fun v21 =>
  aMerge true v21 (fun Q22 =>
  aFieldAddr 2 v0 fun v23 =>
  aLoad false 1 v23 h1 fun v24 =>
  (h1 = h1 ∧ Q22 v24)) fun v25 =>
  (h1 = h1 ∧ Q18 v25)) fun v26 =>
  aMerge false v26 (fun Q27 =>
  aFieldAddr 0 v0 fun v28 =>
  aLoad false 1 v28 h1 fun v29 =>
  aBin false false .neq v29 (.p (.int .i64 3)) fun v30 =>
  aMerge true v30 (fun Q31 =>
  aFieldAddr 3 v0 fun v32 =>
  aLoad false 1 v32 h1 fun v33 =>
  aBin false false .neq v33 (.p (.str [])) fun v34 =>
  (h1 = h1 ∧ Q31 v34)) fun v35 =>
  (h1 = h1 ∧ Q27 v35)) fun v36 =>
  aMerge false v36 (fun Q37 =>
  aFieldAddr 0 v0 fun v38 =>
  aLoad false 1 v38 h1 fun v39 =>
  aBin false false .neq v39 (.p (.int .i64 4)) fun v40 =>
  aMerge true v40 (fun Q41 =>
  aFieldAddr 4 v0 fun v42 =>
  aLoad false 1 v42 h1 fun v43 =>
  aLenS false v43 fun v44 =>
  aBin false false .gtr v44 (.p (.int .i64 0)) fun v45 =>
  (h1 = h1 ∧ Q41 v45)) fun v46 =>
  (h1 = h1 ∧ Q37 v46)) fun v47 =>
  aGuard v47
  (K (.p (.int .i64 2)) h1)
  (aFieldAddr 3 v0 fun v48 =>
  aLoad false 1 v48 h1 fun v49 =>
  aLen false true v49 fun v50 =>
  aBin false false .gtr v50 (.p (.int .i64 255)) fun v51 =>
  aGuard v51
  (K (.p (.int .i64 4)) h1)
  (aFieldAddr 0 v0 fun v52 =>
  aLoad false 1 v52 h1 fun v53 =>
  aBin false false .neq v53 (.p (.int .i64 4)) fun v54 =>
  aGuard v54
  (K (.p (.int .i64 0)) h1)
  (aFieldAddr 4 v0 fun v55 =>
  aLoad false 1 v55 h1 fun v56 =>
  aLen false false v56 fun v57 =>
  aBin false false .eql v57 (.p (.int .i64 0)) fun v58 =>
  aGuard v58
  (K (.p (.int .i64 1)) h1)
  (aFieldAddr 4 v0 fun v59 =>
  aLoad false 1 v59 h1 fun v60 =>
  aLen false false v60 fun v61 =>
  aBin false false .gtr v61 (.p (.int .i64 8)) fun v62 =>
  aGuard v62
  (K (.p (.int .i64 10)) h1)
  (aBin false false .gtr x1 (.p (.int .i64 4)) fun v63 =>
  aGuard v63
  (K (.p (.int .i64 9)) h1)
  (aLoopN 1 [(.p (.int .i64 0))] h1 fun xs H B1 => runnelref6_checkValue_L1 x1 v0 (xs.getD 0 .top) H B1 K)))))))

def runnelref6_checkValue_ann : Nat → List Nat := fun k => match k with | 16 => [5] | _ => []

theorem runnelref6_checkValue_eq (x0 x1 : AV) (H : List Ob) (r : AV) (Ho : List Ob) : aBody Try.prog runnelref6_checkValue_ann Try.f56 H [x0, x1] r Ho = runnelref6_checkValue x0 x1 H (fun v H' => Gives H.length v H' r Ho) := by kernel_rfl

theorem runnelref6_checkValue_fnH {x0 x1 : AV} {Hin : List Ob} {r : AV} {Ho : List Ob} (h : runnelref6_checkValue x0 x1 Hin (fun v H' => Gives Hin.length v H' r Ho)) : Abs.Fn Try.prog runnelref6_checkValue_i Hin [x0, x1] r Ho :=
  fn_intro mixed runnelref6_checkValue_ann (fn := Try.f56) (by kernel_rfl) (by kernel_rfl) (by rw [runnelref6_checkValue_eq]; exact h)

theorem runnelref6_checkValue_fn {x0 x1 : AV} {r : AV} {Ho : List Ob} (h : runnelref6_checkValue x0 x1 [] (fun v H' => Gives 0 v H' r Ho)) : Abs.Fn Try.prog runnelref6_checkValue_i [] [x0, x1] r Ho := runnelref6_checkValue_fnH (Hin := []) h

/- cmp.Or[int] -/
def cmp_Or_int_L1 (q1s3 q1s6 q1s7 y0 : AV) (H : List Ob) (B1 : List AV → List Ob → Prop) (K : AV → List Ob → Prop) : Prop :=
  aBin false false .lss y0 q1s7 fun v1 =>
  aGuard v1
  (aIndexAddr 1 q1s6 y0 fun v2 =>
  aLoad false 1 v2 H fun v3 =>
  aBin false false .neq v3 q1s3 fun v4 =>
  aGuard v4
  (K v3 H)
  (aBin false false .add y0 (.p (.int .i64 1)) fun v5 =>
  B1 [v5] H))
  (K q1s3 H)

def cmp_Or_int (x0 : AV) (H : List Ob) (K : AV → List Ob → Prop) : Prop :=
  aLen false false x0 fun v0 =>
  aLoopN 1 [(.p (.int .i64 0))] H fun xs H B1 => cmp_Or_int_L1 (.p (.int .i64 0)) x0 v0 (xs.getD 0 .top) H B1 K

def cmp_Or_int_ann : Nat → List Nat := fun k => match k with | 3 => [8] | _ => []

theorem cmp_Or_int_eq (x0 : AV) (H : List Ob) (r : AV) (Ho : List Ob) : aBody Try.prog cmp_Or_int_ann Try.f62 H [x0] r Ho = cmp_Or_int x0 H (fun v H' => Gives H.length v H' r Ho) := by kernel_rfl

theorem cmp_Or_int_fnH {x0 : AV} {Hin : List Ob} {r : AV} {Ho : List Ob} (h : cmp_Or_int x0 Hin (fun v H' => Gives Hin.length v H' r Ho)) : Abs.Fn Try.prog cmp_Or_int_i Hin [x0] r Ho :=
  fn_intro mixed cmp_Or_int_ann (fn := Try.f62) (by kernel_rfl) (by kernel_rfl) (by rw [cmp_Or_int_eq]; exact h)

theorem cmp_Or_int_fn {x0 : AV} {r : AV} {Ho : List Ob} (h : cmp_Or_int x0 [] (fun v H' => Gives 0 v H' r Ho)) : Abs.Fn Try.prog cmp_Or_int_i [] [x0] r Ho := cmp_Or_int_fnH (Hin := []) h

/- cmp.Compare[int] -/
def cmp_Compare_int (x0 x1 : AV) (H : List Ob) (K : AV → List Ob → Prop) : Prop :=
  aCall Try.prog (.p (.func cmp_isNaN_int_i [])) [x0] H fun v0 h1 =>
  aCall Try.prog (.p (.func cmp_isNaN_int_i [])) [x1] h1 fun v2 h3 =>
  aGuard v0
  (aGuard v2
  (K (.p (.int .i64 0)) h3)
  (K (.p (.int .i64 (-1))) h3))
  (aGuard v2
  (K (.p (.int .i64 1)) h3)
  (aBin false false .lss x0 x1 fun v4 =>
  aGuard v4
  (K (.p (.int .i64 (-1))) h3)
  (aBin false false .gtr x0 x1 fun v5 =>
  aGuard v5
  (K (.p (.int .i64 1)) h3)
  (K (.p (.int .i64 0)) h3))))

def cmp_Compare_int_ann : Nat → List Nat := fun _ => []

theorem cmp_Compare_int_eq (x0 x1 : AV) (H : List Ob) (r : AV) (Ho : List Ob) : aBody Try.prog cmp_Compare_int_ann Try.f63 H [x0, x1] r Ho = cmp_Compare_int x0 x1 H (fun v H' => Gives H.length v H' r Ho) := by kernel_rfl

theorem cmp_Compare_int_fnH {x0 x1 : AV} {Hin : List Ob} {r : AV} {Ho : List Ob} (h : cmp_Compare_int x0 x1 Hin (fun v H' => Gives Hin.length v H' r Ho)) : Abs.Fn Try.prog cmp_Compare_int_i Hin [x0, x1] r Ho :=
  fn_intro mixed cmp_Compare_int_ann (fn := Try.f63) (by kernel_rfl) (by kernel_rfl) (by rw [cmp_Compare_int_eq]; exact h)

theorem cmp_Compare_int_fn {x0 x1 : AV} {r : AV} {Ho : List Ob} (h : cmp_Compare_int x0 x1 [] (fun v H' => Gives 0 v H' r Ho)) : Abs.Fn Try.prog cmp_Compare_int_i [] [x0, x1] r Ho := cmp_Compare_int_fnH (Hin := []) h

/- cmp.Compare[int64] -/
def cmp_Compare_int64 (x0 x1 : AV) (H : List Ob) (K : AV → List Ob → Prop) : Prop :=
  aCall Try.prog (.p (.func cmp_isNaN_int64_i [])) [x0] H fun v0 h1 =>
  aCall Try.prog (.p (.func cmp_isNaN_int64_i [])) [x1] h1 fun v2 h3 =>
  aGuard v0
  (aGuard v2
  (K (.p (.int .i64 0)) h3)
  (K (.p (.int .i64 (-1))) h3))
  (aGuard v2
  (K (.p (.int .i64 1)) h3)
  (aBin false false .lss x0 x1 fun v4 =>
  aGuard v4
  (K (.p (.int .i64 (-1))) h3)
  (aBin false false .gtr x0 x1 fun v5 =>
  aGuard v5
  (K (.p (.int .i64 1)) h3)
  (K (.p (.int .i64 0)) h3))))

def cmp_Compare_int64_ann : Nat → List Nat := fun _ => []

theorem cmp_Compare_int64_eq (x0 x1 : AV) (H : List Ob) (r : AV) (Ho : List Ob) : aBody Try.prog cmp_Compare_int64_ann Try.f64 H [x0, x1] r Ho = cmp_Compare_int64 x0 x1 H (fun v H' => Gives H.length v H' r Ho) := by kernel_rfl

theorem cmp_Compare_int64_fnH {x0 x1 : AV} {Hin : List Ob} {r : AV} {Ho : List Ob} (h : cmp_Compare_int64 x0 x1 Hin (fun v H' => Gives Hin.length v H' r Ho)) : Abs.Fn Try.prog cmp_Compare_int64_i Hin [x0, x1] r Ho :=
  fn_intro mixed cmp_Compare_int64_ann (fn := Try.f64) (by kernel_rfl) (by kernel_rfl) (by rw [cmp_Compare_int64_eq]; exact h)

theorem cmp_Compare_int64_fn {x0 x1 : AV} {r : AV} {Ho : List Ob} (h : cmp_Compare_int64 x0 x1 [] (fun v H' => Gives 0 v H' r Ho)) : Abs.Fn Try.prog cmp_Compare_int64_i [] [x0, x1] r Ho := cmp_Compare_int64_fnH (Hin := []) h

/- runnel/val.truth -/
def val_truth (x0 : AV) (H : List Ob) (K : AV → List Ob → Prop) : Prop :=
  aGuard x0
  (K (.p (.int .i64 1)) H)
  (K (.p (.int .i64 0)) H)

def val_truth_ann : Nat → List Nat := fun _ => []

theorem val_truth_eq (x0 : AV) (H : List Ob) (r : AV) (Ho : List Ob) : aBody Try.prog val_truth_ann Try.f65 H [x0] r Ho = val_truth x0 H (fun v H' => Gives H.length v H' r Ho) := by kernel_rfl

theorem val_truth_fnH {x0 : AV} {Hin : List Ob} {r : AV} {Ho : List Ob} (h : val_truth x0 Hin (fun v H' => Gives Hin.length v H' r Ho)) : Abs.Fn Try.prog val_truth_i Hin [x0] r Ho :=
  fn_intro mixed val_truth_ann (fn := Try.f65) (by kernel_rfl) (by kernel_rfl) (by rw [val_truth_eq]; exact h)

theorem val_truth_fn {x0 : AV} {r : AV} {Ho : List Ob} (h : val_truth x0 [] (fun v H' => Gives 0 v H' r Ho)) : Abs.Fn Try.prog val_truth_i [] [x0] r Ho := val_truth_fnH (Hin := []) h

/- strings.Compare -/
def strings_Compare (x0 x1 : AV) (H : List Ob) (K : AV → List Ob → Prop) : Prop :=
  aCall Try.prog (.p (.func internal_bytealg_CompareString_i [])) [x0, x1] H fun v0 h1 =>
  K v0 h1

def strings_Compare_ann : Nat → List Nat := fun _ => []

theorem strings_Compare_eq (x0 x1 : AV) (H : List Ob) (r : AV) (Ho : List Ob) : aBody Try.prog strings_Compare_ann Try.f66 H [x0, x1] r Ho = strings_Compare x0 x1 H (fun v H' => Gives H.length v H' r Ho) := by kernel_rfl

theorem strings_Compare_fnH {x0 x1 : AV} {Hin : List Ob} {r : AV} {Ho : List Ob} (h : strings_Compare x0 x1 Hin (fun v H' => Gives Hin.length v H' r Ho)) : Abs.Fn Try.prog strings_Compare_i Hin [x0, x1] r Ho :=
  fn_intro mixed strings_Compare_ann (fn := Try.f66) (by kernel_rfl) (by kernel_rfl) (by rw [strings_Compare_eq]; exact h)

theorem strings_Compare_fn {x0 x1 : AV} {r : AV} {Ho : List Ob} (h : strings_Compare x0 x1 [] (fun v H' => Gives 0 v H' r Ho)) : Abs.Fn Try.prog strings_Compare_i [] [x0, x1] r Ho := strings_Compare_fnH (Hin := []) h

/- runnel/val.rows[runnel/val.Value] -/
def val_rows_val_Value (x0 x1 x2 : AV) (H : List Ob) (K : AV → List Ob → Prop) : Prop :=
  aCall Try.prog (.p (.func slices_CompareFunc_val_Value_val_Value_val_Value_val_Value_i [])) [x0, x1, x2] H fun v0 h1 =>
  K v0 h1

def val_rows_val_Value_ann : Nat → List Nat := fun _ => []

theorem val_rows_val_Value_eq (x0 x1 x2 : AV) (H : List Ob) (r : AV) (Ho : List Ob) : aBody Try.prog val_rows_val_Value_ann Try.f67 H [x0, x1, x2] r Ho = val_rows_val_Value x0 x1 x2 H (fun v H' => Gives H.length v H' r Ho) := by kernel_rfl

theorem val_rows_val_Value_fnH {x0 x1 x2 : AV} {Hin : List Ob} {r : AV} {Ho : List Ob} (h : val_rows_val_Value x0 x1 x2 Hin (fun v H' => Gives Hin.length v H' r Ho)) : Abs.Fn Try.prog val_rows_val_Value_i Hin [x0, x1, x2] r Ho :=
  fn_intro mixed val_rows_val_Value_ann (fn := Try.f67) (by kernel_rfl) (by kernel_rfl) (by rw [val_rows_val_Value_eq]; exact h)

theorem val_rows_val_Value_fn {x0 x1 x2 : AV} {r : AV} {Ho : List Ob} (h : val_rows_val_Value x0 x1 x2 [] (fun v H' => Gives 0 v H' r Ho)) : Abs.Fn Try.prog val_rows_val_Value_i [] [x0, x1, x2] r Ho := val_rows_val_Value_fnH (Hin := []) h

/- runnel/runnelref6.less -/
def runnelref6_less (x0 : AV) (H : List Ob) (K : AV → List Ob → Prop) : Prop :=
  aGuard x0
  (K (.p (.int .i64 (-1))) H)
  (K (.p (.int .i64 1)) H)

def runnelref6_less_ann : Nat → List Nat := fun _ => []

theorem runnelref6_less_eq (x0 : AV) (H : List Ob) (r : AV) (Ho : List Ob) : aBody Try.prog runnelref6_less_ann Try.f68 H [x0] r Ho = runnelref6_less x0 H (fun v H' => Gives H.length v H' r Ho) := by kernel_rfl

theorem runnelref6_less_fnH {x0 : AV} {Hin : List Ob} {r : AV} {Ho : List Ob} (h : runnelref6_less x0 Hin (fun v H' => Gives Hin.length v H' r Ho)) : Abs.Fn Try.prog runnelref6_less_i Hin [x0] r Ho :=
  fn_intro mixed runnelref6_less_ann (fn := Try.f68) (by kernel_rfl) (by kernel_rfl) (by rw [runnelref6_less_eq]; exact h)

theorem runnelref6_less_fn {x0 : AV} {r : AV} {Ho : List Ob} (h : runnelref6_less x0 [] (fun v H' => Gives 0 v H' r Ho)) : Abs.Fn Try.prog runnelref6_less_i [] [x0] r Ho := runnelref6_less_fnH (Hin := []) h

/- cmp.isNaN[int] -/
def cmp_isNaN_int (x0 : AV) (H : List Ob) (K : AV → List Ob → Prop) : Prop :=
  aBin false false .neq x0 x0 fun v0 =>
  K v0 H

def cmp_isNaN_int_ann : Nat → List Nat := fun _ => []

theorem cmp_isNaN_int_eq (x0 : AV) (H : List Ob) (r : AV) (Ho : List Ob) : aBody Try.prog cmp_isNaN_int_ann Try.f85 H [x0] r Ho = cmp_isNaN_int x0 H (fun v H' => Gives H.length v H' r Ho) := by kernel_rfl

theorem cmp_isNaN_int_fnH {x0 : AV} {Hin : List Ob} {r : AV} {Ho : List Ob} (h : cmp_isNaN_int x0 Hin (fun v H' => Gives Hin.length v H' r Ho)) : Abs.Fn Try.prog cmp_isNaN_int_i Hin [x0] r Ho :=
  fn_intro mixed cmp_isNaN_int_ann (fn := Try.f85) (by kernel_rfl) (by kernel_rfl) (by rw [cmp_isNaN_int_eq]; exact h)

theorem cmp_isNaN_int_fn {x0 : AV} {r : AV} {Ho : List Ob} (h : cmp_isNaN_int x0 [] (fun v H' => Gives 0 v H' r Ho)) : Abs.Fn Try.prog cmp_isNaN_int_i [] [x0] r Ho := cmp_isNaN_int_fnH (Hin := []) h

/- cmp.isNaN[int64] -/
def cmp_isNaN_int64 (x0 : AV) (H : List Ob) (K : AV → List Ob → Prop) : Prop :=
  aBin false false .neq x0 x0 fun v0 =>
  K v0 H

def cmp_isNaN_int64_ann : Nat → List Nat := fun _ => []

theorem cmp_isNaN_int64_eq (x0 : AV) (H : List Ob) (r : AV) (Ho : List Ob) : aBody Try.prog cmp_isNaN_int64_ann Try.f86 H [x0] r Ho = cmp_isNaN_int64 x0 H (fun v H' => Gives H.length v H' r Ho) := by kernel_rfl

theorem cmp_isNaN_int64_fnH {x0 : AV} {Hin : List Ob} {r : AV} {Ho : List Ob} (h : cmp_isNaN_int64 x0 Hin (fun v H' => Gives Hin.length v H' r Ho)) : Abs.Fn Try.prog cmp_isNaN_int64_i Hin [x0] r Ho :=
  fn_intro mixed cmp_isNaN_int64_ann (fn := Try.f86) (by kernel_rfl) (by kernel_rfl) (by rw [cmp_isNaN_int64_eq]; exact h)

theorem cmp_isNaN_int64_fn {x0 : AV} {r : AV} {Ho : List Ob} (h : cmp_isNaN_int64 x0 [] (fun v H' => Gives 0 v H' r Ho)) : Abs.Fn Try.prog cmp_isNaN_int64_i [] [x0] r Ho := cmp_isNaN_int64_fnH (Hin := []) h

/- slices.CompareFunc[[]runnel/val.Value,[]runnel/val.Value,runnel/val.Value,runnel/val.Value] -/
def slices_CompareFunc_val_Value_val_Value_val_Value_val_Value_L1 (q1s0 q1s1 q1s2 q1s11 q1s12 y0 : AV) (H : List Ob) (B1 : List AV → List Ob → Prop) (K : AV → List Ob → Prop) : Prop :=
  aBin false false .lss y0 q1s12 fun v1 =>
  aGuard v1
  (aIndexAddr 5 q1s11 y0 fun v2 =>
  aLoad true 5 v2 H fun v3 =>
  aAlloc [(.p (.int .i64 0)), (.p (.int .i64 0)), (.p (.bool false)), (.p (.str [])), (.full [])] H fun v4 h5 =>
  aStore 5 v4 v3 h5 fun _ h7 =>
  aLen false false q1s1 fun v8 =>
  aBin false false .geq y0 v8 fun v9 =>
  aGuard v9
  (K (.p (.int .i64 1)) h7)
  (aIndexAddr 5 q1s1 y0 fun v10 =>
  aLoad true 5 v10 h7 fun v11 =>
  aAlloc [(.p (.int .i64 0)), (.p (.int .i64 0)), (.p (.bool false)), (.p (.str [])), (.full [])] h7 fun v12 h13 =>
  aStore 5 v12 v11 h13 fun _ h15 =>
  aLoad true 5 v4 h15 fun v16 =>
  aLoad true 5 v12 h15 fun v17 =>
  aCall Try.prog q1s2 [v16, v17] h15 fun v18 h19 =>
  aBin false false .neq v18 (.p (.int .i64 0)) fun v20 =>
  aGuard v20
  (K v18 h19)
  (aBin false false .add y0 (.p (.int .i64 1)) fun v21 =>
  B1 [v21] h19)))
  (aLen false false q1s0 fun v22 =>
  aLen false false q1s1 fun v23 =>
  aBin false false .lss v22 v23 fun v24 =>
  aGuard v24
  (K (.p (.int .i64 (-1))) H)
  (K (.p (.int .i64 0)) H))

def slices_CompareFunc_val_Value_val_Value_val_Value_val_Value (x0 x1 x2 : AV) (H : List Ob) (K : AV → List Ob → Prop) : Prop :=
  aLen false false x0 fun v0 =>
  aLoopN 1 [(.p (.int .i64 0))] H fun xs H B1 => slices_CompareFunc_val_Value_val_Value_val_Value_val_Value_L1 x0 x1 x2 x0 v0 (xs.getD 0 .top) H B1 K

def slices_CompareFunc_val_Value_val_Value_val_Value_val_Value_ann : Nat → List Nat := fun k => match k with | 2 => [13] | _ => []

theorem slices_CompareFunc_val_Value_val_Value_val_Value_val_Value_eq (x0 x1 x2 : AV) (H : List Ob) (r : AV) (Ho : List Ob) : aBody Try.prog slices_CompareFunc_val_Value_val_Value_val_Value_val_Value_ann Try.f88 H [x0, x1, x2] r Ho = slices_CompareFunc_val_Value_val_Value_val_Value_val_Value x0 x1 x2 H (fun v H' => Gives H.length v H' r Ho) := by kernel_rfl

theorem slices_CompareFunc_val_Value_val_Value_val_Value_val_Value_fnH {x0 x1 x2 : AV} {Hin : List Ob} {r : AV} {Ho : List Ob} (h : slices_CompareFunc_val_Value_val_Value_val_Value_val_Value x0 x1 x2 Hin (fun v H' => Gives Hin.length v H' r Ho)) : Abs.Fn Try.prog slices_CompareFunc_val_Value_val_Value_val_Value_val_Value_i Hin [x0, x1, x2] r Ho :=
  fn_intro mixed slices_CompareFunc_val_Value_val_Value_val_Value_val_Value_ann (fn := Try.f88) (by kernel_rfl) (by kernel_rfl) (by rw [slices_CompareFunc_val_Value_val_Value_val_Value_val_Value_eq]; exact h)

theorem slices_CompareFunc_val_Value_val_Value_val_Value_val_Value_fn {x0 x1 x2 : AV} {r : AV} {Ho : List Ob} (h : slices_CompareFunc_val_Value_val_Value_val_Value_val_Value x0 x1 x2 [] (fun v H' => Gives 0 v H' r Ho)) : Abs.Fn Try.prog slices_CompareFunc_val_Value_val_Value_val_Value_val_Value_i [] [x0, x1, x2] r Ho := slices_CompareFunc_val_Value_val_Value_val_Value_val_Value_fnH (Hin := []) h

/- runnel/val.Check -/
def val_Check (x0 : AV) (H : List Ob) (K : AV → List Ob → Prop) : Prop :=
  aBox x0 H fun v0 h1 =>
  aLoad true 5 v0 h1 fun v2 =>
  aCall Try.prog (.p (.func val_check_i [])) [v2, (.p (.int .i64 0))] h1 fun v3 h4 =>
  K v3 h4

def val_Check_ann : Nat → List Nat := fun _ => []

theorem val_Check_eq (x0 : AV) (H : List Ob) (r : AV) (Ho : List Ob) : aBody Try.prog val_Check_ann Try.f99 H [x0] r Ho = val_Check x0 H (fun v H' => Gives H.length v H' r Ho) := by kernel_rfl

theorem val_Check_fnH {x0 : AV} {Hin : List Ob} {r : AV} {Ho : List Ob} (h : val_Check x0 Hin (fun v H' => Gives Hin.length v H' r Ho)) : Abs.Fn Try.prog val_Check_i Hin [x0] r Ho :=
  fn_intro mixed val_Check_ann (fn := Try.f99) (by kernel_rfl) (by kernel_rfl) (by rw [val_Check_eq]; exact h)

theorem val_Check_fn {x0 : AV} {r : AV} {Ho : List Ob} (h : val_Check x0 [] (fun v H' => Gives 0 v H' r Ho)) : Abs.Fn Try.prog val_Check_i [] [x0] r Ho := val_Check_fnH (Hin := []) h

/- runnel/val.check -/
def val_check_L1 (q1s1 q1s2 y0 y1 : AV) (H : List Ob) (B1 : List AV → List Ob → Prop) (K : AV → List Ob → Prop) : Prop :=
  aFieldAddr 4 q1s2 fun v25 =>
  aLoad false 1 v25 H fun v26 =>
  aLen false false v26 fun v27 =>
  aBin false false .lss y1 v27 fun v28 =>
  aMerge true v28 (fun Q29 =>
  aBin false false .eql y0 (.p (.int .i64 0)) fun v30 =>
  (H = H ∧ Q29 v30)) fun v31 =>
  aGuard v31
  (aFieldAddr 4 q1s2 fun v32 =>
  aLoad false 1 v32 H fun v33 =>
  aIndexAddr 5 v33 y1 fun v34 =>
  aLoad true 5 v34 H fun v35 =>
  aBin false false .add q1s1 (.p (.int .i64 1)) fun v36 =>
  aCall Try.prog (.p (.func val_check_i [])) [v35, v36] H fun v37 h38 =>
  aBin false false .add y1 (.p (.int .i64 1)) fun v39 =>
  B1 [v37, v39] h38)
  (K y0 H)

def val_check (x0 x1 : AV) (H : List Ob) (K : AV → List Ob → Prop) : Prop :=
  aBox x0 H fun v0 h1 =>
  aFieldAddr 0 v0 fun v2 =>
  aLoad false 1 v2 h1 fun v3 =>
  aBin false false .lss v3 (.p (.int .i64 1)) fun v4 =>
  aMerge false v4 (fun Q5 =>
  aFieldAddr 0 v0 fun v6 =>
  aLoad false 1 v6 h1 fun v7 =>
  aBin false false .gtr v7 (.p (.int .i64 4)) fun v8 =>
  (h1 = h1 ∧ Q5 v8)) fun v9 =>
  aGuard v9
  (K (.p (.int .i64 5)) h1)
  (aLoad true 5 v0 h1 fun v10 =>
  aCall Try.prog (.p (.func val_spare_i [])) [v10] h1 fun v11 h12 =>
  aGuard v11
  (K (.p (.int .i64 2)) h12)
  (aFieldAddr 3 v0 fun v13 =>
  aLoad false 1 v13 h12 fun v14 =>
  aLen false true v14 fun v15 =>
  aBin false false .gtr v15 (.p (.int .i64 255)) fun v16 =>
  aGuard v16
  (K (.p (.int .i64 4)) h12)
  (aFieldAddr 0 v0 fun v17 =>
  aLoad false 1 v17 h12 fun v18 =>
  aBin false false .neq v18 (.p (.int .i64 4)) fun v19 =>
  aGuard v19
  (K (.p (.int .i64 0)) h12)
  (aFieldAddr 4 v0 fun v20 =>
  aLoad false 1 v20 h12 fun v21 =>
  aLen false false v21 fun v22 =>
  aCall Try.prog (.p (.func typ_Row_i [])) [v22, x1] h12 fun v23 h24 =>
  aLoopN 2 [v23, (.p (.int .i64 0))] h24 fun xs H B1 => val_check_L1 x1 v0 (xs.getD 0 .top) (xs.getD 1 .top) H B1 K))))

def val_check_ann : Nat → List Nat := fun k => match k with | 11 => [5, 6] | _ => []

theorem val_check_eq (x0 x1 : AV) (H : List Ob) (r : AV) (Ho : List Ob) : aBody Try.prog val_check_ann Try.f123 H [x0, x1] r Ho = val_check x0 x1 H (fun v H' => Gives H.length v H' r Ho) := by kernel_rfl

theorem val_check_fnH {x0 x1 : AV} {Hin : List Ob} {r : AV} {Ho : List Ob} (h : val_check x0 x1 Hin (fun v H' => Gives Hin.length v H' r Ho)) : Abs.Fn Try.prog val_check_i Hin [x0, x1] r Ho :=
  fn_intro mixed val_check_ann (fn := Try.f123) (by kernel_rfl) (by kernel_rfl) (by rw [val_check_eq]; exact h)

theorem val_check_fn {x0 x1 : AV} {r : AV} {Ho : List Ob} (h : val_check x0 x1 [] (fun v H' => Gives 0 v H' r Ho)) : Abs.Fn Try.prog val_check_i [] [x0, x1] r Ho := val_check_fnH (Hin := []) h

/- runnel/val.TypeOf -/
def val_TypeOf (x0 : AV) (H : List Ob) (K : AV → List Ob → Prop) : Prop :=
  aBox x0 H fun v0 h1 =>
  aAlloc [(.p (.int .i64 0)), (.full [])] h1 fun v2 h3 =>
  aLoad true 5 v0 h3 fun v4 =>
  aCall Try.prog (.p (.func val_Check_i [])) [v4] h3 fun v5 h6 =>
  aBin false false .neq v5 (.p (.int .i64 0)) fun v7 =>
  aGuard v7
  (aBuild [(.p (.int .i64 0)), (.full [])] [] fun v8 =>
  aStore 2 v2 v8 h6 fun _ h10 =>
  aLoad true 2 v2 h10 fun v11 =>
  K v11 h10)
  (aLoad true 5 v0 h6 fun v12 =>
  aCall Try.prog (.p (.func val_kind_i [])) [v12] h6 fun v13 h14 =>
  aStore 2 v2 v13 h14 fun _ h16 =>
  aLoad true 2 v2 h16 fun v17 =>
  K v17 h16)

def val_TypeOf_ann : Nat → List Nat := fun _ => []

theorem val_TypeOf_eq (x0 : AV) (H : List Ob) (r : AV) (Ho : List Ob) : aBody Try.prog val_TypeOf_ann Try.f124 H [x0] r Ho = val_TypeOf x0 H (fun v H' => Gives H.length v H' r Ho) := by kernel_rfl

theorem val_TypeOf_fnH {x0 : AV} {Hin : List Ob} {r : AV} {Ho : List Ob} (h : val_TypeOf x0 Hin (fun v H' => Gives Hin.length v H' r Ho)) : Abs.Fn Try.prog val_TypeOf_i Hin [x0] r Ho :=
  fn_intro mixed val_TypeOf_ann (fn := Try.f124) (by kernel_rfl) (by kernel_rfl) (by rw [val_TypeOf_eq]; exact h)

theorem val_TypeOf_fn {x0 : AV} {r : AV} {Ho : List Ob} (h : val_TypeOf x0 [] (fun v H' => Gives 0 v H' r Ho)) : Abs.Fn Try.prog val_TypeOf_i [] [x0] r Ho := val_TypeOf_fnH (Hin := []) h

/- runnel/val.spare -/
def val_spare (x0 : AV) (H : List Ob) (K : AV → List Ob → Prop) : Prop :=
  aBox x0 H fun v0 h1 =>
  aFieldAddr 0 v0 fun v2 =>
  aLoad false 1 v2 h1 fun v3 =>
  aBin false false .neq v3 (.p (.int .i64 1)) fun v4 =>
  aMerge true v4 (fun Q5 =>
  aFieldAddr 1 v0 fun v6 =>
  aLoad false 1 v6 h1 fun v7 =>
  aBin false false .neq v7 (.p (.int .i64 0)) fun v8 =>
  (h1 = h1 ∧ Q5 v8)) fun v9 =>
  aMerge false v9 (fun Q10 =>
  aFieldAddr 0 v0 fun v11 =>
  aLoad false 1 v11 h1 fun v12 =>
  aBin false false .neq v12 (.p (.int .i64 2)) fun v13 =>
  aMerge true v13 (fun Q14 =>
  aFieldAddr 2 v0 fun v15 =>
  aLoad false 1 v15 h1 fun v16 =>
  (h1 = h1 ∧ Q14 v16)) fun v17 =>
  (h1 = h1 ∧ Q10 v17)) fun v18 =>
  aMerge false v18 (fun Q19 =>
  aFieldAddr 0 v0 fun v20 =>
  aLoad false 1 v20 h1 fun v21 =>
  aBin false false .neq v21 (.p (.int .i64 3)) fun v22 =>
  aMerge true v22 (fun Q23 =>
  aFieldAddr 3 v0 fun v24 =>
  aLoad false 1 v24 h1 fun v25 =>
  aBin false false .neq v25 (.p (.str [])) fun v26 =>
  (h1 = h1 ∧ Q23 v26)) fun v27 =>
  (h1 = h1 ∧ Q19 v27)) fun v28 =>
  aMerge false v28 (fun Q29 =>
  aFieldAddr 0 v0 fun v30 =>
  aLoad false 1 v30 h1 fun v31 =>
  aBin false false .neq v31 (.p (.int .i64 4)) fun v32 =>
  aMerge true v32 (fun Q33 =>
  aFieldAddr 4 v0 fun v34 =>
  aLoad false 1 v34 h1 fun v35 =>
  aLenS false v35 fun v36 =>
  aBin false false .gtr v36 (.p (.int .i64 0)) fun v37 =>
  (h1 = h1 ∧ Q33 v37)) fun v38 =>
  (h1 = h1 ∧ Q29 v38)) fun v39 =>
  K v39 h1

def val_spare_ann : Nat → List Nat := fun _ => []

theorem val_spare_eq (x0 : AV) (H : List Ob) (r : AV) (Ho : List Ob) : aBody Try.prog val_spare_ann Try.f130 H [x0] r Ho = val_spare x0 H (fun v H' => Gives H.length v H' r Ho) := by kernel_rfl

theorem val_spare_fnH {x0 : AV} {Hin : List Ob} {r : AV} {Ho : List Ob} (h : val_spare x0 Hin (fun v H' => Gives Hin.length v H' r Ho)) : Abs.Fn Try.prog val_spare_i Hin [x0] r Ho :=
  fn_intro mixed val_spare_ann (fn := Try.f130) (by kernel_rfl) (by kernel_rfl) (by rw [val_spare_eq]; exact h)

theorem val_spare_fn {x0 : AV} {r : AV} {Ho : List Ob} (h : val_spare x0 [] (fun v H' => Gives 0 v H' r Ho)) : Abs.Fn Try.prog val_spare_i [] [x0] r Ho := val_spare_fnH (Hin := []) h

/- runnel/val.kind -/
def val_kind_L1 (q1s2 q1s3 q1s10 q1s11 y0 : AV) (H : List Ob) (B1 : List AV → List Ob → Prop) (K : AV → List Ob → Prop) : Prop :=
  aBin false false .lss y0 q1s11 fun v14 =>
  aGuard v14
  (aIndexAddr 5 q1s10 y0 fun v15 =>
  aLoad true 5 v15 H fun v16 =>
  aAlloc [(.p (.int .i64 0)), (.p (.int .i64 0)), (.p (.bool false)), (.p (.str [])), (.full [])] H fun v17 h18 =>
  aStore 5 v17 v16 h18 fun _ h20 =>
  aFieldAddr 1 q1s3 fun v21 =>
  aLoad false 1 v21 h20 fun v22 =>
  aLoad true 5 v17 h20 fun v23 =>
  aCallT Try.prog (.p (.func val_kind_i [])) [v23] fun v24 =>
  aBuildSlice 2 [v24] fun v25 =>
  aCalm [v22, v25] <|
  aAppend false 2 32 v22 v25 h20 fun v26 h27 =>
  aFieldAddr 1 q1s3 fun v28 =>
  aStore 1 v28 v26 h27 fun _ h30 =>
  aBin false false .add y0 (.p (.int .i64 1)) fun v31 =>
  B1 [v31] h30)
  (aLoad true 2 q1s3 H fun v32 =>
  aStore 2 q1s2 v32 H fun _ h34 =>
  aLoad true 2 q1s2 h34 fun v35 =>
  K v35 h34)

def val_kind (x0 : AV) (H : List Ob) (K : AV → List Ob → Prop) : Prop :=
  aBox x0 H fun v0 h1 =>
  aAlloc [(.p (.int .i64 0)), (.full [])] h1 fun v2 h3 =>
  aFieldAddr 0 v0 fun v4 =>
  aLoad false 1 v4 h3 fun v5 =>
  aBuild [(.p (.int .i64 0)), (.full [])] [(0, 1, v5)] fun v6 =>
  aAlloc [(.p (.int .i64 0)), (.full [])] h3 fun v7 h8 =>
  aStore 2 v7 v6 h8 fun _ h10 =>
  aFieldAddr 4 v0 fun v11 =>
  aLoad false 1 v11 h10 fun v12 =>
  aLen false false v12 fun v13 =>
  aLoopN 1 [(.p (.int .i64 0))] h10 fun xs H B1 => val_kind_L1 v2 v7 v12 v13 (xs.getD 0 .top) H B1 K

def val_kind_ann : Nat → List Nat := fun k => match k with | 3 => [12] | _ => []

theorem val_kind_eq (x0 : AV) (H : List Ob) (r : AV) (Ho : List Ob) : aBody Try.prog val_kind_ann Try.f131 H [x0] r Ho = val_kind x0 H (fun v H' => Gives H.length v H' r Ho) := by kernel_rfl

theorem val_kind_fnH {x0 : AV} {Hin : List Ob} {r : AV} {Ho : List Ob} (h : val_kind x0 Hin (fun v H' => Gives Hin.length v H' r Ho)) : Abs.Fn Try.prog val_kind_i Hin [x0] r Ho :=
  fn_intro mixed val_kind_ann (fn := Try.f131) (by kernel_rfl) (by kernel_rfl) (by rw [val_kind_eq]; exact h)

theorem val_kind_fn {x0 : AV} {r : AV} {Ho : List Ob} (h : val_kind x0 [] (fun v H' => Gives 0 v H' r Ho)) : Abs.Fn Try.prog val_kind_i [] [x0] r Ho := val_kind_fnH (Hin := []) h

end Go.Proofs.Ytklnalofcjagnaa
end

section
/- Made by program (Gen.lean): functions of the dump, over trees. -/
set_option maxRecDepth 4000
set_option linter.unusedVariables false
namespace Go.Proofs.Ytklnalofcjagnaa
open Go Go.Abs

/- runnel/wire.Put -/
def wire_Put_L1 (q1s52 q1s53 y0 y1 : AV) (H : List Ob) (B1 : List AV → List Ob → Prop) (K : AV → List Ob → Prop) : Prop :=
  aBin false false .lss y1 q1s53 fun v46 =>
  aGuard v46
  (aIndexAddr 5 q1s52 y1 fun v47 =>
  aLoad true 5 v47 H fun v48 =>
  aAlloc [(.p (.int .i64 0)), (.p (.int .i64 0)), (.p (.bool false)), (.p (.str [])), (.full [])] H fun v49 h50 =>
  aStore 5 v49 v48 h50 fun _ h52 =>
  aLoad true 5 v49 h52 fun v53 =>
  aCall Try.prog (.p (.func wire_Put_i [])) [y0, v53] h52 fun v54 h55 =>
  aBin false false .add y1 (.p (.int .i64 1)) fun v56 =>
  B1 [v54, v56] h55)
  (K y0 H)

def wire_Put (x0 x1 : AV) (H : List Ob) (K : AV → List Ob → Prop) : Prop :=
  aBox x1 H fun v0 h1 =>
  aFieldAddr 0 v0 fun v2 =>
  aLoad false 1 v2 h1 fun v3 =>
  aConvInt .u8 v3 fun v4 =>
  aBuildSlice 1 [v4] fun v5 =>
  aAppend false 1 1 x0 v5 h1 fun v6 h7 =>
  aFieldAddr 0 v0 fun v8 =>
  aLoad false 1 v8 h7 fun v9 =>
  aBin false false .eql v9 (.p (.int .i64 1)) fun v10 =>
  aGuard v10
  (aFieldAddr 1 v0 fun v11 =>
  aLoad false 1 v11 h7 fun v12 =>
  aConvInt .u64 v12 fun v13 =>
  aBin false false .shl v13 (.p (.int .u64 1)) fun v14 =>
  aFieldAddr 1 v0 fun v15 =>
  aLoad false 1 v15 h7 fun v16 =>
  aBin false false .shr v16 (.p (.int .u64 63)) fun v17 =>
  aConvInt .u64 v17 fun v18 =>
  aBin false false .xor v14 v18 fun v19 =>
  aCall Try.prog (.p (.func wire_PutNum_i [])) [v6, v19] h7 fun v20 h21 =>
  K v20 h21)
  (aBin false false .eql v9 (.p (.int .i64 2)) fun v22 =>
  aGuard v22
  (aFieldAddr 2 v0 fun v23 =>
  aLoad false 1 v23 h7 fun v24 =>
  aGuard v24
  (aBuildSlice 1 [(.p (.int .u8 1))] fun v25 =>
  aAppend false 1 1 v6 v25 h7 fun v26 h27 =>
  K v26 h27)
  (aBuildSlice 1 [(.p (.int .u8 0))] fun v28 =>
  aAppend false 1 1 v6 v28 h7 fun v29 h30 =>
  K v29 h30))
  (aBin false false .eql v9 (.p (.int .i64 3)) fun v31 =>
  aGuard v31
  (aFieldAddr 3 v0 fun v32 =>
  aLoad false 1 v32 h7 fun v33 =>
  aCall Try.prog (.p (.func wire_PutText_i [])) [v6, v33] h7 fun v34 h35 =>
  K v34 h35)
  (aFieldAddr 4 v0 fun v36 =>
  aLoad false 1 v36 h7 fun v37 =>
  aLen false false v37 fun v38 =>
  aConvInt .u8 v38 fun v39 =>
  aBuildSlice 1 [v39] fun v40 =>
  aAppend false 1 1 v6 v40 h7 fun v41 h42 =>
  aFieldAddr 4 v0 fun v43 =>
  aLoad false 1 v43 h42 fun v44 =>
  aLen false false v44 fun v45 =>
  aLoopN 2 [v41, (.p (.int .i64 0))] h42 fun xs H B1 => wire_Put_L1 v44 v45 (xs.getD 0 .top) (xs.getD 1 .top) H B1 K)))

def wire_Put_ann : Nat → List Nat := fun k => match k with | 13 => [0, 54] | _ => []

theorem wire_Put_eq (x0 x1 : AV) (H : List Ob) (r : AV) (Ho : List Ob) : aBody Try.prog wire_Put_ann Try.f11 H [x0, x1] r Ho = wire_Put x0 x1 H (fun v H' => Gives H.length v H' r Ho) := by kernel_rfl

theorem wire_Put_fnH {x0 x1 : AV} {Hin : List Ob} {r : AV} {Ho : List Ob} (h : wire_Put x0 x1 Hin (fun v H' => Gives Hin.length v H' r Ho)) : Abs.Fn Try.prog wire_Put_i Hin [x0, x1] r Ho :=
  fn_intro mixed wire_Put_ann (fn := Try.f11) (by kernel_rfl) (by kernel_rfl) (by rw [wire_Put_eq]; exact h)

theorem wire_Put_fn {x0 x1 : AV} {r : AV} {Ho : List Ob} (h : wire_Put x0 x1 [] (fun v H' => Gives 0 v H' r Ho)) : Abs.Fn Try.prog wire_Put_i [] [x0, x1] r Ho := wire_Put_fnH (Hin := []) h

/- runnel/runnelref6.Put -/
def runnelref6_Put_L1 (q1s3 y0 y1 : AV) (H : List Ob) (B1 : List AV → List Ob → Prop) (K : AV → List Ob → Prop) : Prop :=
  aFieldAddr 4 q1s3 fun v44 =>
  aLoad false 1 v44 H fun v45 =>
  aLen false false v45 fun v46 =>
  aBin false false .lss y1 v46 fun v47 =>
  aGuard v47
  (aFieldAddr 4 q1s3 fun v48 =>
  aLoad false 1 v48 H fun v49 =>
  aIndexAddr 5 v49 y1 fun v50 =>
  aLoad true 5 v50 H fun v51 =>
  aCall Try.prog (.p (.func runnelref6_Put_i [])) [y0, v51] H fun v52 h53 =>
  aBin false false .add y1 (.p (.int .i64 1)) fun v54 =>
  B1 [v52, v54] h53)
  (K y0 H)

def runnelref6_Put (x0 x1 : AV) (H : List Ob) (K : AV → List Ob → Prop) : Prop :=
  aBox x1 H fun v0 h1 =>
  aFieldAddr 0 v0 fun v2 =>
  aLoad false 1 v2 h1 fun v3 =>
  aConvInt .u8 v3 fun v4 =>
  aBuildSlice 1 [v4] fun v5 =>
  aAppend false 1 1 x0 v5 h1 fun v6 h7 =>
  aFieldAddr 0 v0 fun v8 =>
  aLoad false 1 v8 h7 fun v9 =>
  aBin false false .eql v9 (.p (.int .i64 1)) fun v10 =>
  aGuard v10
  (aFieldAddr 1 v0 fun v11 =>
  aLoad false 1 v11 h7 fun v12 =>
  aConvInt .u64 v12 fun v13 =>
  aBin false false .shl v13 (.p (.int .u64 1)) fun v14 =>
  aFieldAddr 1 v0 fun v15 =>
  aLoad false 1 v15 h7 fun v16 =>
  aBin false false .lss v16 (.p (.int .i64 0)) fun v17 =>
  aGuard v17
  (aUn .xor v14 fun v18 =>
  aCall Try.prog (.p (.func runnelref6_PutNum_i [])) [v6, v18] h7 fun v19 h20 =>
  K v19 h20)
  (aCall Try.prog (.p (.func runnelref6_PutNum_i [])) [v6, v14] h7 fun v21 h22 =>
  K v21 h22))
  (aBin false false .eql v9 (.p (.int .i64 2)) fun v23 =>
  aGuard v23
  (aFieldAddr 2 v0 fun v24 =>
  aLoad false 1 v24 h7 fun v25 =>
  aGuard v25
  (aBuildSlice 1 [(.p (.int .u8 1))] fun v26 =>
  aAppend false 1 1 v6 v26 h7 fun v27 h28 =>
  K v27 h28)
  (aBuildSlice 1 [(.p (.int .u8 0))] fun v29 =>
  aAppend false 1 1 v6 v29 h7 fun v30 h31 =>
  K v30 h31))
  (aBin false false .eql v9 (.p (.int .i64 3)) fun v32 =>
  aGuard v32
  (aFieldAddr 3 v0 fun v33 =>
  aLoad false 1 v33 h7 fun v34 =>
  aCall Try.prog (.p (.func runnelref6_PutText_i [])) [v6, v34] h7 fun v35 h36 =>
  K v35 h36)
  (aFieldAddr 4 v0 fun v37 =>
  aLoad false 1 v37 h7 fun v38 =>
  aLen false false v38 fun v39 =>
  aConvInt .u8 v39 fun v40 =>
  aBuildSlice 1 [v40] fun v41 =>
  aAppend false 1 1 v6 v41 h7 fun v42 h43 =>
  aLoopN 2 [v42, (.p (.int .i64 0))] h43 fun xs H B1 => runnelref6_Put_L1 v0 (xs.getD 0 .top) (xs.getD 1 .top) H B1 K)))

def runnelref6_Put_ann : Nat → List Nat := fun k => match k with | 16 => [0, 6] | _ => []

theorem runnelref6_Put_eq (x0 x1 : AV) (H : List Ob) (r : AV) (Ho : List Ob) : aBody Try.prog runnelref6_Put_ann Try.f12 H [x0, x1] r Ho = runnelref6_Put x0 x1 H (fun v H' => Gives H.length v H' r Ho) := by kernel_rfl

theorem runnelref6_Put_fnH {x0 x1 : AV} {Hin : List Ob} {r : AV} {Ho : List Ob} (h : runnelref6_Put x0 x1 Hin (fun v H' => Gives Hin.length v H' r Ho)) : Abs.Fn Try.prog runnelref6_Put_i Hin [x0, x1] r Ho :=
  fn_intro mixed runnelref6_Put_ann (fn := Try.f12) (by kernel_rfl) (by kernel_rfl) (by rw [runnelref6_Put_eq]; exact h)

theorem runnelref6_Put_fn {x0 x1 : AV} {r : AV} {Ho : List Ob} (h : runnelref6_Put x0 x1 [] (fun v H' => Gives 0 v H' r Ho)) : Abs.Fn Try.prog runnelref6_Put_i [] [x0, x1] r Ho := runnelref6_Put_fnH (Hin := []) h

/- runnel/wire.Get -/
def wire_Get (x0 : AV) (H : List Ob) (K : AV → List Ob → Prop) : Prop :=
  aAlloc [(.p (.int .i64 0)), (.p (.int .i64 0)), (.p (.bool false)), (.p (.str [])), (.full [])] H fun v0 h1 =>
  aBuild [(.full []), (.p (.int .i64 0)), (.p (.int .i64 0))] [(0, 1, x0)] fun v2 =>
  aBox v2 h1 fun v3 h4 =>
  aCall Try.prog (.p (.func wire_Reader_value_i [])) [v3, (.p (.int .i64 0))] h4 fun v5 h6 =>
  aAlloc [(.p (.int .i64 0)), (.p (.int .i64 0)), (.p (.bool false)), (.p (.str [])), (.full [])] h6 fun v7 h8 =>
  aStore 5 v7 v5 h8 fun _ h10 =>
  aNilCheck v3 fun v11 =>
  aFieldAddr 2 v11 fun v12 =>
  aLoad false 1 v12 h10 fun v13 =>
  aBin false false .neq v13 (.p (.int .i64 0)) fun v14 =>
  aGuard v14
  (aNilCheck v3 fun v15 =>
  aFieldAddr 2 v15 fun v16 =>
  (aBuild [(.p (.int .i64 0)), (.p (.int .i64 0)), (.p (.bool false)), (.p (.str [])), (.full [])] [] fun v17 =>
  (aLoad false 1 v16 h10 fun v18 =>
  aStore 5 v0 v17 h10 fun _ h20 =>
  aLoad true 5 v0 h20 fun v21 =>
  K (.tup [v21, (.p (.int .i64 0)), v18]) h20) ∧
  (aStore 5 v0 v17 h10 fun _ h23 =>
  aLoad false 1 v16 h23 fun v24 =>
  aLoad true 5 v0 h23 fun v25 =>
  K (.tup [v25, (.p (.int .i64 0)), v24]) h23)) ∧
  (aLoad false 1 v16 h10 fun v26 =>
  aBuild [(.p (.int .i64 0)), (.p (.int .i64 0)), (.p (.bool false)), (.p (.str [])), (.full [])] [] fun v27 =>
  aStore 5 v0 v27 h10 fun _ h29 =>
  aLoad true 5 v0 h29 fun v30 =>
  K (.tup [v30, (.p (.int .i64 0)), v26]) h29))
  (aNilCheck v3 fun v31 =>
  aFieldAddr 1 v31 fun v32 =>
  (aLoad true 5 v7 h10 fun v33 =>
  (aLoad false 1 v32 h10 fun v34 =>
  aStore 5 v0 v33 h10 fun _ h36 =>
  aLoad true 5 v0 h36 fun v37 =>
  K (.tup [v37, v34, (.p (.int .i64 0))]) h36) ∧
  (aStore 5 v0 v33 h10 fun _ h39 =>
  aLoad false 1 v32 h39 fun v40 =>
  aLoad true 5 v0 h39 fun v41 =>
  K (.tup [v41, v40, (.p (.int .i64 0))]) h39)) ∧
  (aLoad false 1 v32 h10 fun v42 =>
  aLoad true 5 v7 h10 fun v43 =>
  aStore 5 v0 v43 h10 fun _ h45 =>
  aLoad true 5 v0 h45 fun v46 =>
  K (.tup [v46, v42, (.p (.int .i64 0))]) h45))

def wire_Get_ann : Nat → List Nat := fun k => match k with | 3000004 => [1000] | 3000005 => [1000] | _ => []

theorem wire_Get_eq (x0 : AV) (H : List Ob) (r : AV) (Ho : List Ob) : aBody Try.prog wire_Get_ann Try.f14 H [x0] r Ho = wire_Get x0 H (fun v H' => Gives H.length v H' r Ho) := by kernel_rfl

theorem wire_Get_fnH {x0 : AV} {Hin : List Ob} {r : AV} {Ho : List Ob} (h : wire_Get x0 Hin (fun v H' => Gives Hin.length v H' r Ho)) : Abs.Fn Try.prog wire_Get_i Hin [x0] r Ho :=
  fn_intro mixed wire_Get_ann (fn := Try.f14) (by kernel_rfl) (by kernel_rfl) (by rw [wire_Get_eq]; exact h)

theorem wire_Get_fn {x0 : AV} {r : AV} {Ho : List Ob} (h : wire_Get x0 [] (fun v H' => Gives 0 v H' r Ho)) : Abs.Fn Try.prog wire_Get_i [] [x0] r Ho := wire_Get_fnH (Hin := []) h

/- runnel/wire.PutNum -/
def wire_PutNum_L1 (y0 y1 : AV) (H : List Ob) (B1 : List AV → List Ob → Prop) (K : AV → List Ob → Prop) : Prop :=
  aBin false false .geq y1 (.p (.int .u64 128)) fun v0 =>
  aGuard v0
  (aConvInt .u8 y1 fun v1 =>
  aBin false false .or v1 (.p (.int .u8 128)) fun v2 =>
  aBuildSlice 1 [v2] fun v3 =>
  aAppend false 1 1 y0 v3 H fun v4 h5 =>
  aBin false false .shr y1 (.p (.int .u64 7)) fun v6 =>
  B1 [v4, v6] h5)
  (aConvInt .u8 y1 fun v7 =>
  aBuildSlice 1 [v7] fun v8 =>
  aAppend false 1 1 y0 v8 H fun v9 h10 =>
  K v9 h10)

def wire_PutNum (x0 x1 : AV) (H : List Ob) (K : AV → List Ob → Prop) : Prop :=
  aLoopN 2 [x0, x1] H fun xs H B1 => wire_PutNum_L1 (xs.getD 0 .top) (xs.getD 1 .top) H B1 K

def wire_PutNum_ann : Nat → List Nat := fun k => match k with | 1 => [0, 1] | _ => []

theorem wire_PutNum_eq (x0 x1 : AV) (H : List Ob) (r : AV) (Ho : List Ob) : aBody Try.prog wire_PutNum_ann Try.f18 H [x0, x1] r Ho = wire_PutNum x0 x1 H (fun v H' => Gives H.length v H' r Ho) := by kernel_rfl

theorem wire_PutNum_fnH {x0 x1 : AV} {Hin : List Ob} {r : AV} {Ho : List Ob} (h : wire_PutNum x0 x1 Hin (fun v H' => Gives Hin.length v H' r Ho)) : Abs.Fn Try.prog wire_PutNum_i Hin [x0, x1] r Ho :=
  fn_intro mixed wire_PutNum_ann (fn := Try.f18) (by kernel_rfl) (by kernel_rfl) (by rw [wire_PutNum_eq]; exact h)

theorem wire_PutNum_fn {x0 x1 : AV} {r : AV} {Ho : List Ob} (h : wire_PutNum x0 x1 [] (fun v H' => Gives 0 v H' r Ho)) : Abs.Fn Try.prog wire_PutNum_i [] [x0, x1] r Ho := wire_PutNum_fnH (Hin := []) h

/- runnel/wire.Num -/
def wire_Num_L1 (q1s8 q1s9 y0 y1 : AV) (H : List Ob) (B1 : List AV → List Ob → Prop) (K : AV → List Ob → Prop) : Prop :=
  aBin false false .lss y1 q1s9 fun v1 =>
  aGuard v1
  (aIndexAddr 1 q1s8 y1 fun v2 =>
  aLoad false 1 v2 H fun v3 =>
  aBin false false .eql y1 (.p (.int .i64 9)) fun v4 =>
  aMerge true v4 (fun Q5 =>
  aBin false false .gtr v3 (.p (.int .u8 1)) fun v6 =>
  (H = H ∧ Q5 v6)) fun v7 =>
  aGuard v7
  (K (.tup [(.p (.int .u64 0)), (.p (.int .i64 0)), (.p (.int .i64 2))]) H)
  (aBin false false .and v3 (.p (.int .u8 127)) fun v8 =>
  aConvInt .u64 v8 fun v9 =>
  aBin false false .mul (.p (.int .i64 7)) y1 fun v10 =>
  aBin false false .shl v9 v10 fun v11 =>
  aBin false false .or y0 v11 fun v12 =>
  aBin false false .geq v3 (.p (.int .u8 128)) fun v13 =>
  aGuard v13
  (aBin false false .add y1 (.p (.int .i64 1)) fun v14 =>
  B1 [v12, v14] H)
  (aBin false false .eql v3 (.p (.int .u8 0)) fun v15 =>
  aMerge true v15 (fun Q16 =>
  aBin false false .gtr y1 (.p (.int .i64 0)) fun v17 =>
  (H = H ∧ Q16 v17)) fun v18 =>
  aGuard v18
  (K (.tup [(.p (.int .u64 0)), (.p (.int .i64 0)), (.p (.int .i64 2))]) H)
  (aBin false false .add y1 (.p (.int .i64 1)) fun v19 =>
  K (.tup [v12, v19, (.p (.int .i64 0))]) H))))
  (K (.tup [(.p (.int .u64 0)), (.p (.int .i64 0)), (.p (.int .i64 3))]) H)

def wire_Num (x0 : AV) (H : List Ob) (K : AV → List Ob → Prop) : Prop :=
  aLen false false x0 fun v0 =>
  aLoopN 2 [(.p (.int .u64 0)), (.p (.int .i64 0))] H fun xs H B1 => wire_Num_L1 x0 v0 (xs.getD 0 .top) (xs.getD 1 .top) H B1 K

def wire_Num_ann : Nat → List Nat := fun k => match k with | 3 => [5, 10] | _ => []

theorem wire_Num_eq (x0 : AV) (H : List Ob) (r : AV) (Ho : List Ob) : aBody Try.prog wire_Num_ann Try.f26 H [x0] r Ho = wire_Num x0 H (fun v H' => Gives H.length v H' r Ho) := by kernel_rfl

theorem wire_Num_fnH {x0 : AV} {Hin : List Ob} {r : AV} {Ho : List Ob} (h : wire_Num x0 Hin (fun v H' => Gives Hin.length v H' r Ho)) : Abs.Fn Try.prog wire_Num_i Hin [x0] r Ho :=
  fn_intro mixed wire_Num_ann (fn := Try.f26) (by kernel_rfl) (by kernel_rfl) (by rw [wire_Num_eq]; exact h)

theorem wire_Num_fn {x0 : AV} {r : AV} {Ho : List Ob} (h : wire_Num x0 [] (fun v H' => Gives 0 v H' r Ho)) : Abs.Fn Try.prog wire_Num_i [] [x0] r Ho := wire_Num_fnH (Hin := []) h

/- runnel/wire.Text -/
def wire_Text (x0 : AV) (H : List Ob) (K : AV → List Ob → Prop) : Prop :=
  aCall Try.prog (.p (.func wire_text_i [])) [(.p (.int .u64 65535))] H fun v0 h1 =>
  aCall Try.prog v0 [x0] h1 fun v2 h3 =>
  aExtract v2 0 fun v4 =>
  aExtract v2 1 fun v5 =>
  aExtract v2 2 fun v6 =>
  K (.tup [v4, v5, v6]) h3

def wire_Text_ann : Nat → List Nat := fun _ => []

theorem wire_Text_eq (x0 : AV) (H : List Ob) (r : AV) (Ho : List Ob) : aBody Try.prog wire_Text_ann Try.f29 H [x0] r Ho = wire_Text x0 H (fun v H' => Gives H.length v H' r Ho) := by kernel_rfl

theorem wire_Text_fnH {x0 : AV} {Hin : List Ob} {r : AV} {Ho : List Ob} (h : wire_Text x0 Hin (fun v H' => Gives Hin.length v H' r Ho)) : Abs.Fn Try.prog wire_Text_i Hin [x0] r Ho :=
  fn_intro mixed wire_Text_ann (fn := Try.f29) (by kernel_rfl) (by kernel_rfl) (by rw [wire_Text_eq]; exact h)

theorem wire_Text_fn {x0 : AV} {r : AV} {Ho : List Ob} (h : wire_Text x0 [] (fun v H' => Gives 0 v H' r Ho)) : Abs.Fn Try.prog wire_Text_i [] [x0] r Ho := wire_Text_fnH (Hin := []) h

/- runnel/wire.PutText -/
def wire_PutText (x0 x1 : AV) (H : List Ob) (K : AV → List Ob → Prop) : Prop :=
  aLen false true x1 fun v0 =>
  aConvInt .u64 v0 fun v1 =>
  aCall Try.prog (.p (.func wire_PutNum_i [])) [x0, v1] H fun v2 h3 =>
  aAppend true 1 1 v2 x1 h3 fun v4 h5 =>
  K v4 h5

def wire_PutText_ann : Nat → List Nat := fun _ => []

theorem wire_PutText_eq (x0 x1 : AV) (H : List Ob) (r : AV) (Ho : List Ob) : aBody Try.prog wire_PutText_ann Try.f30 H [x0, x1] r Ho = wire_PutText x0 x1 H (fun v H' => Gives H.length v H' r Ho) := by kernel_rfl

theorem wire_PutText_fnH {x0 x1 : AV} {Hin : List Ob} {r : AV} {Ho : List Ob} (h : wire_PutText x0 x1 Hin (fun v H' => Gives Hin.length v H' r Ho)) : Abs.Fn Try.prog wire_PutText_i Hin [x0, x1] r Ho :=
  fn_intro mixed wire_PutText_ann (fn := Try.f30) (by kernel_rfl) (by kernel_rfl) (by rw [wire_PutText_eq]; exact h)

theorem wire_PutText_fn {x0 x1 : AV} {r : AV} {Ho : List Ob} (h : wire_PutText x0 x1 [] (fun v H' => Gives 0 v H' r Ho)) : Abs.Fn Try.prog wire_PutText_i [] [x0, x1] r Ho := wire_PutText_fnH (Hin := []) h

/- runnel/runnelref6.PutNum -/
def runnelref6_PutNum_L1 (y0 y1 : AV) (H : List Ob) (B1 : List AV → List Ob → Prop) (K : AV → List Ob → Prop) : Prop :=
  aBin false false .geq y1 (.p (.int .u64 128)) fun v0 =>
  aGuard v0
  (aConvInt .u8 y1 fun v1 =>
  aBin false false .or v1 (.p (.int .u8 128)) fun v2 =>
  aBuildSlice 1 [v2] fun v3 =>
  aAppend false 1 1 y0 v3 H fun v4 h5 =>
  aBin false false .shr y1 (.p (.int .u64 7)) fun v6 =>
  B1 [v4, v6] h5)
  (aConvInt .u8 y1 fun v7 =>
  aBuildSlice 1 [v7] fun v8 =>
  aAppend false 1 1 y0 v8 H fun v9 h10 =>
  K v9 h10)

def runnelref6_PutNum (x0 x1 : AV) (H : List Ob) (K : AV → List Ob → Prop) : Prop :=
  aLoopN 2 [x0, x1] H fun xs H B1 => runnelref6_PutNum_L1 (xs.getD 0 .top) (xs.getD 1 .top) H B1 K

def runnelref6_PutNum_ann : Nat → List Nat := fun k => match k with | 1 => [0, 1] | _ => []

theorem runnelref6_PutNum_eq (x0 x1 : AV) (H : List Ob) (r : AV) (Ho : List Ob) : aBody Try.prog runnelref6_PutNum_ann Try.f33 H [x0, x1] r Ho = runnelref6_PutNum x0 x1 H (fun v H' => Gives H.length v H' r Ho) := by kernel_rfl

theorem runnelref6_PutNum_fnH {x0 x1 : AV} {Hin : List Ob} {r : AV} {Ho : List Ob} (h : runnelref6_PutNum x0 x1 Hin (fun v H' => Gives Hin.length v H' r Ho)) : Abs.Fn Try.prog runnelref6_PutNum_i Hin [x0, x1] r Ho :=
  fn_intro mixed runnelref6_PutNum_ann (fn := Try.f33) (by kernel_rfl) (by kernel_rfl) (by rw [runnelref6_PutNum_eq]; exact h)

theorem runnelref6_PutNum_fn {x0 x1 : AV} {r : AV} {Ho : List Ob} (h : runnelref6_PutNum x0 x1 [] (fun v H' => Gives 0 v H' r Ho)) : Abs.Fn Try.prog runnelref6_PutNum_i [] [x0, x1] r Ho := runnelref6_PutNum_fnH (Hin := []) h

/- runnel/runnelref6.PutText -/
def runnelref6_PutText (x0 x1 : AV) (H : List Ob) (K : AV → List Ob → Prop) : Prop :=
  aLen false true x1 fun v0 =>
  aConvInt .u64 v0 fun v1 =>
  aCall Try.prog (.p (.func runnelref6_PutNum_i [])) [x0, v1] H fun v2 h3 =>
  aAppend true 1 1 v2 x1 h3 fun v4 h5 =>
  K v4 h5

def runnelref6_PutText_ann : Nat → List Nat := fun _ => []

theorem runnelref6_PutText_eq (x0 x1 : AV) (H : List Ob) (r : AV) (Ho : List Ob) : aBody Try.prog runnelref6_PutText_ann Try.f34 H [x0, x1] r Ho = runnelref6_PutText x0 x1 H (fun v H' => Gives H.length v H' r Ho) := by kernel_rfl

theorem runnelref6_PutText_fnH {x0 x1 : AV} {Hin : List Ob} {r : AV} {Ho : List Ob} (h : runnelref6_PutText x0 x1 Hin (fun v H' => Gives Hin.length v H' r Ho)) : Abs.Fn Try.prog runnelref6_PutText_i Hin [x0, x1] r Ho :=
  fn_intro mixed runnelref6_PutText_ann (fn := Try.f34) (by kernel_rfl) (by kernel_rfl) (by rw [runnelref6_PutText_eq]; exact h)

theorem runnelref6_PutText_fn {x0 x1 : AV} {r : AV} {Ho : List Ob} (h : runnelref6_PutText x0 x1 [] (fun v H' => Gives 0 v H' r Ho)) : Abs.Fn Try.prog runnelref6_PutText_i [] [x0, x1] r Ho := runnelref6_PutText_fnH (Hin := []) h

/- (*runnel/wire.Reader).value -/
def wire_Reader_value_L1 (q1s0 q1s1 q1s4 q1s8 q1s9 y0 : AV) (H : List Ob) (B1 : List AV → List Ob → Prop) (K : AV → List Ob → Prop) : Prop :=
  aBin false false .lss y0 q1s8 fun v56 =>
  aMerge true v56 (fun Q57 =>
  aNilCheck q1s0 fun v58 =>
  aFieldAddr 2 v58 fun v59 =>
  aLoad false 1 v59 H fun v60 =>
  aBin false false .eql v60 (.p (.int .i64 0)) fun v61 =>
  (H = H ∧ Q57 v61)) fun v62 =>
  aGuard v62
  (aFieldAddr 4 q1s9 fun v63 =>
  (aLoad false 1 v63 H fun v64 =>
  aBin false false .add q1s1 (.p (.int .i64 1)) fun v65 =>
  aCall Try.prog (.p (.func wire_Reader_value_i [])) [q1s0, v65] H fun v66 h67 =>
  aBuildSlice 5 [v66] fun v68 =>
  aAppend false 5 64 v64 v68 h67 fun v69 h70 =>
  aFieldAddr 4 q1s9 fun v71 =>
  aStore 1 v71 v69 h70 fun _ h73 =>
  aBin false false .add y0 (.p (.int .i64 1)) fun v74 =>
  B1 [v74] h73) ∧
  (aBin false false .add q1s1 (.p (.int .i64 1)) fun v75 =>
  (aLoad false 1 v63 H fun v76 =>
  aCall Try.prog (.p (.func wire_Reader_value_i [])) [q1s0, v75] H fun v77 h78 =>
  aBuildSlice 5 [v77] fun v79 =>
  aAppend false 5 64 v76 v79 h78 fun v80 h81 =>
  aFieldAddr 4 q1s9 fun v82 =>
  aStore 1 v82 v80 h81 fun _ h84 =>
  aBin false false .add y0 (.p (.int .i64 1)) fun v85 =>
  B1 [v85] h84) ∧
  (aCall Try.prog (.p (.func wire_Reader_value_i [])) [q1s0, v75] H fun v86 h87 =>
  (aLoad false 1 v63 h87 fun v88 =>
  aBuildSlice 5 [v86] fun v89 =>
  aAppend false 5 64 v88 v89 h87 fun v90 h91 =>
  aFieldAddr 4 q1s9 fun v92 =>
  aStore 1 v92 v90 h91 fun _ h94 =>
  aBin false false .add y0 (.p (.int .i64 1)) fun v95 =>
  B1 [v95] h94) ∧
  (aBuildSlice 5 [v86] fun v96 =>
  aLoad false 1 v63 h87 fun v97 =>
  aAppend false 5 64 v97 v96 h87 fun v98 h99 =>
  aFieldAddr 4 q1s9 fun v100 =>
  aStore 1 v100 v98 h99 fun _ h102 =>
  aBin false false .add y0 (.p (.int .i64 1)) fun v103 =>
  B1 [v103] h102))))
  (aLoad true 5 q1s9 H fun v104 =>
  aStore 5 q1s4 v104 H fun _ h106 =>
  aLoad true 5 q1s4 h106 fun v107 =>
  K v107 h106)

def wire_Reader_value_J1 (j1s0 j1s1 j1s4 j1s5 j1s8 : AV) (H : List Ob) (K : AV → List Ob → Prop) : Prop :=
  aBuild [(.p (.int .i64 0)), (.p (.int .i64 0)), (.p (.bool false)), (.p (.str [])), (.full [])] [(0, 1, j1s5)] fun v51 =>
  aAlloc [(.p (.int .i64 0)), (.p (.int .i64 0)), (.p (.bool false)), (.p (.str [])), (.full [])] H fun v52 h53 =>
  aStore 5 v52 v51 h53 fun _ h55 =>
  aLoopN 1 [(.p (.int .i64 0))] h55 fun xs H B1 => wire_Reader_value_L1 j1s0 j1s1 j1s4 j1s8 v52 (xs.getD 0 .top) H B1 K

def wire_Reader_value (x0 x1 : AV) (H : List Ob) (K : AV → List Ob → Prop) : Prop :=
  aAlloc [(.p (.int .i64 0)), (.p (.int .i64 0)), (.p (.bool false)), (.p (.str [])), (.full [])] H fun v0 h1 =>
  aCall Try.prog (.p (.func wire_Reader_Byte_i [])) [x0] h1 fun v2 h3 =>
  aConvInt .i64 v2 fun v4 =>
  aBin false false .eql v4 (.p (.int .i64 1)) fun v5 =>
  aGuard v5
  (aCall Try.prog (.p (.func wire_Reader_Uint_i [])) [x0] h3 fun v6 h7 =>
  aBin false false .shr v6 (.p (.int .u64 1)) fun v8 =>
  aConvInt .i64 v8 fun v9 =>
  aBin false false .and v6 (.p (.int .u64 1)) fun v10 =>
  aConvInt .i64 v10 fun v11 =>
  aUn .neg v11 fun v12 =>
  aBin false false .xor v9 v12 fun v13 =>
  aCall Try.prog (.p (.func val_Int_i [])) [v13] h7 fun v14 h15 =>
  aStore 5 v0 v14 h15 fun _ h17 =>
  aLoad true 5 v0 h17 fun v18 =>
  K v18 h17)
  (aBin false false .eql v4 (.p (.int .i64 2)) fun v19 =>
  aGuard v19
  (aCall Try.prog (.p (.func wire_Reader_Byte_i [])) [x0] h3 fun v20 h21 =>
  aBin false false .gtr v20 (.p (.int .u8 1)) fun v22 =>
  aGuard v22
  (aCall Try.prog (.p (.func wire_Reader_Fail_i [])) [x0, (.p (.int .i64 2))] h21 fun _ h24 =>
  aBin false false .eql v20 (.p (.int .u8 1)) fun v25 =>
  aCall Try.prog (.p (.func val_Bool_i [])) [v25] h24 fun v26 h27 =>
  aStore 5 v0 v26 h27 fun _ h29 =>
  aLoad true 5 v0 h29 fun v30 =>
  K v30 h29)
  (aBin false false .eql v20 (.p (.int .u8 1)) fun v31 =>
  aCall Try.prog (.p (.func val_Bool_i [])) [v31] h21 fun v32 h33 =>
  aStore 5 v0 v32 h33 fun _ h35 =>
  aLoad true 5 v0 h35 fun v36 =>
  K v36 h35))
  (aBin false false .eql v4 (.p (.int .i64 3)) fun v37 =>
  aGuard v37
  (aCall Try.prog (.p (.func wire_text_i [])) [(.p (.int .u64 255))] h3 fun v38 h39 =>
  aCall Try.prog (.p (.func wire_field_string_i [])) [x0, v38] h39 fun v40 h41 =>
  aCall Try.prog (.p (.func val_Str_i [])) [v40] h41 fun v42 h43 =>
  aStore 5 v0 v42 h43 fun _ h45 =>
  aLoad true 5 v0 h45 fun v46 =>
  K v46 h45)
  (aBin false false .eql v4 (.p (.int .i64 4)) fun v47 =>
  aGuard v47
  (aCall Try.prog (.p (.func wire_Reader_Byte_i [])) [x0] h3 fun v48 h49 =>
  aConvInt .i64 v48 fun v50 =>
  aNilCheck x0 fun v108 =>
  aFieldAddr 2 v108 fun v109 =>
  aLoad false 1 v109 h49 fun v110 =>
  aBin false false .eql v110 (.p (.int .i64 0)) fun v111 =>
  aGuard v111
  (aCall Try.prog (.p (.func typ_Row_i [])) [v50, x1] h49 fun v112 h113 =>
  aCall Try.prog (.p (.func wire_Reader_Fail_i [])) [x0, v112] h113 fun _ h115 =>
  wire_Reader_value_J1 x0 x1 v0 v4 v50 h115 K)
  (wire_Reader_value_J1 x0 x1 v0 v4 v50 h49 K))
  (aCall Try.prog (.p (.func wire_Reader_Fail_i [])) [x0, (.p (.int .i64 5))] h3 fun _ h117 =>
  aBuild [(.p (.int .i64 0)), (.p (.int .i64 0)), (.p (.bool false)), (.p (.str [])), (.full [])] [] fun v118 =>
  aStore 5 v0 v118 h117 fun _ h120 =>
  aLoad true 5 v0 h120 fun v121 =>
  K v121 h120))))

def wire_Reader_value_ann : Nat → List Nat := fun k => match k with | 19 => [10] | 3000021 => [1000] | _ => []

theorem wire_Reader_value_eq (x0 x1 : AV) (H : List Ob) (r : AV) (Ho : List Ob) : aBody Try.prog wire_Reader_value_ann Try.f35 H [x0, x1] r Ho = wire_Reader_value x0 x1 H (fun v H' => Gives H.length v H' r Ho) := by kernel_rfl

theorem wire_Reader_value_fnH {x0 x1 : AV} {Hin : List Ob} {r : AV} {Ho : List Ob} (h : wire_Reader_value x0 x1 Hin (fun v H' => Gives Hin.length v H' r Ho)) : Abs.Fn Try.prog wire_Reader_value_i Hin [x0, x1] r Ho :=
  fn_intro mixed wire_Reader_value_ann (fn := Try.f35) (by kernel_rfl) (by kernel_rfl) (by rw [wire_Reader_value_eq]; exact h)

theorem wire_Reader_value_fn {x0 x1 : AV} {r : AV} {Ho : List Ob} (h : wire_Reader_value x0 x1 [] (fun v H' => Gives 0 v H' r Ho)) : Abs.Fn Try.prog wire_Reader_value_i [] [x0, x1] r Ho := wire_Reader_value_fnH (Hin := []) h

/- runnel/wire.text -/
def wire_text (x0 : AV) (H : List Ob) (K : AV → List Ob → Prop) : Prop :=
  aBox x0 H fun v0 h1 =>
  aMakeFunc wire_text_1_i [v0] h1 fun v2 h3 =>
  K v2 h3

def wire_text_ann : Nat → List Nat := fun _ => []

theorem wire_text_eq (x0 : AV) (H : List Ob) (r : AV) (Ho : List Ob) : aBody Try.prog wire_text_ann Try.f54 H [x0] r Ho = wire_text x0 H (fun v H' => Gives H.length v H' r Ho) := by kernel_rfl

theorem wire_text_fnH {x0 : AV} {Hin : List Ob} {r : AV} {Ho : List Ob} (h : wire_text x0 Hin (fun v H' => Gives Hin.length v H' r Ho)) : Abs.Fn Try.prog wire_text_i Hin [x0] r Ho :=
  fn_intro mixed wire_text_ann (fn := Try.f54) (by kernel_rfl) (by kernel_rfl) (by rw [wire_text_eq]; exact h)

theorem wire_text_fn {x0 : AV} {r : AV} {Ho : List Ob} (h : wire_text x0 [] (fun v H' => Gives 0 v H' r Ho)) : Abs.Fn Try.prog wire_text_i [] [x0] r Ho := wire_text_fnH (Hin := []) h

/- (*runnel/wire.Reader).Byte -/
def wire_Reader_Byte (x0 : AV) (H : List Ob) (K : AV → List Ob → Prop) : Prop :=
  aCall Try.prog (.p (.func wire_field_byte_i [])) [x0, (.p (.func wire_one_i []))] H fun v0 h1 =>
  K v0 h1

def wire_Reader_Byte_ann : Nat → List Nat := fun _ => []

theorem wire_Reader_Byte_eq (x0 : AV) (H : List Ob) (r : AV) (Ho : List Ob) : aBody Try.prog wire_Reader_Byte_ann Try.f57 H [x0] r Ho = wire_Reader_Byte x0 H (fun v H' => Gives H.length v H' r Ho) := by kernel_rfl

theorem wire_Reader_Byte_fnH {x0 : AV} {Hin : List Ob} {r : AV} {Ho : List Ob} (h : wire_Reader_Byte x0 Hin (fun v H' => Gives Hin.length v H' r Ho)) : Abs.Fn Try.prog wire_Reader_Byte_i Hin [x0] r Ho :=
  fn_intro mixed wire_Reader_Byte_ann (fn := Try.f57) (by kernel_rfl) (by kernel_rfl) (by rw [wire_Reader_Byte_eq]; exact h)

theorem wire_Reader_Byte_fn {x0 : AV} {r : AV} {Ho : List Ob} (h : wire_Reader_Byte x0 [] (fun v H' => Gives 0 v H' r Ho)) : Abs.Fn Try.prog wire_Reader_Byte_i [] [x0] r Ho := wire_Reader_Byte_fnH (Hin := []) h

/- (*runnel/wire.Reader).Uint -/
def wire_Reader_Uint (x0 : AV) (H : List Ob) (K : AV → List Ob → Prop) : Prop :=
  aCall Try.prog (.p (.func wire_field_uint64_i [])) [x0, (.p (.func wire_Num_i []))] H fun v0 h1 =>
  K v0 h1

def wire_Reader_Uint_ann : Nat → List Nat := fun _ => []

theorem wire_Reader_Uint_eq (x0 : AV) (H : List Ob) (r : AV) (Ho : List Ob) : aBody Try.prog wire_Reader_Uint_ann Try.f58 H [x0] r Ho = wire_Reader_Uint x0 H (fun v H' => Gives H.length v H' r Ho) := by kernel_rfl

theorem wire_Reader_Uint_fnH {x0 : AV} {Hin : List Ob} {r : AV} {Ho : List Ob} (h : wire_Reader_Uint x0 Hin (fun v H' => Gives Hin.length v H' r Ho)) : Abs.Fn Try.prog wire_Reader_Uint_i Hin [x0] r Ho :=
  fn_intro mixed wire_Reader_Uint_ann (fn := Try.f58) (by kernel_rfl) (by kernel_rfl) (by rw [wire_Reader_Uint_eq]; exact h)

theorem wire_Reader_Uint_fn {x0 : AV} {r : AV} {Ho : List Ob} (h : wire_Reader_Uint x0 [] (fun v H' => Gives 0 v H' r Ho)) : Abs.Fn Try.prog wire_Reader_Uint_i [] [x0] r Ho := wire_Reader_Uint_fnH (Hin := []) h

/- (*runnel/wire.Reader).Fail -/
def wire_Reader_Fail (x0 x1 : AV) (H : List Ob) (K : AV → List Ob → Prop) : Prop :=
  aNilCheck x0 fun v0 =>
  aFieldAddr 2 v0 fun v1 =>
  aLoad false 1 v1 H fun v2 =>
  aBin false false .eql v2 (.p (.int .i64 0)) fun v3 =>
  aGuard v3
  (aNilCheck x0 fun v4 =>
  aFieldAddr 2 v4 fun v5 =>
  aStore 1 v5 x1 H fun _ h7 =>
  K (.tup []) h7)
  (K (.tup []) H)

def wire_Reader_Fail_ann : Nat → List Nat := fun _ => []

theorem wire_Reader_Fail_eq (x0 x1 : AV) (H : List Ob) (r : AV) (Ho : List Ob) : aBody Try.prog wire_Reader_Fail_ann Try.f59 H [x0, x1] r Ho = wire_Reader_Fail x0 x1 H (fun v H' => Gives H.length v H' r Ho) := by kernel_rfl

theorem wire_Reader_Fail_fnH {x0 x1 : AV} {Hin : List Ob} {r : AV} {Ho : List Ob} (h : wire_Reader_Fail x0 x1 Hin (fun v H' => Gives Hin.length v H' r Ho)) : Abs.Fn Try.prog wire_Reader_Fail_i Hin [x0, x1] r Ho :=
  fn_intro mixed wire_Reader_Fail_ann (fn := Try.f59) (by kernel_rfl) (by kernel_rfl) (by rw [wire_Reader_Fail_eq]; exact h)

theorem wire_Reader_Fail_fn {x0 x1 : AV} {r : AV} {Ho : List Ob} (h : wire_Reader_Fail x0 x1 [] (fun v H' => Gives 0 v H' r Ho)) : Abs.Fn Try.prog wire_Reader_Fail_i [] [x0, x1] r Ho := wire_Reader_Fail_fnH (Hin := []) h

/- runnel/wire.field[string] -/
def wire_field_string (x0 x1 : AV) (H : List Ob) (K : AV → List Ob → Prop) : Prop :=
  aNilCheck x0 fun v0 =>
  aFieldAddr 2 v0 fun v1 =>
  aLoad false 1 v1 H fun v2 =>
  aBin false false .neq v2 (.p (.int .i64 0)) fun v3 =>
  aGuard v3
  (K (.p (.str [])) H)
  (aNilCheck x0 fun v4 =>
  aFieldAddr 0 v4 fun v5 =>
  aLoad false 1 v5 H fun v6 =>
  aNilCheck x0 fun v7 =>
  aFieldAddr 1 v7 fun v8 =>
  aLoad false 1 v8 H fun v9 =>
  aSlice false 1 v6 (some v9) none none fun v10 =>
  aCallT Try.prog x1 [v10] fun v11 =>
  aExtract v11 0 fun v12 =>
  aExtract v11 1 fun v13 =>
  aExtract v11 2 fun v14 =>
  aBin false false .neq v14 (.p (.int .i64 0)) fun v15 =>
  aGuard v15
  (aNilCheck x0 fun v16 =>
  aFieldAddr 2 v16 fun v17 =>
  aStore 1 v17 v14 H fun _ h19 =>
  K (.p (.str [])) h19)
  (aNilCheck x0 fun v20 =>
  aFieldAddr 1 v20 fun v21 =>
  aLoad false 1 v21 H fun v22 =>
  aBin false false .add v22 v13 fun v23 =>
  aNilCheck x0 fun v24 =>
  aFieldAddr 1 v24 fun v25 =>
  aStore 1 v25 v23 H fun _ h27 =>
  K v12 h27))

def wire_field_string_ann : Nat → List Nat := fun _ => []

theorem wire_field_string_eq (x0 x1 : AV) (H : List Ob) (r : AV) (Ho : List Ob) : aBody Try.prog wire_field_string_ann Try.f60 H [x0, x1] r Ho = wire_field_string x0 x1 H (fun v H' => Gives H.length v H' r Ho) := by kernel_rfl

theorem wire_field_string_fnH {x0 x1 : AV} {Hin : List Ob} {r : AV} {Ho : List Ob} (h : wire_field_string x0 x1 Hin (fun v H' => Gives Hin.length v H' r Ho)) : Abs.Fn Try.prog wire_field_string_i Hin [x0, x1] r Ho :=
  fn_intro mixed wire_field_string_ann (fn := Try.f60) (by kernel_rfl) (by kernel_rfl) (by rw [wire_field_string_eq]; exact h)

theorem wire_field_string_fn {x0 x1 : AV} {r : AV} {Ho : List Ob} (h : wire_field_string x0 x1 [] (fun v H' => Gives 0 v H' r Ho)) : Abs.Fn Try.prog wire_field_string_i [] [x0, x1] r Ho := wire_field_string_fnH (Hin := []) h

/- runnel/wire.text$1 -/
def wire_text_1 (x0 x1 : AV) (H : List Ob) (K : AV → List Ob → Prop) : Prop :=
  aCall Try.prog (.p (.func wire_Num_i [])) [x0] H fun v0 h1 =>
  aExtract v0 0 fun v2 =>
  aExtract v0 1 fun v3 =>
  aExtract v0 2 fun v4 =>
  aBin false false .neq v4 (.p (.int .i64 0)) fun v5 =>
  aGuard v5
  (K (.tup [(.p (.str [])), (.p (.int .i64 0)), v4]) h1)
  (aLoad false 1 x1 h1 fun v6 =>
  aBin false false .gtr v2 v6 fun v7 =>
  aGuard v7
  (K (.tup [(.p (.str [])), (.p (.int .i64 0)), (.p (.int .i64 4))]) h1)
  (aLen false false x0 fun v8 =>
  aBin false false .sub v8 v3 fun v9 =>
  aConvInt .u64 v9 fun v10 =>
  aBin false false .gtr v2 v10 fun v11 =>
  aGuard v11
  (K (.tup [(.p (.str [])), (.p (.int .i64 0)), (.p (.int .i64 3))]) h1)
  (aConvInt .i64 v2 fun v12 =>
  aBin false false .add v3 v12 fun v13 =>
  aSlice false 1 x0 (some v3) (some v13) none fun v14 =>
  aBytesStr v14 fun v15 =>
  aConvInt .i64 v2 fun v16 =>
  aBin false false .add v3 v16 fun v17 =>
  K (.tup [v15, v17, (.p (.int .i64 0))]) h1)))

def wire_text_1_ann : Nat → List Nat := fun _ => []

theorem wire_text_1_eq (x0 x1 : AV) (H : List Ob) (r : AV) (Ho : List Ob) : aBody Try.prog wire_text_1_ann Try.f81 H [x0, x1] r Ho = wire_text_1 x0 x1 H (fun v H' => Gives H.length v H' r Ho) := by kernel_rfl

theorem wire_text_1_fnH {x0 x1 : AV} {Hin : List Ob} {r : AV} {Ho : List Ob} (h : wire_text_1 x0 x1 Hin (fun v H' => Gives Hin.length v H' r Ho)) : Abs.Fn Try.prog wire_text_1_i Hin [x0, x1] r Ho :=
  fn_intro mixed wire_text_1_ann (fn := Try.f81) (by kernel_rfl) (by kernel_rfl) (by rw [wire_text_1_eq]; exact h)

theorem wire_text_1_fn {x0 x1 : AV} {r : AV} {Ho : List Ob} (h : wire_text_1 x0 x1 [] (fun v H' => Gives 0 v H' r Ho)) : Abs.Fn Try.prog wire_text_1_i [] [x0, x1] r Ho := wire_text_1_fnH (Hin := []) h

/- runnel/wire.field[byte] -/
def wire_field_byte (x0 x1 : AV) (H : List Ob) (K : AV → List Ob → Prop) : Prop :=
  aNilCheck x0 fun v0 =>
  aFieldAddr 2 v0 fun v1 =>
  aLoad false 1 v1 H fun v2 =>
  aBin false false .neq v2 (.p (.int .i64 0)) fun v3 =>
  aGuard v3
  (K (.p (.int .u8 0)) H)
  (aNilCheck x0 fun v4 =>
  aFieldAddr 0 v4 fun v5 =>
  aLoad false 1 v5 H fun v6 =>
  aNilCheck x0 fun v7 =>
  aFieldAddr 1 v7 fun v8 =>
  aLoad false 1 v8 H fun v9 =>
  aSlice false 1 v6 (some v9) none none fun v10 =>
  aCallT Try.prog x1 [v10] fun v11 =>
  aExtract v11 0 fun v12 =>
  aExtract v11 1 fun v13 =>
  aExtract v11 2 fun v14 =>
  aBin false false .neq v14 (.p (.int .i64 0)) fun v15 =>
  aGuard v15
  (aNilCheck x0 fun v16 =>
  aFieldAddr 2 v16 fun v17 =>
  aStore 1 v17 v14 H fun _ h19 =>
  K (.p (.int .u8 0)) h19)
  (aNilCheck x0 fun v20 =>
  aFieldAddr 1 v20 fun v21 =>
  aLoad false 1 v21 H fun v22 =>
  aBin false false .add v22 v13 fun v23 =>
  aNilCheck x0 fun v24 =>
  aFieldAddr 1 v24 fun v25 =>
  aStore 1 v25 v23 H fun _ h27 =>
  K v12 h27))

def wire_field_byte_ann : Nat → List Nat := fun _ => []

theorem wire_field_byte_eq (x0 x1 : AV) (H : List Ob) (r : AV) (Ho : List Ob) : aBody Try.prog wire_field_byte_ann Try.f82 H [x0, x1] r Ho = wire_field_byte x0 x1 H (fun v H' => Gives H.length v H' r Ho) := by kernel_rfl

theorem wire_field_byte_fnH {x0 x1 : AV} {Hin : List Ob} {r : AV} {Ho : List Ob} (h : wire_field_byte x0 x1 Hin (fun v H' => Gives Hin.length v H' r Ho)) : Abs.Fn Try.prog wire_field_byte_i Hin [x0, x1] r Ho :=
  fn_intro mixed wire_field_byte_ann (fn := Try.f82) (by kernel_rfl) (by kernel_rfl) (by rw [wire_field_byte_eq]; exact h)

theorem wire_field_byte_fn {x0 x1 : AV} {r : AV} {Ho : List Ob} (h : wire_field_byte x0 x1 [] (fun v H' => Gives 0 v H' r Ho)) : Abs.Fn Try.prog wire_field_byte_i [] [x0, x1] r Ho := wire_field_byte_fnH (Hin := []) h

/- runnel/wire.one -/
def wire_one (x0 : AV) (H : List Ob) (K : AV → List Ob → Prop) : Prop :=
  aLen false false x0 fun v0 =>
  aBin false false .eql v0 (.p (.int .i64 0)) fun v1 =>
  aGuard v1
  (K (.tup [(.p (.int .u8 0)), (.p (.int .i64 0)), (.p (.int .i64 3))]) H)
  (aIndexAddr 1 x0 (.p (.int .i64 0)) fun v2 =>
  aLoad false 1 v2 H fun v3 =>
  K (.tup [v3, (.p (.int .i64 1)), (.p (.int .i64 0))]) H)

def wire_one_ann : Nat → List Nat := fun _ => []

theorem wire_one_eq (x0 : AV) (H : List Ob) (r : AV) (Ho : List Ob) : aBody Try.prog wire_one_ann Try.f83 H [x0] r Ho = wire_one x0 H (fun v H' => Gives H.length v H' r Ho) := by kernel_rfl

theorem wire_one_fnH {x0 : AV} {Hin : List Ob} {r : AV} {Ho : List Ob} (h : wire_one x0 Hin (fun v H' => Gives Hin.length v H' r Ho)) : Abs.Fn Try.prog wire_one_i Hin [x0] r Ho :=
  fn_intro mixed wire_one_ann (fn := Try.f83) (by kernel_rfl) (by kernel_rfl) (by rw [wire_one_eq]; exact h)

theorem wire_one_fn {x0 : AV} {r : AV} {Ho : List Ob} (h : wire_one x0 [] (fun v H' => Gives 0 v H' r Ho)) : Abs.Fn Try.prog wire_one_i [] [x0] r Ho := wire_one_fnH (Hin := []) h

/- runnel/wire.field[uint64] -/
def wire_field_uint64 (x0 x1 : AV) (H : List Ob) (K : AV → List Ob → Prop) : Prop :=
  aNilCheck x0 fun v0 =>
  aFieldAddr 2 v0 fun v1 =>
  aLoad false 1 v1 H fun v2 =>
  aBin false false .neq v2 (.p (.int .i64 0)) fun v3 =>
  aGuard v3
  (K (.p (.int .u64 0)) H)
  (aNilCheck x0 fun v4 =>
  aFieldAddr 0 v4 fun v5 =>
  aLoad false 1 v5 H fun v6 =>
  aNilCheck x0 fun v7 =>
  aFieldAddr 1 v7 fun v8 =>
  aLoad false 1 v8 H fun v9 =>
  aSlice false 1 v6 (some v9) none none fun v10 =>
  aCallT Try.prog x1 [v10] fun v11 =>
  aExtract v11 0 fun v12 =>
  aExtract v11 1 fun v13 =>
  aExtract v11 2 fun v14 =>
  aBin false false .neq v14 (.p (.int .i64 0)) fun v15 =>
  aGuard v15
  (aNilCheck x0 fun v16 =>
  aFieldAddr 2 v16 fun v17 =>
  aStore 1 v17 v14 H fun _ h19 =>
  K (.p (.int .u64 0)) h19)
  (aNilCheck x0 fun v20 =>
  aFieldAddr 1 v20 fun v21 =>
  aLoad false 1 v21 H fun v22 =>
  aBin false false .add v22 v13 fun v23 =>
  aNilCheck x0 fun v24 =>
  aFieldAddr 1 v24 fun v25 =>
  aStore 1 v25 v23 H fun _ h27 =>
  K v12 h27))

def wire_field_uint64_ann : Nat → List Nat := fun _ => []

theorem wire_field_uint64_eq (x0 x1 : AV) (H : List Ob) (r : AV) (Ho : List Ob) : aBody Try.prog wire_field_uint64_ann Try.f84 H [x0, x1] r Ho = wire_field_uint64 x0 x1 H (fun v H' => Gives H.length v H' r Ho) := by kernel_rfl

theorem wire_field_uint64_fnH {x0 x1 : AV} {Hin : List Ob} {r : AV} {Ho : List Ob} (h : wire_field_uint64 x0 x1 Hin (fun v H' => Gives Hin.length v H' r Ho)) : Abs.Fn Try.prog wire_field_uint64_i Hin [x0, x1] r Ho :=
  fn_intro mixed wire_field_uint64_ann (fn := Try.f84) (by kernel_rfl) (by kernel_rfl) (by rw [wire_field_uint64_eq]; exact h)

theorem wire_field_uint64_fn {x0 x1 : AV} {r : AV} {Ho : List Ob} (h : wire_field_uint64 x0 x1 [] (fun v H' => Gives 0 v H' r Ho)) : Abs.Fn Try.prog wire_field_uint64_i [] [x0, x1] r Ho := wire_field_uint64_fnH (Hin := []) h

end Go.Proofs.Ytklnalofcjagnaa
end

section
/- Made by program (Gen.lean): functions of the dump, over trees. -/
set_option maxRecDepth 4000
set_option linter.unusedVariables false
namespace Go.Proofs.Ytklnalofcjagnaa
open Go Go.Abs

/- runnel/runnellaw4.Lit -/
def runnellaw4_Lit (x0 : AV) (H : List Ob) (K : AV → List Ob → Prop) : Prop :=
  aBox x0 H fun v0 h1 =>
  aAlloc [(.p (.str [])), (.p (.int .i64 0)), (.p (.int .i64 0)), (.p (.bool false)), (.p (.str [])), (.full []), (.p (.int .i64 0)), (.full [])] h1 fun v2 h3 =>
  aLoad true 5 v0 h3 fun v4 =>
  aBuild [(.p (.str [])), (.p (.int .i64 0)), (.p (.int .i64 0)), (.p (.bool false)), (.p (.str [])), (.full []), (.p (.int .i64 0)), (.full [])] [(0, 1, (.p (.str [108, 105, 116]))), (1, 5, v4)] fun v5 =>
  aStore 8 v2 v5 h3 fun _ h7 =>
  aLoad true 8 v2 h7 fun v8 =>
  K v8 h7

def runnellaw4_Lit_ann : Nat → List Nat := fun _ => []

theorem runnellaw4_Lit_eq (x0 : AV) (H : List Ob) (r : AV) (Ho : List Ob) : aBody Try.prog runnellaw4_Lit_ann Try.f20 H [x0] r Ho = runnellaw4_Lit x0 H (fun v H' => Gives H.length v H' r Ho) := by kernel_rfl

theorem runnellaw4_Lit_fnH {x0 : AV} {Hin : List Ob} {r : AV} {Ho : List Ob} (h : runnellaw4_Lit x0 Hin (fun v H' => Gives Hin.length v H' r Ho)) : Abs.Fn Try.prog runnellaw4_Lit_i Hin [x0] r Ho :=
  fn_intro mixed runnellaw4_Lit_ann (fn := Try.f20) (by kernel_rfl) (by kernel_rfl) (by rw [runnellaw4_Lit_eq]; exact h)

theorem runnellaw4_Lit_fn {x0 : AV} {r : AV} {Ho : List Ob} (h : runnellaw4_Lit x0 [] (fun v H' => Gives 0 v H' r Ho)) : Abs.Fn Try.prog runnellaw4_Lit_i [] [x0] r Ho := runnellaw4_Lit_fnH (Hin := []) h

/- runnel/runnellaw4.Op -/
def runnellaw4_Op (x0 x1 : AV) (H : List Ob) (K : AV → List Ob → Prop) : Prop :=
  aAlloc [(.p (.str [])), (.p (.int .i64 0)), (.p (.int .i64 0)), (.p (.bool false)), (.p (.str [])), (.full []), (.p (.int .i64 0)), (.full [])] H fun v0 h1 =>
  aBuild [(.p (.str [])), (.p (.int .i64 0)), (.p (.int .i64 0)), (.p (.bool false)), (.p (.str [])), (.full []), (.p (.int .i64 0)), (.full [])] [(0, 1, x0), (7, 1, x1)] fun v2 =>
  aStore 8 v0 v2 h1 fun _ h4 =>
  aLoad true 8 v0 h4 fun v5 =>
  K v5 h4

def runnellaw4_Op_ann : Nat → List Nat := fun _ => []

theorem runnellaw4_Op_eq (x0 x1 : AV) (H : List Ob) (r : AV) (Ho : List Ob) : aBody Try.prog runnellaw4_Op_ann Try.f21 H [x0, x1] r Ho = runnellaw4_Op x0 x1 H (fun v H' => Gives H.length v H' r Ho) := by kernel_rfl

theorem runnellaw4_Op_fnH {x0 x1 : AV} {Hin : List Ob} {r : AV} {Ho : List Ob} (h : runnellaw4_Op x0 x1 Hin (fun v H' => Gives Hin.length v H' r Ho)) : Abs.Fn Try.prog runnellaw4_Op_i Hin [x0, x1] r Ho :=
  fn_intro mixed runnellaw4_Op_ann (fn := Try.f21) (by kernel_rfl) (by kernel_rfl) (by rw [runnellaw4_Op_eq]; exact h)

theorem runnellaw4_Op_fn {x0 x1 : AV} {r : AV} {Ho : List Ob} (h : runnellaw4_Op x0 x1 [] (fun v H' => Gives 0 v H' r Ho)) : Abs.Fn Try.prog runnellaw4_Op_i [] [x0, x1] r Ho := runnellaw4_Op_fnH (Hin := []) h

/- runnel/runnellaw4.X -/
def runnellaw4_X (H : List Ob) (K : AV → List Ob → Prop) : Prop :=
  aAlloc [(.p (.str [])), (.p (.int .i64 0)), (.p (.int .i64 0)), (.p (.bool false)), (.p (.str [])), (.full []), (.p (.int .i64 0)), (.full [])] H fun v0 h1 =>
  aBuild [(.p (.str [])), (.p (.int .i64 0)), (.p (.int .i64 0)), (.p (.bool false)), (.p (.str [])), (.full []), (.p (.int .i64 0)), (.full [])] [(0, 1, (.p (.str [120])))] fun v2 =>
  aStore 8 v0 v2 h1 fun _ h4 =>
  aLoad true 8 v0 h4 fun v5 =>
  K v5 h4

def runnellaw4_X_ann : Nat → List Nat := fun _ => []

theorem runnellaw4_X_eq (H : List Ob) (r : AV) (Ho : List Ob) : aBody Try.prog runnellaw4_X_ann Try.f22 H [] r Ho = runnellaw4_X H (fun v H' => Gives H.length v H' r Ho) := by kernel_rfl

theorem runnellaw4_X_fnH {Hin : List Ob} {r : AV} {Ho : List Ob} (h : runnellaw4_X Hin (fun v H' => Gives Hin.length v H' r Ho)) : Abs.Fn Try.prog runnellaw4_X_i Hin [] r Ho :=
  fn_intro mixed runnellaw4_X_ann (fn := Try.f22) (by kernel_rfl) (by kernel_rfl) (by rw [runnellaw4_X_eq]; exact h)

theorem runnellaw4_X_fn {r : AV} {Ho : List Ob} (h : runnellaw4_X [] (fun v H' => Gives 0 v H' r Ho)) : Abs.Fn Try.prog runnellaw4_X_i [] [] r Ho := runnellaw4_X_fnH (Hin := []) h

/- runnel/expr.Check -/
def expr_Check (x0 x1 : AV) (H : List Ob) (K : AV → List Ob → Prop) : Prop :=
  aBox x0 H fun v0 h1 =>
  aBox x1 h1 fun v2 h3 =>
  aAlloc [(.p (.int .i64 0)), (.full [])] h3 fun v4 h5 =>
  aLoad true 2 v2 h5 fun v6 =>
  aCall Try.prog (.p (.func typ_Check_i [])) [v6] h5 fun v7 h8 =>
  aBin false false .neq v7 (.p (.int .i64 0)) fun v9 =>
  aGuard v9
  (aBuild [(.p (.int .i64 0)), (.full [])] [] fun v10 =>
  aStore 2 v4 v10 h8 fun _ h12 =>
  aLoad true 2 v4 h12 fun v13 =>
  K (.tup [v13, (.p (.int .i64 5))]) h12)
  (aLoad true 8 v0 h8 fun v14 =>
  aCall Try.prog (.p (.func expr_Size_i [])) [v14] h8 fun v15 h16 =>
  aBin false false .gtr v15 (.p (.int .i64 256)) fun v17 =>
  aGuard v17
  (aBuild [(.p (.int .i64 0)), (.full [])] [] fun v18 =>
  aStore 2 v4 v18 h16 fun _ h20 =>
  aLoad true 2 v4 h20 fun v21 =>
  K (.tup [v21, (.p (.int .i64 10))]) h20)
  (aLoad true 8 v0 h16 fun v22 =>
  aLoad true 2 v2 h16 fun v23 =>
  aCall Try.prog (.p (.func expr_check_i [])) [v22, v23, (.p (.int .i64 0))] h16 fun v24 h25 =>
  aExtract v24 0 fun v26 =>
  aExtract v24 1 fun v27 =>
  aStore 2 v4 v26 h25 fun _ h29 =>
  aLoad true 2 v4 h29 fun v30 =>
  K (.tup [v30, v27]) h29))

def expr_Check_ann : Nat → List Nat := fun _ => []

theorem expr_Check_eq (x0 x1 : AV) (H : List Ob) (r : AV) (Ho : List Ob) : aBody Try.prog expr_Check_ann Try.f47 H [x0, x1] r Ho = expr_Check x0 x1 H (fun v H' => Gives H.length v H' r Ho) := by kernel_rfl

theorem expr_Check_fnH {x0 x1 : AV} {Hin : List Ob} {r : AV} {Ho : List Ob} (h : expr_Check x0 x1 Hin (fun v H' => Gives Hin.length v H' r Ho)) : Abs.Fn Try.prog expr_Check_i Hin [x0, x1] r Ho :=
  fn_intro mixed expr_Check_ann (fn := Try.f47) (by kernel_rfl) (by kernel_rfl) (by rw [expr_Check_eq]; exact h)

theorem expr_Check_fn {x0 x1 : AV} {r : AV} {Ho : List Ob} (h : expr_Check x0 x1 [] (fun v H' => Gives 0 v H' r Ho)) : Abs.Fn Try.prog expr_Check_i [] [x0, x1] r Ho := expr_Check_fnH (Hin := []) h

/- runnel/expr.Size -/
def expr_Size_L1 (q1s7 q1s8 y0 y1 : AV) (H : List Ob) (B1 : List AV → List Ob → Prop) (K : AV → List Ob → Prop) : Prop :=
  aBin false false .lss y1 q1s8 fun v5 =>
  aGuard v5
  (aIndexAddr 8 q1s7 y1 fun v6 =>
  aLoad true 8 v6 H fun v7 =>
  aAlloc [(.p (.str [])), (.p (.int .i64 0)), (.p (.int .i64 0)), (.p (.bool false)), (.p (.str [])), (.full []), (.p (.int .i64 0)), (.full [])] H fun v8 h9 =>
  aStore 8 v8 v7 h9 fun _ h11 =>
  aLoad true 8 v8 h11 fun v12 =>
  aCall Try.prog (.p (.func expr_Size_i [])) [v12] h11 fun v13 h14 =>
  aBin false false .add y0 v13 fun v15 =>
  aBin false false .add y1 (.p (.int .i64 1)) fun v16 =>
  B1 [v15, v16] h14)
  (K y0 H)

def expr_Size (x0 : AV) (H : List Ob) (K : AV → List Ob → Prop) : Prop :=
  aBox x0 H fun v0 h1 =>
  aFieldAddr 7 v0 fun v2 =>
  aLoad false 1 v2 h1 fun v3 =>
  aLen false false v3 fun v4 =>
  aLoopN 2 [(.p (.int .i64 1)), (.p (.int .i64 0))] h1 fun xs H B1 => expr_Size_L1 v3 v4 (xs.getD 0 .top) (xs.getD 1 .top) H B1 K

def expr_Size_ann : Nat → List Nat := fun k => match k with | 3 => [3, 9] | _ => []

theorem expr_Size_eq (x0 : AV) (H : List Ob) (r : AV) (Ho : List Ob) : aBody Try.prog expr_Size_ann Try.f77 H [x0] r Ho = expr_Size x0 H (fun v H' => Gives H.length v H' r Ho) := by kernel_rfl

theorem expr_Size_fnH {x0 : AV} {Hin : List Ob} {r : AV} {Ho : List Ob} (h : expr_Size x0 Hin (fun v H' => Gives Hin.length v H' r Ho)) : Abs.Fn Try.prog expr_Size_i Hin [x0] r Ho :=
  fn_intro mixed expr_Size_ann (fn := Try.f77) (by kernel_rfl) (by kernel_rfl) (by rw [expr_Size_eq]; exact h)

theorem expr_Size_fn {x0 : AV} {r : AV} {Ho : List Ob} (h : expr_Size x0 [] (fun v H' => Gives 0 v H' r Ho)) : Abs.Fn Try.prog expr_Size_i [] [x0] r Ho := expr_Size_fnH (Hin := []) h

/- runnel/expr.check -/
def expr_check_L1 (q1s2 q1s3 q1s4 q1s6 q1s8 q1s49 q1s50 y0 y1 : AV) (H : List Ob) (B1 : List AV → List Ob → Prop) (K : AV → List Ob → Prop) : Prop :=
  aBin false false .lss y1 q1s50 fun v19 =>
  aGuard v19
  (aIndexAddr 8 q1s49 y1 fun v20 =>
  aLoad true 8 v20 H fun v21 =>
  aAlloc [(.p (.str [])), (.p (.int .i64 0)), (.p (.int .i64 0)), (.p (.bool false)), (.p (.str [])), (.full []), (.p (.int .i64 0)), (.full [])] H fun v22 h23 =>
  aStore 8 v22 v21 h23 fun _ h25 =>
  aLoad true 8 v22 h25 fun v26 =>
  aLoad true 2 q1s4 h25 fun v27 =>
  aBin false false .add q1s2 (.p (.int .i64 1)) fun v28 =>
  aCall Try.prog (.p (.func expr_check_i [])) [v26, v27, v28] h25 fun v29 h30 =>
  aExtract v29 0 fun v31 =>
  aExtract v29 1 fun v32 =>
  aAlloc [(.p (.int .i64 0)), (.full [])] h30 fun v33 h34 =>
  aStore 2 v33 v31 h34 fun _ h36 =>
  aBin false false .neq v32 (.p (.int .i64 0)) fun v37 =>
  aGuard v37
  (aBuild [(.p (.int .i64 0)), (.full [])] [] fun v38 =>
  aStore 2 q1s6 v38 h36 fun _ h40 =>
  aLoad true 2 q1s6 h40 fun v41 =>
  K (.tup [v41, v32]) h40)
  (aLoad true 2 v33 h36 fun v42 =>
  aBuildSlice 2 [v42] fun v43 =>
  aAppend false 2 32 y0 v43 h36 fun v44 h45 =>
  aBin false false .add y1 (.p (.int .i64 1)) fun v46 =>
  B1 [v44, v46] h45))
  (aLoad true 5 q1s8 H fun v47 =>
  aCall Try.prog (.p (.func expr_fits_i [])) [v47, y0] H fun v48 h49 =>
  aUn .not v48 fun v50 =>
  aGuard v50
  (aBuild [(.p (.int .i64 0)), (.full [])] [] fun v51 =>
  aStore 2 q1s6 v51 h49 fun _ h53 =>
  aLoad true 2 q1s6 h53 fun v54 =>
  K (.tup [v54, (.p (.int .i64 5))]) h53)
  (aLoad true 8 q1s3 h49 fun v55 =>
  aLoad true 5 q1s8 h49 fun v56 =>
  aCallT Try.prog (.p (.func slices_Clip_typ_Type_typ_Type_i [])) [y0] fun v57 =>
  aLoad true 2 q1s4 h49 fun v58 =>
  aCallT Try.prog (.p (.func expr_Expr_comes_i [])) [v55, v56, v57, v58] fun v59 =>
  aExtract v59 0 fun v60 =>
  aExtract v59 1 fun v61 =>
  aStore 2 q1s6 v60 h49 fun _ h63 =>
  aLoad true 2 q1s6 h63 fun v64 =>
  K (.tup [v64, v61]) h63))

def expr_check_J1 (j1s2 j1s3 j1s4 j1s6 j1s8 : AV) (H : List Ob) (K : AV → List Ob → Prop) : Prop :=
  aFieldAddr 7 j1s3 fun v16 =>
  aLoad false 1 v16 H fun v17 =>
  aLen false false v17 fun v18 =>
  aLoopN 2 [(.full []), (.p (.int .i64 0))] H fun xs H B1 => expr_check_L1 j1s2 j1s3 j1s4 j1s6 j1s8 v17 v18 (xs.getD 0 .top) (xs.getD 1 .top) H B1 K

def expr_check (x0 x1 x2 : AV) (H : List Ob) (K : AV → List Ob → Prop) : Prop :=
  aBox x0 H fun v0 h1 =>
  aBox x1 h1 fun v2 h3 =>
  aAlloc [(.p (.int .i64 0)), (.full [])] h3 fun v4 h5 =>
  aAlloc [(.p (.int .i64 0)), (.p (.int .i64 0)), (.full []), (.p (.bool false)), (.p (.int .i64 0))] h5 fun v6 h7 =>
  aCallT Try.prog (.p (.func expr_shapes_i [])) [] fun v8 =>
  aFieldAddr 0 v0 fun v9 =>
  aLoad false 1 v9 h7 fun v10 =>
  aCallT Try.prog (.p (.func expr_find_string_expr_shape_i [])) [v8, v10] fun v11 =>
  aExtract v11 0 fun v12 =>
  aExtract v11 1 fun v13 =>
  aStore 5 v6 v12 h7 fun _ h15 =>
  aUn .not v13 fun v65 =>
  aGuard v65
  (aBuild [(.p (.int .i64 0)), (.full [])] [] fun v66 =>
  aStore 2 v4 v66 h15 fun _ h68 =>
  aLoad true 2 v4 h68 fun v69 =>
  K (.tup [v69, (.p (.int .i64 6))]) h68)
  (aBin false false .gtr x2 (.p (.int .i64 12)) fun v70 =>
  aGuard v70
  (aBuild [(.p (.int .i64 0)), (.full [])] [] fun v71 =>
  aStore 2 v4 v71 h15 fun _ h73 =>
  aLoad true 2 v4 h73 fun v74 =>
  K (.tup [v74, (.p (.int .i64 9))]) h73)
  (aLoad true 8 v0 h15 fun v75 =>
  aLoad true 5 v6 h15 fun v76 =>
  aCall Try.prog (.p (.func expr_Expr_fields_i [])) [v75, v76] h15 fun v77 h78 =>
  aUn .not v77 fun v79 =>
  aGuard v79
  (aBuild [(.p (.int .i64 0)), (.full [])] [] fun v80 =>
  aStore 2 v4 v80 h78 fun _ h82 =>
  aLoad true 2 v4 h82 fun v83 =>
  K (.tup [v83, (.p (.int .i64 1))]) h82)
  (aFieldAddr 0 v0 fun v84 =>
  aLoad false 1 v84 h78 fun v85 =>
  aBin false false .eql v85 (.p (.str [108, 105, 116])) fun v86 =>
  aGuard v86
  (aFieldAddr 1 v0 fun v87 =>
  aLoad true 5 v87 h78 fun v88 =>
  aCall Try.prog (.p (.func val_Check_i [])) [v88] h78 fun v89 h90 =>
  aBin false false .neq v89 (.p (.int .i64 0)) fun v91 =>
  aGuard v91
  (aBuild [(.p (.int .i64 0)), (.full [])] [] fun v92 =>
  aStore 2 v4 v92 h90 fun _ h94 =>
  aLoad true 2 v4 h94 fun v95 =>
  K (.tup [v95, v89]) h94)
  (expr_check_J1 x2 v0 v2 v4 v6 h90 K))
  (expr_check_J1 x2 v0 v2 v4 v6 h78 K))))

def expr_check_ann : Nat → List Nat := fun k => match k with | 14 => [11, 51] | _ => []

theorem expr_check_eq (x0 x1 x2 : AV) (H : List Ob) (r : AV) (Ho : List Ob) : aBody Try.prog expr_check_ann Try.f78 H [x0, x1, x2] r Ho = expr_check x0 x1 x2 H (fun v H' => Gives H.length v H' r Ho) := by kernel_rfl

theorem expr_check_fnH {x0 x1 x2 : AV} {Hin : List Ob} {r : AV} {Ho : List Ob} (h : expr_check x0 x1 x2 Hin (fun v H' => Gives Hin.length v H' r Ho)) : Abs.Fn Try.prog expr_check_i Hin [x0, x1, x2] r Ho :=
  fn_intro mixed expr_check_ann (fn := Try.f78) (by kernel_rfl) (by kernel_rfl) (by rw [expr_check_eq]; exact h)

theorem expr_check_fn {x0 x1 x2 : AV} {r : AV} {Ho : List Ob} (h : expr_check x0 x1 x2 [] (fun v H' => Gives 0 v H' r Ho)) : Abs.Fn Try.prog expr_check_i [] [x0, x1, x2] r Ho := expr_check_fnH (Hin := []) h

/- runnel/expr.find[string,runnel/expr.shape] -/
def expr_find_string_expr_shape_L1 (q1s1 q1s4 q1s9 q1s10 y0 : AV) (H : List Ob) (B1 : List AV → List Ob → Prop) (K : AV → List Ob → Prop) : Prop :=
  aBin false false .lss y0 q1s10 fun v3 =>
  aGuard v3
  (aIndexAddr 6 q1s9 y0 fun v4 =>
  aLoad true 6 v4 H fun v5 =>
  aAlloc [(.p (.str [])), (.p (.int .i64 0)), (.p (.int .i64 0)), (.full []), (.p (.bool false)), (.p (.int .i64 0))] H fun v6 h7 =>
  aStore 6 v6 v5 h7 fun _ h9 =>
  aFieldAddr 0 v6 fun v10 =>
  aLoad false 1 v10 h9 fun v11 =>
  aBin false false .eql v11 q1s1 fun v12 =>
  aGuard v12
  (aFieldAddr 1 v6 fun v13 =>
  aLoad true 5 v13 h9 fun v14 =>
  aStore 5 q1s4 v14 h9 fun _ h16 =>
  aLoad true 5 q1s4 h16 fun v17 =>
  K (.tup [v17, (.p (.bool true))]) h16)
  (aBin false false .add y0 (.p (.int .i64 1)) fun v18 =>
  B1 [v18] h9))
  (aAlloc [(.p (.int .i64 0)), (.p (.int .i64 0)), (.full []), (.p (.bool false)), (.p (.int .i64 0))] H fun v19 h20 =>
  aLoad true 5 v19 h20 fun v21 =>
  aStore 5 q1s4 v21 h20 fun _ h23 =>
  aLoad true 5 q1s4 h23 fun v24 =>
  K (.tup [v24, (.p (.bool false))]) h23)

def expr_find_string_expr_shape (x0 x1 : AV) (H : List Ob) (K : AV → List Ob → Prop) : Prop :=
  aAlloc [(.p (.int .i64 0)), (.p (.int .i64 0)), (.full []), (.p (.bool false)), (.p (.int .i64 0))] H fun v0 h1 =>
  aLen false false x0 fun v2 =>
  aLoopN 1 [(.p (.int .i64 0))] h1 fun xs H B1 => expr_find_string_expr_shape_L1 x1 v0 x0 v2 (xs.getD 0 .top) H B1 K

def expr_find_string_expr_shape_ann : Nat → List Nat := fun k => match k with | 2 => [11] | _ => []

theorem expr_find_string_expr_shape_eq (x0 x1 : AV) (H : List Ob) (r : AV) (Ho : List Ob) : aBody Try.prog expr_find_string_expr_shape_ann Try.f96 H [x0, x1] r Ho = expr_find_string_expr_shape x0 x1 H (fun v H' => Gives H.length v H' r Ho) := by kernel_rfl

theorem expr_find_string_expr_shape_fnH {x0 x1 : AV} {Hin : List Ob} {r : AV} {Ho : List Ob} (h : expr_find_string_expr_shape x0 x1 Hin (fun v H' => Gives Hin.length v H' r Ho)) : Abs.Fn Try.prog expr_find_string_expr_shape_i Hin [x0, x1] r Ho :=
  fn_intro mixed expr_find_string_expr_shape_ann (fn := Try.f96) (by kernel_rfl) (by kernel_rfl) (by rw [expr_find_string_expr_shape_eq]; exact h)

theorem expr_find_string_expr_shape_fn {x0 x1 : AV} {r : AV} {Ho : List Ob} (h : expr_find_string_expr_shape x0 x1 [] (fun v H' => Gives 0 v H' r Ho)) : Abs.Fn Try.prog expr_find_string_expr_shape_i [] [x0, x1] r Ho := expr_find_string_expr_shape_fnH (Hin := []) h

/- runnel/expr.shapes -/
def expr_shapes (H : List Ob) (K : AV → List Ob → Prop) : Prop :=
  aBuildSlice 1 [(.p (.int .i64 1)), (.p (.int .i64 1))] fun v0 =>
  aBuild [(.p (.int .i64 0)), (.p (.int .i64 0)), (.full []), (.p (.bool false)), (.p (.int .i64 0))] [(0, 1, (.p (.int .i64 2))), (1, 1, (.p (.int .i64 2))), (2, 1, v0), (3, 1, (.p (.bool false))), (4, 1, (.p (.int .i64 1)))] fun v1 =>
  aAlloc [(.p (.int .i64 0)), (.p (.int .i64 0)), (.full []), (.p (.bool false)), (.p (.int .i64 0))] H fun v2 h3 =>
  aStore 5 v2 v1 h3 fun _ h5 =>
  aBuildSlice 1 [(.p (.int .i64 0)), (.p (.int .i64 0))] fun v6 =>
  aBuild [(.p (.int .i64 0)), (.p (.int .i64 0)), (.full []), (.p (.bool false)), (.p (.int .i64 0))] [(0, 1, (.p (.int .i64 2))), (1, 1, (.p (.int .i64 2))), (2, 1, v6), (3, 1, (.p (.bool true))), (4, 1, (.p (.int .i64 2)))] fun v7 =>
  aAlloc [(.p (.int .i64 0)), (.p (.int .i64 0)), (.full []), (.p (.bool false)), (.p (.int .i64 0))] h5 fun v8 h9 =>
  aStore 5 v8 v7 h9 fun _ h11 =>
  aBuildSlice 1 [(.p (.int .i64 2)), (.p (.int .i64 2))] fun v12 =>
  aBuild [(.p (.int .i64 0)), (.p (.int .i64 0)), (.full []), (.p (.bool false)), (.p (.int .i64 0))] [(0, 1, (.p (.int .i64 2))), (1, 1, (.p (.int .i64 2))), (2, 1, v12), (3, 1, (.p (.bool false))), (4, 1, (.p (.int .i64 2)))] fun v13 =>
  aAlloc [(.p (.int .i64 0)), (.p (.int .i64 0)), (.full []), (.p (.bool false)), (.p (.int .i64 0))] h11 fun v14 h15 =>
  aStore 5 v14 v13 h15 fun _ h17 =>
  aBuild [(.p (.int .i64 0)), (.p (.int .i64 0)), (.full []), (.p (.bool false)), (.p (.int .i64 0))] [] fun v18 =>
  aBuild [(.p (.str [])), (.p (.int .i64 0)), (.p (.int .i64 0)), (.full []), (.p (.bool false)), (.p (.int .i64 0))] [(0, 1, (.p (.str [108, 105, 116]))), (1, 5, v18)] fun v19 =>
  aBuild [(.p (.int .i64 0)), (.p (.int .i64 0)), (.full []), (.p (.bool false)), (.p (.int .i64 0))] [] fun v20 =>
  aBuild [(.p (.str [])), (.p (.int .i64 0)), (.p (.int .i64 0)), (.full []), (.p (.bool false)), (.p (.int .i64 0))] [(0, 1, (.p (.str [120]))), (1, 5, v20)] fun v21 =>
  aBuildSlice 1 [(.p (.int .i64 4))] fun v22 =>
  aBuild [(.p (.int .i64 0)), (.p (.int .i64 0)), (.full []), (.p (.bool false)), (.p (.int .i64 0))] [(0, 1, (.p (.int .i64 1))), (1, 1, (.p (.int .i64 1))), (2, 1, v22), (3, 1, (.p (.bool false))), (4, 1, (.p (.int .i64 0)))] fun v23 =>
  aBuild [(.p (.str [])), (.p (.int .i64 0)), (.p (.int .i64 0)), (.full []), (.p (.bool false)), (.p (.int .i64 0))] [(0, 1, (.p (.str [97, 116]))), (1, 5, v23)] fun v24 =>
  aBuild [(.p (.int .i64 0)), (.p (.int .i64 0)), (.full []), (.p (.bool false)), (.p (.int .i64 0))] [(0, 1, (.p (.int .i64 1))), (1, 1, (.p (.int .i64 8))), (2, 1, (.full [])), (3, 1, (.p (.bool false))), (4, 1, (.p (.int .i64 4)))] fun v25 =>
  aBuild [(.p (.str [])), (.p (.int .i64 0)), (.p (.int .i64 0)), (.full []), (.p (.bool false)), (.p (.int .i64 0))] [(0, 1, (.p (.str [116, 117, 112]))), (1, 5, v25)] fun v26 =>
  aBuildSlice 1 [(.p (.int .i64 1))] fun v27 =>
  aBuild [(.p (.int .i64 0)), (.p (.int .i64 0)), (.full []), (.p (.bool false)), (.p (.int .i64 0))] [(0, 1, (.p (.int .i64 1))), (1, 1, (.p (.int .i64 1))), (2, 1, v27), (3, 1, (.p (.bool false))), (4, 1, (.p (.int .i64 1)))] fun v28 =>
  aBuild [(.p (.str [])), (.p (.int .i64 0)), (.p (.int .i64 0)), (.full []), (.p (.bool false)), (.p (.int .i64 0))] [(0, 1, (.p (.str [110, 101, 103]))), (1, 5, v28)] fun v29 =>
  aBuildSlice 1 [(.p (.int .i64 2))] fun v30 =>
  aBuild [(.p (.int .i64 0)), (.p (.int .i64 0)), (.full []), (.p (.bool false)), (.p (.int .i64 0))] [(0, 1, (.p (.int .i64 1))), (1, 1, (.p (.int .i64 1))), (2, 1, v30), (3, 1, (.p (.bool false))), (4, 1, (.p (.int .i64 2)))] fun v31 =>
  aBuild [(.p (.str [])), (.p (.int .i64 0)), (.p (.int .i64 0)), (.full []), (.p (.bool false)), (.p (.int .i64 0))] [(0, 1, (.p (.str [110, 111, 116]))), (1, 5, v31)] fun v32 =>
  aBuildSlice 1 [(.p (.int .i64 3))] fun v33 =>
  aBuild [(.p (.int .i64 0)), (.p (.int .i64 0)), (.full []), (.p (.bool false)), (.p (.int .i64 0))] [(0, 1, (.p (.int .i64 1))), (1, 1, (.p (.int .i64 1))), (2, 1, v33), (3, 1, (.p (.bool false))), (4, 1, (.p (.int .i64 1)))] fun v34 =>
  aBuild [(.p (.str [])), (.p (.int .i64 0)), (.p (.int .i64 0)), (.full []), (.p (.bool false)), (.p (.int .i64 0))] [(0, 1, (.p (.str [108, 101, 110]))), (1, 5, v34)] fun v35 =>
  aLoad true 5 v2 h17 fun v36 =>
  aBuild [(.p (.str [])), (.p (.int .i64 0)), (.p (.int .i64 0)), (.full []), (.p (.bool false)), (.p (.int .i64 0))] [(0, 1, (.p (.str [97, 100, 100]))), (1, 5, v36)] fun v37 =>
  aLoad true 5 v2 h17 fun v38 =>
  aBuild [(.p (.str [])), (.p (.int .i64 0)), (.p (.int .i64 0)), (.full []), (.p (.bool false)), (.p (.int .i64 0))] [(0, 1, (.p (.str [115, 117, 98]))), (1, 5, v38)] fun v39 =>
  aLoad true 5 v2 h17 fun v40 =>
  aBuild [(.p (.str [])), (.p (.int .i64 0)), (.p (.int .i64 0)), (.full []), (.p (.bool false)), (.p (.int .i64 0))] [(0, 1, (.p (.str [109, 117, 108]))), (1, 5, v40)] fun v41 =>
  aLoad true 5 v2 h17 fun v42 =>
  aBuild [(.p (.str [])), (.p (.int .i64 0)), (.p (.int .i64 0)), (.full []), (.p (.bool false)), (.p (.int .i64 0))] [(0, 1, (.p (.str [100, 105, 118]))), (1, 5, v42)] fun v43 =>
  aLoad true 5 v2 h17 fun v44 =>
  aBuild [(.p (.str [])), (.p (.int .i64 0)), (.p (.int .i64 0)), (.full []), (.p (.bool false)), (.p (.int .i64 0))] [(0, 1, (.p (.str [114, 101, 109]))), (1, 5, v44)] fun v45 =>
  aLoad true 5 v8 h17 fun v46 =>
  aBuild [(.p (.str [])), (.p (.int .i64 0)), (.p (.int .i64 0)), (.full []), (.p (.bool false)), (.p (.int .i64 0))] [(0, 1, (.p (.str [101, 113]))), (1, 5, v46)] fun v47 =>
  aLoad true 5 v8 h17 fun v48 =>
  aBuild [(.p (.str [])), (.p (.int .i64 0)), (.p (.int .i64 0)), (.full []), (.p (.bool false)), (.p (.int .i64 0))] [(0, 1, (.p (.str [108, 116]))), (1, 5, v48)] fun v49 =>
  aLoad true 5 v14 h17 fun v50 =>
  aBuild [(.p (.str [])), (.p (.int .i64 0)), (.p (.int .i64 0)), (.full []), (.p (.bool false)), (.p (.int .i64 0))] [(0, 1, (.p (.str [97, 110, 100]))), (1, 5, v50)] fun v51 =>
  aLoad true 5 v14 h17 fun v52 =>
  aBuild [(.p (.str [])), (.p (.int .i64 0)), (.p (.int .i64 0)), (.full []), (.p (.bool false)), (.p (.int .i64 0))] [(0, 1, (.p (.str [111, 114]))), (1, 5, v52)] fun v53 =>
  aBuildSlice 1 [(.p (.int .i64 3)), (.p (.int .i64 3))] fun v54 =>
  aBuild [(.p (.int .i64 0)), (.p (.int .i64 0)), (.full []), (.p (.bool false)), (.p (.int .i64 0))] [(0, 1, (.p (.int .i64 2))), (1, 1, (.p (.int .i64 2))), (2, 1, v54), (3, 1, (.p (.bool false))), (4, 1, (.p (.int .i64 3)))] fun v55 =>
  aBuild [(.p (.str [])), (.p (.int .i64 0)), (.p (.int .i64 0)), (.full []), (.p (.bool false)), (.p (.int .i64 0))] [(0, 1, (.p (.str [99, 97, 116]))), (1, 5, v55)] fun v56 =>
  aBuildSlice 1 [(.p (.int .i64 2)), (.p (.int .i64 0)), (.p (.int .i64 0))] fun v57 =>
  aBuild [(.p (.int .i64 0)), (.p (.int .i64 0)), (.full []), (.p (.bool false)), (.p (.int .i64 0))] [(0, 1, (.p (.int .i64 3))), (1, 1, (.p (.int .i64 3))), (2, 1, v57), (3, 1, (.p (.bool true))), (4, 1, (.p (.int .i64 0)))] fun v58 =>
  aBuild [(.p (.str [])), (.p (.int .i64 0)), (.p (.int .i64 0)), (.full []), (.p (.bool false)), (.p (.int .i64 0))] [(0, 1, (.p (.str [105, 102]))), (1, 5, v58)] fun v59 =>
  aBuildSlice 6 [v19, v21, v24, v26, v29, v32, v35, v37, v39, v41, v43, v45, v47, v49, v51, v53, v56, v59] fun v60 =>
  K v60 h17

def expr_shapes_ann : Nat → List Nat := fun _ => []

theorem expr_shapes_eq (H : List Ob) (r : AV) (Ho : List Ob) : aBody Try.prog expr_shapes_ann Try.f97 H [] r Ho = expr_shapes H (fun v H' => Gives H.length v H' r Ho) := by kernel_rfl

theorem expr_shapes_fnH {Hin : List Ob} {r : AV} {Ho : List Ob} (h : expr_shapes Hin (fun v H' => Gives Hin.length v H' r Ho)) : Abs.Fn Try.prog expr_shapes_i Hin [] r Ho :=
  fn_intro mixed expr_shapes_ann (fn := Try.f97) (by kernel_rfl) (by kernel_rfl) (by rw [expr_shapes_eq]; exact h)

theorem expr_shapes_fn {r : AV} {Ho : List Ob} (h : expr_shapes [] (fun v H' => Gives 0 v H' r Ho)) : Abs.Fn Try.prog expr_shapes_i [] [] r Ho := expr_shapes_fnH (Hin := []) h

/- (runnel/expr.Expr).fields -/
def expr_Expr_fields (x0 x1 : AV) (H : List Ob) (K : AV → List Ob → Prop) : Prop :=
  aBox x0 H fun v0 h1 =>
  aBox x1 h1 fun v2 h3 =>
  aFieldAddr 7 v0 fun v4 =>
  aLoad false 1 v4 h3 fun v5 =>
  aLen false false v5 fun v6 =>
  aFieldAddr 0 v2 fun v7 =>
  aLoad false 1 v7 h3 fun v8 =>
  aBin false false .geq v6 v8 fun v9 =>
  aMerge true v9 (fun Q10 =>
  aFieldAddr 7 v0 fun v11 =>
  aLoad false 1 v11 h3 fun v12 =>
  aLenS false v12 fun v13 =>
  aFieldAddr 1 v2 fun v14 =>
  aLoad false 1 v14 h3 fun v15 =>
  aBin false false .leq v13 v15 fun v16 =>
  (h3 = h3 ∧ Q10 v16)) fun v17 =>
  aMerge true v17 (fun Q18 =>
  aFieldAddr 0 v0 fun v19 =>
  aLoad false 1 v19 h3 fun v20 =>
  aBin false false .eql v20 (.p (.str [108, 105, 116])) fun v21 =>
  aMerge false v21 (fun Q22 =>
  aFieldAddr 1 v0 fun v23 =>
  aLoad true 5 v23 h3 fun v24 =>
  aCall Try.prog (.p (.func expr_none_i [])) [v24] h3 fun v25 h26 =>
  (h26 = h3 ∧ Q22 v25)) fun v27 =>
  (h3 = h3 ∧ Q18 v27)) fun v28 =>
  aMerge true v28 (fun Q29 =>
  aFieldAddr 0 v0 fun v30 =>
  aLoad false 1 v30 h3 fun v31 =>
  aBin false false .eql v31 (.p (.str [97, 116])) fun v32 =>
  aMerge false v32 (fun Q33 =>
  aFieldAddr 6 v0 fun v34 =>
  aLoad false 1 v34 h3 fun v35 =>
  aBin false false .eql v35 (.p (.int .i64 0)) fun v36 =>
  (h3 = h3 ∧ Q33 v36)) fun v37 =>
  (h3 = h3 ∧ Q29 v37)) fun v38 =>
  K v38 h3

def expr_Expr_fields_ann : Nat → List Nat := fun _ => []

theorem expr_Expr_fields_eq (x0 x1 : AV) (H : List Ob) (r : AV) (Ho : List Ob) : aBody Try.prog expr_Expr_fields_ann Try.f98 H [x0, x1] r Ho = expr_Expr_fields x0 x1 H (fun v H' => Gives H.length v H' r Ho) := by kernel_rfl

theorem expr_Expr_fields_fnH {x0 x1 : AV} {Hin : List Ob} {r : AV} {Ho : List Ob} (h : expr_Expr_fields x0 x1 Hin (fun v H' => Gives Hin.length v H' r Ho)) : Abs.Fn Try.prog expr_Expr_fields_i Hin [x0, x1] r Ho :=
  fn_intro mixed expr_Expr_fields_ann (fn := Try.f98) (by kernel_rfl) (by kernel_rfl) (by rw [expr_Expr_fields_eq]; exact h)

theorem expr_Expr_fields_fn {x0 x1 : AV} {r : AV} {Ho : List Ob} (h : expr_Expr_fields x0 x1 [] (fun v H' => Gives 0 v H' r Ho)) : Abs.Fn Try.prog expr_Expr_fields_i [] [x0, x1] r Ho := expr_Expr_fields_fnH (Hin := []) h

/- runnel/expr.fits -/
def expr_fits_L1 (q1s1 q1s2 q1s8 q1s9 y0 : AV) (H : List Ob) (B1 : List AV → List Ob → Prop) (K : AV → List Ob → Prop) : Prop :=
  aBin false false .lss y0 q1s9 fun v5 =>
  aGuard v5
  (aIndexAddr 1 q1s8 y0 fun v6 =>
  aLoad false 1 v6 H fun v7 =>
  aBin false false .neq v7 (.p (.int .i64 0)) fun v8 =>
  aMerge true v8 (fun Q9 =>
  aIndexAddr 2 q1s1 y0 fun v10 =>
  aFieldAddr 0 v10 fun v11 =>
  aLoad false 1 v11 H fun v12 =>
  aBin false false .neq v12 v7 fun v13 =>
  (H = H ∧ Q9 v13)) fun v14 =>
  aGuard v14
  (K (.p (.bool false)) H)
  (aBin false false .add y0 (.p (.int .i64 1)) fun v15 =>
  B1 [v15] H))
  (aFieldAddr 3 q1s2 fun v16 =>
  aLoad false 1 v16 H fun v17 =>
  aUn .not v17 fun v18 =>
  aGuard v18
  (K (.p (.bool true)) H)
  (aLen true false q1s1 fun v19 =>
  aBin false false .sub v19 (.p (.int .i64 1)) fun v20 =>
  aIndexAddr 2 q1s1 v20 fun v21 =>
  aLoad true 2 v21 H fun v22 =>
  aLen true false q1s1 fun v23 =>
  aBin false false .sub v23 (.p (.int .i64 2)) fun v24 =>
  aIndexAddr 2 q1s1 v24 fun v25 =>
  aLoad true 2 v25 H fun v26 =>
  aCallT Try.prog (.p (.func typ_Same_i [])) [v22, v26] fun v27 =>
  K v27 H))

def expr_fits (x0 x1 : AV) (H : List Ob) (K : AV → List Ob → Prop) : Prop :=
  aBox x0 H fun v0 h1 =>
  aFieldAddr 2 v0 fun v2 =>
  aLoad false 1 v2 h1 fun v3 =>
  aLen false false v3 fun v4 =>
  aLoopN 1 [(.p (.int .i64 0))] h1 fun xs H B1 => expr_fits_L1 x1 v0 v3 v4 (xs.getD 0 .top) H B1 K

def expr_fits_ann : Nat → List Nat := fun k => match k with | 2 => [10] | _ => []

theorem expr_fits_eq (x0 x1 : AV) (H : List Ob) (r : AV) (Ho : List Ob) : aBody Try.prog expr_fits_ann Try.f100 H [x0, x1] r Ho = expr_fits x0 x1 H (fun v H' => Gives H.length v H' r Ho) := by kernel_rfl

theorem expr_fits_fnH {x0 x1 : AV} {Hin : List Ob} {r : AV} {Ho : List Ob} (h : expr_fits x0 x1 Hin (fun v H' => Gives Hin.length v H' r Ho)) : Abs.Fn Try.prog expr_fits_i Hin [x0, x1] r Ho :=
  fn_intro mixed expr_fits_ann (fn := Try.f100) (by kernel_rfl) (by kernel_rfl) (by rw [expr_fits_eq]; exact h)

theorem expr_fits_fn {x0 x1 : AV} {r : AV} {Ho : List Ob} (h : expr_fits x0 x1 [] (fun v H' => Gives 0 v H' r Ho)) : Abs.Fn Try.prog expr_fits_i [] [x0, x1] r Ho := expr_fits_fnH (Hin := []) h

/- (runnel/expr.Expr).comes -/
def expr_Expr_comes (x0 x1 x2 x3 : AV) (H : List Ob) (K : AV → List Ob → Prop) : Prop :=
  aBox x0 H fun v0 h1 =>
  aBox x1 h1 fun v2 h3 =>
  aBox x3 h3 fun v4 h5 =>
  aAlloc [(.p (.int .i64 0)), (.full [])] h5 fun v6 h7 =>
  aFieldAddr 0 v0 fun v8 =>
  aLoad false 1 v8 h7 fun v9 =>
  aBin false false .eql v9 (.p (.str [108, 105, 116])) fun v10 =>
  aGuard v10
  (aFieldAddr 1 v0 fun v11 =>
  aLoad true 5 v11 h7 fun v12 =>
  aCall Try.prog (.p (.func val_TypeOf_i [])) [v12] h7 fun v13 h14 =>
  aStore 2 v6 v13 h14 fun _ h16 =>
  aLoad true 2 v6 h16 fun v17 =>
  K (.tup [v17, (.p (.int .i64 0))]) h16)
  (aBin false false .eql v9 (.p (.str [120])) fun v18 =>
  aGuard v18
  (aLoad true 2 v4 h7 fun v19 =>
  aStore 2 v6 v19 h7 fun _ h21 =>
  aLoad true 2 v6 h21 fun v22 =>
  K (.tup [v22, (.p (.int .i64 0))]) h21)
  (aBin false false .eql v9 (.p (.str [97, 116])) fun v23 =>
  aGuard v23
  (aFieldAddr 6 v0 fun v24 =>
  aLoad false 1 v24 h7 fun v25 =>
  aBin false false .lss v25 (.p (.int .i64 0)) fun v26 =>
  aGuard v26
  (aBuild [(.p (.int .i64 0)), (.full [])] [] fun v27 =>
  aStore 2 v6 v27 h7 fun _ h29 =>
  aLoad true 2 v6 h29 fun v30 =>
  K (.tup [v30, (.p (.int .i64 1))]) h29)
  (aFieldAddr 6 v0 fun v31 =>
  aLoad false 1 v31 h7 fun v32 =>
  aIndexAddr 2 x2 (.p (.int .i64 0)) fun v33 =>
  aFieldAddr 1 v33 fun v34 =>
  aLoad false 1 v34 h7 fun v35 =>
  aLen true false v35 fun v36 =>
  aBin false false .geq v32 v36 fun v37 =>
  aGuard v37
  (aBuild [(.p (.int .i64 0)), (.full [])] [] fun v38 =>
  aStore 2 v6 v38 h7 fun _ h40 =>
  aLoad true 2 v6 h40 fun v41 =>
  K (.tup [v41, (.p (.int .i64 1))]) h40)
  (aIndexAddr 2 x2 (.p (.int .i64 0)) fun v42 =>
  aFieldAddr 1 v42 fun v43 =>
  aLoad false 1 v43 h7 fun v44 =>
  aFieldAddr 6 v0 fun v45 =>
  aLoad false 1 v45 h7 fun v46 =>
  aIndexAddr 2 v44 v46 fun v47 =>
  aLoad true 2 v47 h7 fun v48 =>
  aStore 2 v6 v48 h7 fun _ h50 =>
  aLoad true 2 v6 h50 fun v51 =>
  K (.tup [v51, (.p (.int .i64 0))]) h50)))
  (aBin false false .eql v9 (.p (.str [116, 117, 112])) fun v52 =>
  aGuard v52
  (aBuild [(.p (.int .i64 0)), (.full [])] [(0, 1, (.p (.int .i64 4))), (1, 1, x2)] fun v53 =>
  aAlloc [(.p (.int .i64 0)), (.full [])] h7 fun v54 h55 =>
  aStore 2 v54 v53 h55 fun _ h57 =>
  aLoad true 2 v54 h57 fun v58 =>
  aCall Try.prog (.p (.func typ_Check_i [])) [v58] h57 fun v59 h60 =>
  aBin false false .neq v59 (.p (.int .i64 0)) fun v61 =>
  aGuard v61
  (aBuild [(.p (.int .i64 0)), (.full [])] [] fun v62 =>
  aStore 2 v6 v62 h60 fun _ h64 =>
  aLoad true 2 v6 h64 fun v65 =>
  K (.tup [v65, v59]) h64)
  (aLoad true 2 v54 h60 fun v66 =>
  aStore 2 v6 v66 h60 fun _ h68 =>
  aLoad true 2 v6 h68 fun v69 =>
  K (.tup [v69, (.p (.int .i64 0))]) h68))
  (aBin false false .eql v9 (.p (.str [105, 102])) fun v70 =>
  aGuard v70
  (aIndexAddr 2 x2 (.p (.int .i64 1)) fun v71 =>
  aLoad true 2 v71 h7 fun v72 =>
  aStore 2 v6 v72 h7 fun _ h74 =>
  aLoad true 2 v6 h74 fun v75 =>
  K (.tup [v75, (.p (.int .i64 0))]) h74)
  (aFieldAddr 4 v2 fun v76 =>
  aLoad false 1 v76 h7 fun v77 =>
  aBuild [(.p (.int .i64 0)), (.full [])] [(0, 1, v77)] fun v78 =>
  aStore 2 v6 v78 h7 fun _ h80 =>
  aLoad true 2 v6 h80 fun v81 =>
  K (.tup [v81, (.p (.int .i64 0))]) h80)))))

def expr_Expr_comes_ann : Nat → List Nat := fun _ => []

theorem expr_Expr_comes_eq (x0 x1 x2 x3 : AV) (H : List Ob) (r : AV) (Ho : List Ob) : aBody Try.prog expr_Expr_comes_ann Try.f101 H [x0, x1, x2, x3] r Ho = expr_Expr_comes x0 x1 x2 x3 H (fun v H' => Gives H.length v H' r Ho) := by kernel_rfl

theorem expr_Expr_comes_fnH {x0 x1 x2 x3 : AV} {Hin : List Ob} {r : AV} {Ho : List Ob} (h : expr_Expr_comes x0 x1 x2 x3 Hin (fun v H' => Gives Hin.length v H' r Ho)) : Abs.Fn Try.prog expr_Expr_comes_i Hin [x0, x1, x2, x3] r Ho :=
  fn_intro mixed expr_Expr_comes_ann (fn := Try.f101) (by kernel_rfl) (by kernel_rfl) (by rw [expr_Expr_comes_eq]; exact h)

theorem expr_Expr_comes_fn {x0 x1 x2 x3 : AV} {r : AV} {Ho : List Ob} (h : expr_Expr_comes x0 x1 x2 x3 [] (fun v H' => Gives 0 v H' r Ho)) : Abs.Fn Try.prog expr_Expr_comes_i [] [x0, x1, x2, x3] r Ho := expr_Expr_comes_fnH (Hin := []) h

/- runnel/expr.none -/
def expr_none (x0 : AV) (H : List Ob) (K : AV → List Ob → Prop) : Prop :=
  aBox x0 H fun v0 h1 =>
  aLoad true 5 v0 h1 fun v2 =>
  aBuild [(.p (.int .i64 0)), (.p (.int .i64 0)), (.p (.bool false)), (.p (.str [])), (.full [])] [] fun v3 =>
  aCall Try.prog (.p (.func val_Same_i [])) [v2, v3] h1 fun v4 h5 =>
  K v4 h5

def expr_none_ann : Nat → List Nat := fun _ => []

theorem expr_none_eq (x0 : AV) (H : List Ob) (r : AV) (Ho : List Ob) : aBody Try.prog expr_none_ann Try.f122 H [x0] r Ho = expr_none x0 H (fun v H' => Gives H.length v H' r Ho) := by kernel_rfl

theorem expr_none_fnH {x0 : AV} {Hin : List Ob} {r : AV} {Ho : List Ob} (h : expr_none x0 Hin (fun v H' => Gives Hin.length v H' r Ho)) : Abs.Fn Try.prog expr_none_i Hin [x0] r Ho :=
  fn_intro mixed expr_none_ann (fn := Try.f122) (by kernel_rfl) (by kernel_rfl) (by rw [expr_none_eq]; exact h)

theorem expr_none_fn {x0 : AV} {r : AV} {Ho : List Ob} (h : expr_none x0 [] (fun v H' => Gives 0 v H' r Ho)) : Abs.Fn Try.prog expr_none_i [] [x0] r Ho := expr_none_fnH (Hin := []) h

end Go.Proofs.Ytklnalofcjagnaa
end

section
/- Made by program (Gen.lean): functions of the dump, over trees. -/
set_option maxRecDepth 4000
set_option linter.unusedVariables false
namespace Go.Proofs.Ytklnalofcjagnaa
open Go Go.Abs

/- runnel/runnellaw3.WireValues -/
def runnellaw3_WireValues (x0 x1 : AV) (H : List Ob) (K : AV → List Ob → Prop) : Prop :=
  aBox x0 H fun v0 h1 =>
  aCall Try.prog (.p (.func runnellaw3_known_i [])) [] h1 fun v2 h3 =>
  aUn .not v2 fun v4 =>
  aGuard v4
  (K (.p (.bool false)) h3)
  (aLoad true 5 v0 h3 fun v5 =>
  aCall Try.prog (.p (.func runnellaw2_Good_i [])) [v5] h3 fun v6 h7 =>
  aUn .not v6 fun v8 =>
  aMerge false v8 (fun Q9 =>
  aLenS false x1 fun v10 =>
  aBin false false .gtr v10 (.p (.int .i64 50)) fun v11 =>
  (h7 = h7 ∧ Q9 v11)) fun v12 =>
  aGuard v12
  (K (.p (.bool true)) h7)
  ((aBuildSlice 1 [] fun v13 =>
  (aAppend false 1 1 v13 x1 h7 fun v14 h15 =>
  aLoad true 5 v0 h15 fun v16 =>
  aCall Try.prog (.p (.func wire_Put_i [])) [v14, v16] h15 fun v17 h18 =>
  (aBuildSlice 1 [] fun v19 =>
  (aAppend false 1 1 v19 x1 h18 fun v20 h21 =>
  aLoad true 5 v0 h21 fun v22 =>
  aCall Try.prog (.p (.func runnellaw2_Of_i [])) [v22] h21 fun v23 h24 =>
  aCall Try.prog (.p (.func runnelref6_Put_i [])) [v20, v23] h24 fun v25 h26 =>
  aBytesStr v17 fun v27 =>
  aBytesStr v25 fun v28 =>
  aBin false false .neq v27 v28 fun v29 =>
  aGuard v29
  (K (.p (.bool false)) h26)
  (aBuildSlice 1 [] fun v30 =>
  aLen false false x1 fun v31 =>
  aSlice false 1 v17 (some v31) none none fun v32 =>
  aAppend false 1 1 v30 v32 h26 fun v33 h34 =>
  aAppend false 1 1 v33 x1 h34 fun v35 h36 =>
  aCall Try.prog (.p (.func wire_Get_i [])) [v35] h36 fun v37 h38 =>
  aExtract v37 0 fun v39 =>
  aExtract v37 1 fun v40 =>
  aExtract v37 2 fun v41 =>
  aAlloc [(.p (.int .i64 0)), (.p (.int .i64 0)), (.p (.bool false)), (.p (.str [])), (.full [])] h38 fun v42 h43 =>
  aStore 5 v42 v39 h43 fun _ h45 =>
  aBin false false .eql v41 (.p (.int .i64 0)) fun v46 =>
  aMerge true v46 (fun Q47 =>
  aLoad true 5 v42 h45 fun v48 =>
  aLoad true 5 v0 h45 fun v49 =>
  aCall Try.prog (.p (.func val_Same_i [])) [v48, v49] h45 fun v50 h51 =>
  (h51 = h45 ∧ Q47 v50)) fun v52 =>
  aMerge true v52 (fun Q53 =>
  aLenS false v17 fun v54 =>
  aLenS false x1 fun v55 =>
  aBin false false .sub v54 v55 fun v56 =>
  aBin false false .eql v40 v56 fun v57 =>
  (h45 = h45 ∧ Q53 v57)) fun v58 =>
  K v58 h45)) ∧
  (aLoad true 5 v0 h18 fun v59 =>
  aAppend false 1 1 v19 x1 h18 fun v60 h61 =>
  aCall Try.prog (.p (.func runnellaw2_Of_i [])) [v59] h61 fun v62 h63 =>
  aCall Try.prog (.p (.func runnelref6_Put_i [])) [v60, v62] h63 fun v64 h65 =>
  aBytesStr v17 fun v66 =>
  aBytesStr v64 fun v67 =>
  aBin false false .neq v66 v67 fun v68 =>
  aGuard v68
  (K (.p (.bool false)) h65)
  (aBuildSlice 1 [] fun v69 =>
  aLen false false x1 fun v70 =>
  aSlice false 1 v17 (some v70) none none fun v71 =>
  aAppend false 1 1 v69 v71 h65 fun v72 h73 =>
  aAppend false 1 1 v72 x1 h73 fun v74 h75 =>
  aCall Try.prog (.p (.func wire_Get_i [])) [v74] h75 fun v76 h77 =>
  aExtract v76 0 fun v78 =>
  aExtract v76 1 fun v79 =>
  aExtract v76 2 fun v80 =>
  aAlloc [(.p (.int .i64 0)), (.p (.int .i64 0)), (.p (.bool false)), (.p (.str [])), (.full [])] h77 fun v81 h82 =>
  aStore 5 v81 v78 h82 fun _ h84 =>
  aBin false false .eql v80 (.p (.int .i64 0)) fun v85 =>
  aMerge true v85 (fun Q86 =>
  aLoad true 5 v81 h84 fun v87 =>
  aLoad true 5 v0 h84 fun v88 =>
  aCall Try.prog (.p (.func val_Same_i [])) [v87, v88] h84 fun v89 h90 =>
  (h90 = h84 ∧ Q86 v89)) fun v91 =>
  aMerge true v91 (fun Q92 =>
  aLenS false v17 fun v93 =>
  aLenS false x1 fun v94 =>
  aBin false false .sub v93 v94 fun v95 =>
  aBin false false .eql v79 v95 fun v96 =>
  (h84 = h84 ∧ Q92 v96)) fun v97 =>
  K v97 h84))) ∧
  (aLoad true 5 v0 h18 fun v98 =>
  aBuildSlice 1 [] fun v99 =>
  aAppend false 1 1 v99 x1 h18 fun v100 h101 =>
  aCall Try.prog (.p (.func runnellaw2_Of_i [])) [v98] h101 fun v102 h103 =>
  aCall Try.prog (.p (.func runnelref6_Put_i [])) [v100, v102] h103 fun v104 h105 =>
  aBytesStr v17 fun v106 =>
  aBytesStr v104 fun v107 =>
  aBin false false .neq v106 v107 fun v108 =>
  aGuard v108
  (K (.p (.bool false)) h105)
  (aBuildSlice 1 [] fun v109 =>
  aLen false false x1 fun v110 =>
  aSlice false 1 v17 (some v110) none none fun v111 =>
  aAppend false 1 1 v109 v111 h105 fun v112 h113 =>
  aAppend false 1 1 v112 x1 h113 fun v114 h115 =>
  aCall Try.prog (.p (.func wire_Get_i [])) [v114] h115 fun v116 h117 =>
  aExtract v116 0 fun v118 =>
  aExtract v116 1 fun v119 =>
  aExtract v116 2 fun v120 =>
  aAlloc [(.p (.int .i64 0)), (.p (.int .i64 0)), (.p (.bool false)), (.p (.str [])), (.full [])] h117 fun v121 h122 =>
  aStore 5 v121 v118 h122 fun _ h124 =>
  aBin false false .eql v120 (.p (.int .i64 0)) fun v125 =>
  aMerge true v125 (fun Q126 =>
  aLoad true 5 v121 h124 fun v127 =>
  aLoad true 5 v0 h124 fun v128 =>
  aCall Try.prog (.p (.func val_Same_i [])) [v127, v128] h124 fun v129 h130 =>
  (h130 = h124 ∧ Q126 v129)) fun v131 =>
  aMerge true v131 (fun Q132 =>
  aLenS false v17 fun v133 =>
  aLenS false x1 fun v134 =>
  aBin false false .sub v133 v134 fun v135 =>
  aBin false false .eql v119 v135 fun v136 =>
  (h124 = h124 ∧ Q132 v136)) fun v137 =>
  K v137 h124))) ∧
  (aLoad true 5 v0 h7 fun v138 =>
  aAppend false 1 1 v13 x1 h7 fun v139 h140 =>
  aCall Try.prog (.p (.func wire_Put_i [])) [v139, v138] h140 fun v141 h142 =>
  (aBuildSlice 1 [] fun v143 =>
  (aAppend false 1 1 v143 x1 h142 fun v144 h145 =>
  aLoad true 5 v0 h145 fun v146 =>
  aCall Try.prog (.p (.func runnellaw2_Of_i [])) [v146] h145 fun v147 h148 =>
  aCall Try.prog (.p (.func runnelref6_Put_i [])) [v144, v147] h148 fun v149 h150 =>
  aBytesStr v141 fun v151 =>
  aBytesStr v149 fun v152 =>
  aBin false false .neq v151 v152 fun v153 =>
  aGuard v153
  (K (.p (.bool false)) h150)
  (aBuildSlice 1 [] fun v154 =>
  aLen false false x1 fun v155 =>
  aSlice false 1 v141 (some v155) none none fun v156 =>
  aAppend false 1 1 v154 v156 h150 fun v157 h158 =>
  aAppend false 1 1 v157 x1 h158 fun v159 h160 =>
  aCall Try.prog (.p (.func wire_Get_i [])) [v159] h160 fun v161 h162 =>
  aExtract v161 0 fun v163 =>
  aExtract v161 1 fun v164 =>
  aExtract v161 2 fun v165 =>
  aAlloc [(.p (.int .i64 0)), (.p (.int .i64 0)), (.p (.bool false)), (.p (.str [])), (.full [])] h162 fun v166 h167 =>
  aStore 5 v166 v163 h167 fun _ h169 =>
  aBin false false .eql v165 (.p (.int .i64 0)) fun v170 =>
  aMerge true v170 (fun Q171 =>
  aLoad true 5 v166 h169 fun v172 =>
  aLoad true 5 v0 h169 fun v173 =>
  aCall Try.prog (.p (.func val_Same_i [])) [v172, v173] h169 fun v174 h175 =>
  (h175 = h169 ∧ Q171 v174)) fun v176 =>
  aMerge true v176 (fun Q177 =>
  aLenS false v141 fun v178 =>
  aLenS false x1 fun v179 =>
  aBin false false .sub v178 v179 fun v180 =>
  aBin false false .eql v164 v180 fun v181 =>
  (h169 = h169 ∧ Q177 v181)) fun v182 =>
  K v182 h169)) ∧
  (aLoad true 5 v0 h142 fun v183 =>
  aAppend false 1 1 v143 x1 h142 fun v184 h185 =>
  aCall Try.prog (.p (.func runnellaw2_Of_i [])) [v183] h185 fun v186 h187 =>
  aCall Try.prog (.p (.func runnelref6_Put_i [])) [v184, v186] h187 fun v188 h189 =>
  aBytesStr v141 fun v190 =>
  aBytesStr v188 fun v191 =>
  aBin false false .neq v190 v191 fun v192 =>
  aGuard v192
  (K (.p (.bool false)) h189)
  (aBuildSlice 1 [] fun v193 =>
  aLen false false x1 fun v194 =>
  aSlice false 1 v141 (some v194) none none fun v195 =>
  aAppend false 1 1 v193 v195 h189 fun v196 h197 =>
  aAppend false 1 1 v196 x1 h197 fun v198 h199 =>
  aCall Try.prog (.p (.func wire_Get_i [])) [v198] h199 fun v200 h201 =>
  aExtract v200 0 fun v202 =>
  aExtract v200 1 fun v203 =>
  aExtract v200 2 fun v204 =>
  aAlloc [(.p (.int .i64 0)), (.p (.int .i64 0)), (.p (.bool false)), (.p (.str [])), (.full [])] h201 fun v205 h206 =>
  aStore 5 v205 v202 h206 fun _ h208 =>
  aBin false false .eql v204 (.p (.int .i64 0)) fun v209 =>
  aMerge true v209 (fun Q210 =>
  aLoad true 5 v205 h208 fun v211 =>
  aLoad true 5 v0 h208 fun v212 =>
  aCall Try.prog (.p (.func val_Same_i [])) [v211, v212] h208 fun v213 h214 =>
  (h214 = h208 ∧ Q210 v213)) fun v215 =>
  aMerge true v215 (fun Q216 =>
  aLenS false v141 fun v217 =>
  aLenS false x1 fun v218 =>
  aBin false false .sub v217 v218 fun v219 =>
  aBin false false .eql v203 v219 fun v220 =>
  (h208 = h208 ∧ Q216 v220)) fun v221 =>
  K v221 h208))) ∧
  (aLoad true 5 v0 h142 fun v222 =>
  aBuildSlice 1 [] fun v223 =>
  aAppend false 1 1 v223 x1 h142 fun v224 h225 =>
  aCall Try.prog (.p (.func runnellaw2_Of_i [])) [v222] h225 fun v226 h227 =>
  aCall Try.prog (.p (.func runnelref6_Put_i [])) [v224, v226] h227 fun v228 h229 =>
  aBytesStr v141 fun v230 =>
  aBytesStr v228 fun v231 =>
  aBin false false .neq v230 v231 fun v232 =>
  aGuard v232
  (K (.p (.bool false)) h229)
  (aBuildSlice 1 [] fun v233 =>
  aLen false false x1 fun v234 =>
  aSlice false 1 v141 (some v234) none none fun v235 =>
  aAppend false 1 1 v233 v235 h229 fun v236 h237 =>
  aAppend false 1 1 v236 x1 h237 fun v238 h239 =>
  aCall Try.prog (.p (.func wire_Get_i [])) [v238] h239 fun v240 h241 =>
  aExtract v240 0 fun v242 =>
  aExtract v240 1 fun v243 =>
  aExtract v240 2 fun v244 =>
  aAlloc [(.p (.int .i64 0)), (.p (.int .i64 0)), (.p (.bool false)), (.p (.str [])), (.full [])] h241 fun v245 h246 =>
  aStore 5 v245 v242 h246 fun _ h248 =>
  aBin false false .eql v244 (.p (.int .i64 0)) fun v249 =>
  aMerge true v249 (fun Q250 =>
  aLoad true 5 v245 h248 fun v251 =>
  aLoad true 5 v0 h248 fun v252 =>
  aCall Try.prog (.p (.func val_Same_i [])) [v251, v252] h248 fun v253 h254 =>
  (h254 = h248 ∧ Q250 v253)) fun v255 =>
  aMerge true v255 (fun Q256 =>
  aLenS false v141 fun v257 =>
  aLenS false x1 fun v258 =>
  aBin false false .sub v257 v258 fun v259 =>
  aBin false false .eql v243 v259 fun v260 =>
  (h248 = h248 ∧ Q256 v260)) fun v261 =>
  K v261 h248)))) ∧
  (aLoad true 5 v0 h7 fun v262 =>
  aBuildSlice 1 [] fun v263 =>
  aAppend false 1 1 v263 x1 h7 fun v264 h265 =>
  aCall Try.prog (.p (.func wire_Put_i [])) [v264, v262] h265 fun v266 h267 =>
  (aBuildSlice 1 [] fun v268 =>
  (aAppend false 1 1 v268 x1 h267 fun v269 h270 =>
  aLoad true 5 v0 h270 fun v271 =>
  aCall Try.prog (.p (.func runnellaw2_Of_i [])) [v271] h270 fun v272 h273 =>
  aCall Try.prog (.p (.func runnelref6_Put_i [])) [v269, v272] h273 fun v274 h275 =>
  aBytesStr v266 fun v276 =>
  aBytesStr v274 fun v277 =>
  aBin false false .neq v276 v277 fun v278 =>
  aGuard v278
  (K (.p (.bool false)) h275)
  (aBuildSlice 1 [] fun v279 =>
  aLen false false x1 fun v280 =>
  aSlice false 1 v266 (some v280) none none fun v281 =>
  aAppend false 1 1 v279 v281 h275 fun v282 h283 =>
  aAppend false 1 1 v282 x1 h283 fun v284 h285 =>
  aCall Try.prog (.p (.func wire_Get_i [])) [v284] h285 fun v286 h287 =>
  aExtract v286 0 fun v288 =>
  aExtract v286 1 fun v289 =>
  aExtract v286 2 fun v290 =>
  aAlloc [(.p (.int .i64 0)), (.p (.int .i64 0)), (.p (.bool false)), (.p (.str [])), (.full [])] h287 fun v291 h292 =>
  aStore 5 v291 v288 h292 fun _ h294 =>
  aBin false false .eql v290 (.p (.int .i64 0)) fun v295 =>
  aMerge true v295 (fun Q296 =>
  aLoad true 5 v291 h294 fun v297 =>
  aLoad true 5 v0 h294 fun v298 =>
  aCall Try.prog (.p (.func val_Same_i [])) [v297, v298] h294 fun v299 h300 =>
  (h300 = h294 ∧ Q296 v299)) fun v301 =>
  aMerge true v301 (fun Q302 =>
  aLenS false v266 fun v303 =>
  aLenS false x1 fun v304 =>
  aBin false false .sub v303 v304 fun v305 =>
  aBin false false .eql v289 v305 fun v306 =>
  (h294 = h294 ∧ Q302 v306)) fun v307 =>
  K v307 h294)) ∧
  (aLoad true 5 v0 h267 fun v308 =>
  aAppend false 1 1 v268 x1 h267 fun v309 h310 =>
  aCall Try.prog (.p (.func runnellaw2_Of_i [])) [v308] h310 fun v311 h312 =>
  aCall Try.prog (.p (.func runnelref6_Put_i [])) [v309, v311] h312 fun v313 h314 =>
  aBytesStr v266 fun v315 =>
  aBytesStr v313 fun v316 =>
  aBin false false .neq v315 v316 fun v317 =>
  aGuard v317
  (K (.p (.bool false)) h314)
  (aBuildSlice 1 [] fun v318 =>
  aLen false false x1 fun v319 =>
  aSlice false 1 v266 (some v319) none none fun v320 =>
  aAppend false 1 1 v318 v320 h314 fun v321 h322 =>
  aAppend false 1 1 v321 x1 h322 fun v323 h324 =>
  aCall Try.prog (.p (.func wire_Get_i [])) [v323] h324 fun v325 h326 =>
  aExtract v325 0 fun v327 =>
  aExtract v325 1 fun v328 =>
  aExtract v325 2 fun v329 =>
  aAlloc [(.p (.int .i64 0)), (.p (.int .i64 0)), (.p (.bool false)), (.p (.str [])), (.full [])] h326 fun v330 h331 =>
  aStore 5 v330 v327 h331 fun _ h333 =>
  aBin false false .eql v329 (.p (.int .i64 0)) fun v334 =>
  aMerge true v334 (fun Q335 =>
  aLoad true 5 v330 h333 fun v336 =>
  aLoad true 5 v0 h333 fun v337 =>
  aCall Try.prog (.p (.func val_Same_i [])) [v336, v337] h333 fun v338 h339 =>
  (h339 = h333 ∧ Q335 v338)) fun v340 =>
  aMerge true v340 (fun Q341 =>
  aLenS false v266 fun v342 =>
  aLenS false x1 fun v343 =>
  aBin false false .sub v342 v343 fun v344 =>
  aBin false false .eql v328 v344 fun v345 =>
  (h333 = h333 ∧ Q341 v345)) fun v346 =>
  K v346 h333))) ∧
  (aLoad true 5 v0 h267 fun v347 =>
  aBuildSlice 1 [] fun v348 =>
  aAppend false 1 1 v348 x1 h267 fun v349 h350 =>
  aCall Try.prog (.p (.func runnellaw2_Of_i [])) [v347] h350 fun v351 h352 =>
  aCall Try.prog (.p (.func runnelref6_Put_i [])) [v349, v351] h352 fun v353 h354 =>
  aBytesStr v266 fun v355 =>
  aBytesStr v353 fun v356 =>
  aBin false false .neq v355 v356 fun v357 =>
  aGuard v357
  (K (.p (.bool false)) h354)
  (aBuildSlice 1 [] fun v358 =>
  aLen false false x1 fun v359 =>
  aSlice false 1 v266 (some v359) none none fun v360 =>
  aAppend false 1 1 v358 v360 h354 fun v361 h362 =>
  aAppend false 1 1 v361 x1 h362 fun v363 h364 =>
  aCall Try.prog (.p (.func wire_Get_i [])) [v363] h364 fun v365 h366 =>
  aExtract v365 0 fun v367 =>
  aExtract v365 1 fun v368 =>
  aExtract v365 2 fun v369 =>
  aAlloc [(.p (.int .i64 0)), (.p (.int .i64 0)), (.p (.bool false)), (.p (.str [])), (.full [])] h366 fun v370 h371 =>
  aStore 5 v370 v367 h371 fun _ h373 =>
  aBin false false .eql v369 (.p (.int .i64 0)) fun v374 =>
  aMerge true v374 (fun Q375 =>
  aLoad true 5 v370 h373 fun v376 =>
  aLoad true 5 v0 h373 fun v377 =>
  aCall Try.prog (.p (.func val_Same_i [])) [v376, v377] h373 fun v378 h379 =>
  (h379 = h373 ∧ Q375 v378)) fun v380 =>
  aMerge true v380 (fun Q381 =>
  aLenS false v266 fun v382 =>
  aLenS false x1 fun v383 =>
  aBin false false .sub v382 v383 fun v384 =>
  aBin false false .eql v368 v384 fun v385 =>
  (h373 = h373 ∧ Q381 v385)) fun v386 =>
  K v386 h373)))))

def runnellaw3_WireValues_ann : Nat → List Nat := fun k => match k with | 3000005 => [1000] | 3000006 => [1000] | _ => []

theorem runnellaw3_WireValues_eq (x0 x1 : AV) (H : List Ob) (r : AV) (Ho : List Ob) : aBody Try.prog runnellaw3_WireValues_ann Try.f3 H [x0, x1] r Ho = runnellaw3_WireValues x0 x1 H (fun v H' => Gives H.length v H' r Ho) := by kernel_rfl

theorem runnellaw3_WireValues_fnH {x0 x1 : AV} {Hin : List Ob} {r : AV} {Ho : List Ob} (h : runnellaw3_WireValues x0 x1 Hin (fun v H' => Gives Hin.length v H' r Ho)) : Abs.Fn Try.prog runnellaw3_WireValues_i Hin [x0, x1] r Ho :=
  fn_intro mixed runnellaw3_WireValues_ann (fn := Try.f3) (by kernel_rfl) (by kernel_rfl) (by rw [runnellaw3_WireValues_eq]; exact h)

theorem runnellaw3_WireValues_fn {x0 x1 : AV} {r : AV} {Ho : List Ob} (h : runnellaw3_WireValues x0 x1 [] (fun v H' => Gives 0 v H' r Ho)) : Abs.Fn Try.prog runnellaw3_WireValues_i [] [x0, x1] r Ho := runnellaw3_WireValues_fnH (Hin := []) h

/- runnel/runnellaw3.WireApart -/
def runnellaw3_WireApart (x0 x1 : AV) (H : List Ob) (K : AV → List Ob → Prop) : Prop :=
  aBox x0 H fun v0 h1 =>
  aBox x1 h1 fun v2 h3 =>
  aCall Try.prog (.p (.func runnellaw3_known_i [])) [] h3 fun v4 h5 =>
  aUn .not v4 fun v6 =>
  aGuard v6
  (K (.p (.bool false)) h5)
  (aLoad true 5 v0 h5 fun v7 =>
  aCall Try.prog (.p (.func runnellaw2_Good_i [])) [v7] h5 fun v8 h9 =>
  aUn .not v8 fun v10 =>
  aMerge false v10 (fun Q11 =>
  aLoad true 5 v2 h9 fun v12 =>
  aCall Try.prog (.p (.func runnellaw2_Good_i [])) [v12] h9 fun v13 h14 =>
  aUn .not v13 fun v15 =>
  (h14 = h9 ∧ Q11 v15)) fun v16 =>
  aGuard v16
  (K (.p (.bool true)) h9)
  (aLoad true 5 v0 h9 fun v17 =>
  aCall Try.prog (.p (.func wire_Put_i [])) [(.full []), v17] h9 fun v18 h19 =>
  aLoad true 5 v2 h19 fun v20 =>
  aCall Try.prog (.p (.func wire_Put_i [])) [(.full []), v20] h19 fun v21 h22 =>
  aLoad true 5 v0 h22 fun v23 =>
  aCallT Try.prog (.p (.func runnellaw2_Of_i [])) [v23] fun v24 =>
  aLoad true 5 v2 h22 fun v25 =>
  aCallT Try.prog (.p (.func runnellaw2_Of_i [])) [v25] fun v26 =>
  aCallT Try.prog (.p (.func runnelref6_Same_i [])) [v24, v26] fun v27 =>
  aLen false false v18 fun v28 =>
  aBin false false .eql v28 (.p (.int .i64 0)) fun v29 =>
  aMerge false v29 (fun Q30 =>
  aLenS false v21 fun v31 =>
  aBin false false .eql v31 (.p (.int .i64 0)) fun v32 =>
  (h22 = h22 ∧ Q30 v32)) fun v33 =>
  aGuard v33
  (K (.p (.bool false)) h22)
  (aLen true false v18 fun v34 =>
  aLen true false v21 fun v35 =>
  aBin false false .leq v34 v35 fun v36 =>
  aGuard v36
  (aLen true false v18 fun v37 =>
  aSlice false 1 v21 none (some v37) none fun v38 =>
  aBytesStr v38 fun v39 =>
  aBytesStr v18 fun v40 =>
  aBin false false .eql v39 v40 fun v41 =>
  aBin true false .eql v41 v27 fun v42 =>
  aMerge true v42 (fun Q43 =>
  aBytesStr v18 fun v44 =>
  aBytesStr v21 fun v45 =>
  aBin false false .eql v44 v45 fun v46 =>
  aBin true false .eql v46 v27 fun v47 =>
  (h22 = h22 ∧ Q43 v47)) fun v48 =>
  K v48 h22)
  (aBin true false .eql (.p (.bool false)) v27 fun v49 =>
  aMerge true v49 (fun Q50 =>
  aBytesStr v18 fun v51 =>
  aBytesStr v21 fun v52 =>
  aBin false false .eql v51 v52 fun v53 =>
  aBin true false .eql v53 v27 fun v54 =>
  (h22 = h22 ∧ Q50 v54)) fun v55 =>
  K v55 h22))))

def runnellaw3_WireApart_ann : Nat → List Nat := fun _ => []

theorem runnellaw3_WireApart_eq (x0 x1 : AV) (H : List Ob) (r : AV) (Ho : List Ob) : aBody Try.prog runnellaw3_WireApart_ann Try.f4 H [x0, x1] r Ho = runnellaw3_WireApart x0 x1 H (fun v H' => Gives H.length v H' r Ho) := by kernel_rfl

theorem runnellaw3_WireApart_fnH {x0 x1 : AV} {Hin : List Ob} {r : AV} {Ho : List Ob} (h : runnellaw3_WireApart x0 x1 Hin (fun v H' => Gives Hin.length v H' r Ho)) : Abs.Fn Try.prog runnellaw3_WireApart_i Hin [x0, x1] r Ho :=
  fn_intro mixed runnellaw3_WireApart_ann (fn := Try.f4) (by kernel_rfl) (by kernel_rfl) (by rw [runnellaw3_WireApart_eq]; exact h)

theorem runnellaw3_WireApart_fn {x0 x1 : AV} {r : AV} {Ho : List Ob} (h : runnellaw3_WireApart x0 x1 [] (fun v H' => Gives 0 v H' r Ho)) : Abs.Fn Try.prog runnellaw3_WireApart_i [] [x0, x1] r Ho := runnellaw3_WireApart_fnH (Hin := []) h

/- runnel/runnellaw3.WireCut -/
def runnellaw3_WireCut (x0 x1 : AV) (H : List Ob) (K : AV → List Ob → Prop) : Prop :=
  aBox x0 H fun v0 h1 =>
  aCall Try.prog (.p (.func runnellaw3_known_i [])) [] h1 fun v2 h3 =>
  aUn .not v2 fun v4 =>
  aGuard v4
  (K (.p (.bool false)) h3)
  (aLoad true 5 v0 h3 fun v5 =>
  aCall Try.prog (.p (.func runnellaw2_Good_i [])) [v5] h3 fun v6 h7 =>
  aUn .not v6 fun v8 =>
  aGuard v8
  (K (.p (.bool true)) h7)
  (aLoad true 5 v0 h7 fun v9 =>
  aCall Try.prog (.p (.func wire_Put_i [])) [(.full []), v9] h7 fun v10 h11 =>
  aLen false false v10 fun v12 =>
  aBin false false .eql v12 (.p (.int .i64 0)) fun v13 =>
  aGuard v13
  (K (.p (.bool false)) h11)
  (aConvInt .i64 x1 fun v14 =>
  aLen false false v10 fun v15 =>
  aBin false false .rem v14 v15 fun v16 =>
  aSlice false 1 v10 none (some v16) none fun v17 =>
  aCall Try.prog (.p (.func wire_Get_i [])) [v17] h11 fun v18 h19 =>
  aExtract v18 0 fun v20 =>
  aExtract v18 1 fun v21 =>
  aExtract v18 2 fun v22 =>
  aAlloc [(.p (.int .i64 0)), (.p (.int .i64 0)), (.p (.bool false)), (.p (.str [])), (.full [])] h19 fun v23 h24 =>
  aStore 5 v23 v20 h24 fun _ h26 =>
  aBin false false .eql v22 (.p (.int .i64 3)) fun v27 =>
  aMerge true v27 (fun Q28 =>
  aBin false false .eql v21 (.p (.int .i64 0)) fun v29 =>
  (h26 = h26 ∧ Q28 v29)) fun v30 =>
  K v30 h26)))

def runnellaw3_WireCut_ann : Nat → List Nat := fun _ => []

theorem runnellaw3_WireCut_eq (x0 x1 : AV) (H : List Ob) (r : AV) (Ho : List Ob) : aBody Try.prog runnellaw3_WireCut_ann Try.f5 H [x0, x1] r Ho = runnellaw3_WireCut x0 x1 H (fun v H' => Gives H.length v H' r Ho) := by kernel_rfl

theorem runnellaw3_WireCut_fnH {x0 x1 : AV} {Hin : List Ob} {r : AV} {Ho : List Ob} (h : runnellaw3_WireCut x0 x1 Hin (fun v H' => Gives Hin.length v H' r Ho)) : Abs.Fn Try.prog runnellaw3_WireCut_i Hin [x0, x1] r Ho :=
  fn_intro mixed runnellaw3_WireCut_ann (fn := Try.f5) (by kernel_rfl) (by kernel_rfl) (by rw [runnellaw3_WireCut_eq]; exact h)

theorem runnellaw3_WireCut_fn {x0 x1 : AV} {r : AV} {Ho : List Ob} (h : runnellaw3_WireCut x0 x1 [] (fun v H' => Gives 0 v H' r Ho)) : Abs.Fn Try.prog runnellaw3_WireCut_i [] [x0, x1] r Ho := runnellaw3_WireCut_fnH (Hin := []) h

/- runnel/runnellaw3.WireSizes -/
def runnellaw3_WireSizes_L1 (q1s0 q1s3 y0 y1 : AV) (H : List Ob) (B1 : List AV → List Ob → Prop) (K : AV → List Ob → Prop) : Prop :=
  aBin false false .gtr y1 (.p (.int .u64 0)) fun v6 =>
  aGuard v6
  (aBin false false .add y0 (.p (.int .i64 1)) fun v7 =>
  aBin false false .shr y1 (.p (.int .u64 7)) fun v8 =>
  B1 [v7, v8] H)
  (aCall Try.prog (.p (.func val_Int_i [])) [q1s0] H fun v9 h10 =>
  aCall Try.prog (.p (.func wire_Put_i [])) [(.full []), v9] h10 fun v11 h12 =>
  aCall Try.prog (.p (.func wire_PutNum_i [])) [(.full []), q1s3] h12 fun v13 h14 =>
  aLen true false v11 fun v15 =>
  aBin false false .add y0 (.p (.int .i64 1)) fun v16 =>
  aBin false false .eql v15 v16 fun v17 =>
  aGuard v17
  (aLen true false v13 fun v18 =>
  aBin false false .eql v18 y0 fun v19 =>
  aGuard v19
  (aIndexAddr 1 v11 (.p (.int .i64 0)) fun v20 =>
  aLoad false 1 v20 h14 fun v21 =>
  aBin false false .eql v21 (.p (.int .u8 1)) fun v22 =>
  aGuard v22
  (aSlice false 1 v11 (some (.p (.int .i64 1))) none none fun v23 =>
  aBytesStr v23 fun v24 =>
  aBytesStr v13 fun v25 =>
  aBin false false .eql v24 v25 fun v26 =>
  K v26 h14)
  (K (.p (.bool false)) h14))
  (K (.p (.bool false)) h14))
  (K (.p (.bool false)) h14))

def runnellaw3_WireSizes_J1 (j1s0 j1s3 : AV) (H : List Ob) (K : AV → List Ob → Prop) : Prop :=
  aBin false false .shr j1s3 (.p (.int .u64 7)) fun v5 =>
  aLoopN 2 [(.p (.int .i64 1)), v5] H fun xs H B1 => runnellaw3_WireSizes_L1 j1s0 j1s3 (xs.getD 0 .top) (xs.getD 1 .top) H B1 K

def runnellaw3_WireSizes (x0 : AV) (H : List Ob) (K : AV → List Ob → Prop) : Prop :=
  aCall Try.prog (.p (.func runnellaw3_known_i [])) [] H fun v0 h1 =>
  aUn .not v0 fun v2 =>
  aGuard v2
  (K (.p (.bool false)) h1)
  (aConvInt .u64 x0 fun v3 =>
  aBin false false .shl v3 (.p (.int .u64 1)) fun v4 =>
  aBin false false .lss x0 (.p (.int .i64 0)) fun v27 =>
  aGuard v27
  (aUn .xor v4 fun v28 =>
  runnellaw3_WireSizes_J1 x0 v28 h1 K)
  (runnellaw3_WireSizes_J1 x0 v4 h1 K))

def runnellaw3_WireSizes_ann : Nat → List Nat := fun k => match k with | 8 => [4, 5] | _ => []

theorem runnellaw3_WireSizes_eq (x0 : AV) (H : List Ob) (r : AV) (Ho : List Ob) : aBody Try.prog runnellaw3_WireSizes_ann Try.f6 H [x0] r Ho = runnellaw3_WireSizes x0 H (fun v H' => Gives H.length v H' r Ho) := by kernel_rfl

theorem runnellaw3_WireSizes_fnH {x0 : AV} {Hin : List Ob} {r : AV} {Ho : List Ob} (h : runnellaw3_WireSizes x0 Hin (fun v H' => Gives Hin.length v H' r Ho)) : Abs.Fn Try.prog runnellaw3_WireSizes_i Hin [x0] r Ho :=
  fn_intro mixed runnellaw3_WireSizes_ann (fn := Try.f6) (by kernel_rfl) (by kernel_rfl) (by rw [runnellaw3_WireSizes_eq]; exact h)

theorem runnellaw3_WireSizes_fn {x0 : AV} {r : AV} {Ho : List Ob} (h : runnellaw3_WireSizes x0 [] (fun v H' => Gives 0 v H' r Ho)) : Abs.Fn Try.prog runnellaw3_WireSizes_i [] [x0] r Ho := runnellaw3_WireSizes_fnH (Hin := []) h

/- runnel/runnellaw3.known -/
def runnellaw3_known (H : List Ob) (K : AV → List Ob → Prop) : Prop :=
  aCall Try.prog (.p (.func wire_PutNum_i [])) [(.full []), (.p (.int .u64 300))] H fun v0 h1 =>
  aCall Try.prog (.p (.func wire_Num_i [])) [v0] h1 fun v2 h3 =>
  aExtract v2 0 fun v4 =>
  aExtract v2 1 fun v5 =>
  aExtract v2 2 fun v6 =>
  aCall Try.prog (.p (.func val_Int_i [])) [(.p (.int .i64 (-3)))] h3 fun v7 h8 =>
  aCall Try.prog (.p (.func val_Str_i [])) [(.p (.str [97, 98]))] h8 fun v9 h10 =>
  aBuildSlice 5 [v7, v9] fun v11 =>
  aCall Try.prog (.p (.func val_Tup_i [])) [v11] h10 fun v12 h13 =>
  aAlloc [(.p (.int .i64 0)), (.p (.int .i64 0)), (.p (.bool false)), (.p (.str [])), (.full [])] h13 fun v14 h15 =>
  aStore 5 v14 v12 h15 fun _ h17 =>
  aLoad true 5 v14 h17 fun v18 =>
  aCall Try.prog (.p (.func wire_Put_i [])) [(.full []), v18] h17 fun v19 h20 =>
  aCall Try.prog (.p (.func wire_Get_i [])) [v19] h20 fun v21 h22 =>
  aExtract v21 0 fun v23 =>
  aExtract v21 1 fun v24 =>
  aExtract v21 2 fun v25 =>
  aAlloc [(.p (.int .i64 0)), (.p (.int .i64 0)), (.p (.bool false)), (.p (.str [])), (.full [])] h22 fun v26 h27 =>
  aStore 5 v26 v23 h27 fun _ h29 =>
  aCall Try.prog (.p (.func wire_Get_i [])) [(.full [])] h29 fun v30 h31 =>
  aExtract v30 0 fun v32 =>
  aExtract v30 1 fun _ =>
  aExtract v30 2 fun v34 =>
  aAlloc [(.p (.int .i64 0)), (.p (.int .i64 0)), (.p (.bool false)), (.p (.str [])), (.full [])] h31 fun v35 h36 =>
  aStore 5 v35 v32 h36 fun _ h38 =>
  aBuildSlice 1 [(.p (.int .u8 128)), (.p (.int .u8 0))] fun v39 =>
  aCall Try.prog (.p (.func wire_Num_i [])) [v39] h38 fun v40 h41 =>
  aExtract v40 0 fun _ =>
  aExtract v40 1 fun _ =>
  aExtract v40 2 fun v44 =>
  aCall Try.prog (.p (.func wire_PutText_i [])) [(.full []), (.p (.str [120, 121]))] h41 fun v45 h46 =>
  aCall Try.prog (.p (.func wire_Text_i [])) [v45] h46 fun v47 h48 =>
  aExtract v47 0 fun v49 =>
  aExtract v47 1 fun v50 =>
  aExtract v47 2 fun v51 =>
  aBin false false .add v6 v25 fun v52 =>
  aBin false false .add v52 v51 fun v53 =>
  aBin false false .eql v53 (.p (.int .i64 0)) fun v54 =>
  aMerge true v54 (fun Q55 =>
  aBin false false .eql v4 (.p (.int .u64 300)) fun v56 =>
  (h48 = h48 ∧ Q55 v56)) fun v57 =>
  aMerge true v57 (fun Q58 =>
  aBin false false .eql v5 (.p (.int .i64 2)) fun v59 =>
  (h48 = h48 ∧ Q58 v59)) fun v60 =>
  aMerge true v60 (fun Q61 =>
  aLoad true 5 v14 h48 fun v62 =>
  aLoad true 5 v26 h48 fun v63 =>
  aCall Try.prog (.p (.func val_Same_i [])) [v62, v63] h48 fun v64 h65 =>
  (h65 = h48 ∧ Q61 v64)) fun v66 =>
  aMerge true v66 (fun Q67 =>
  aLenS false v19 fun v68 =>
  aBin false false .eql v24 v68 fun v69 =>
  (h48 = h48 ∧ Q67 v69)) fun v70 =>
  aMerge true v70 (fun Q71 =>
  aBin false false .eql v24 (.p (.int .i64 8)) fun v72 =>
  (h48 = h48 ∧ Q71 v72)) fun v73 =>
  aMerge true v73 (fun Q74 =>
  aBin false false .eql v34 (.p (.int .i64 3)) fun v75 =>
  (h48 = h48 ∧ Q74 v75)) fun v76 =>
  aMerge true v76 (fun Q77 =>
  aBin false false .eql v44 (.p (.int .i64 2)) fun v78 =>
  (h48 = h48 ∧ Q77 v78)) fun v79 =>
  aMerge true v79 (fun Q80 =>
  aBin false false .eql v49 (.p (.str [120, 121])) fun v81 =>
  (h48 = h48 ∧ Q80 v81)) fun v82 =>
  aMerge true v82 (fun Q83 =>
  aBin false false .eql v50 (.p (.int .i64 3)) fun v84 =>
  (h48 = h48 ∧ Q83 v84)) fun v85 =>
  K v85 h48

def runnellaw3_known_ann : Nat → List Nat := fun _ => []

theorem runnellaw3_known_eq (H : List Ob) (r : AV) (Ho : List Ob) : aBody Try.prog runnellaw3_known_ann Try.f9 H [] r Ho = runnellaw3_known H (fun v H' => Gives H.length v H' r Ho) := by kernel_rfl

theorem runnellaw3_known_fnH {Hin : List Ob} {r : AV} {Ho : List Ob} (h : runnellaw3_known Hin (fun v H' => Gives Hin.length v H' r Ho)) : Abs.Fn Try.prog runnellaw3_known_i Hin [] r Ho :=
  fn_intro mixed runnellaw3_known_ann (fn := Try.f9) (by kernel_rfl) (by kernel_rfl) (by rw [runnellaw3_known_eq]; exact h)

theorem runnellaw3_known_fn {r : AV} {Ho : List Ob} (h : runnellaw3_known [] (fun v H' => Gives 0 v H' r Ho)) : Abs.Fn Try.prog runnellaw3_known_i [] [] r Ho := runnellaw3_known_fnH (Hin := []) h

end Go.Proofs.Ytklnalofcjagnaa
end
