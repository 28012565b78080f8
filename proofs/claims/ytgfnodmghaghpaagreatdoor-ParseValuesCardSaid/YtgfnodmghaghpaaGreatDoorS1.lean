/- Made by program (Gen.lean): the functions' numbers. -/
import Derived.Test.YtgfnodmghaghpaaGreatDoorProg
import Derived.KernelRfl
import Derived.Test.YtgfnodmghaghpaaGreatDoorA3

section
/- Made by program (Gen.lean): the functions' numbers. -/
namespace Go.Proofs.YtgfnodmghaghpaaGreatDoor
open Go Go.Abs

theorem mixed : Tryz.prog.follows .mixedOrders = true := by kernel_rfl

abbrev main_main_i : Nat := 0
abbrev gosem_cut_i : Nat := 1
abbrev gosem_cut_init_i : Nat := 2
abbrev runnellaw13_VerGen_i : Nat := 3
abbrev runnellaw5_ParseBack_i : Nat := 4
abbrev runnellaw5_ParseValues_i : Nat := 5
abbrev runnellaw13_known_i : Nat := 6
abbrev runnellaw7_Few_i : Nat := 7
abbrev runnellaw1_Few_i : Nat := 8
abbrev runnellaw7_Of_i : Nat := 9
abbrev runnelref10_Out_i : Nat := 10
abbrev runnellaw1_Of_i : Nat := 11
abbrev ver_Check_i : Nat := 12
abbrev runnellaw11_To_i : Nat := 13
abbrev runnelref14_Gen_i : Nat := 14
abbrev runnelref6_SameType_i : Nat := 15
abbrev runnellaw5_known_i : Nat := 16
abbrev runnellaw4_Few_i : Nat := 17
abbrev runnellaw4_Of_i : Nat := 18
abbrev runnellaw5_right_i : Nat := 19
abbrev parse_Text_i : Nat := 20
abbrev parse_Parse_i : Nat := 21
abbrev runnelref6_ExprText_i : Nat := 22
abbrev runnellaw5_SameExpr_i : Nat := 23
abbrev runnellaw5_valGood_i : Nat := 24
abbrev val_Text_i : Nat := 25
abbrev val_Same_i : Nat := 26
abbrev val_Int_i : Nat := 27
abbrev runnellaw1_budget_i : Nat := 28
abbrev runnelref10_Good_i : Nat := 29
abbrev runnelref10_fields_i : Nat := 30
abbrev runnelref10_ins_i : Nat := 31
abbrev runnelref6_CheckType_i : Nat := 32
abbrev runnelref10_Keyed_i : Nat := 33
abbrev runnelref6_CheckExpr_i : Nat := 34
abbrev runnelref10_made_i : Nat := 35
abbrev code_Check_i : Nat := 36
abbrev typ_Check_i : Nat := 37
abbrev ver_checker_place_i : Nat := 38
abbrev runnellaw2_To_i : Nat := 39
abbrev runnelref14_GenExpr_i : Nat := 40
abbrev runnelref14_one_i : Nat := 41
abbrev runnelref14_join_i : Nat := 42
abbrev runnellaw4_budget_i : Nat := 43
abbrev runnellaw2_Of_i : Nat := 44
abbrev runnelref6_TypeOf_i : Nat := 45
abbrev runnelref6_Plain_i : Nat := 46
abbrev strconv_Itoa_i : Nat := 47
abbrev strings_Join_i : Nat := 48
abbrev parse_reader_expr_i : Nat := 49
abbrev parse_reader_fail_i : Nat := 50
abbrev runnelref6_ValueText_i : Nat := 51
abbrev runnelref6_Decimal_i : Nat := 52
abbrev runnelref6_Same_i : Nat := 53
abbrev val_Check_i : Nat := 54
abbrev strconv_FormatInt_i : Nat := 55
abbrev strconv_FormatBool_i : Nat := 56
abbrev val_quote_i : Nat := 57
abbrev val_Compare_i : Nat := 58
abbrev runnelref10_bare_i : Nat := 59
abbrev runnelref6_checkType_i : Nat := 60
abbrev runnelref6_Size_i : Nat := 61
abbrev runnelref6_check_i : Nat := 62
abbrev code_Inst_check_i : Nat := 63
abbrev typ_check_i : Nat := 64
abbrev ver_Stack_typ_Type_Twin_i : Nat := 65
abbrev ver_Stack_typ_Type_Pop_i : Nat := 66
abbrev ver_arity_i : Nat := 67
abbrev ver_checker_comes_i : Nat := 68
abbrev ver_Stack_typ_Type_Push_i : Nat := 69
abbrev ver_Stack_typ_Type_Len_i : Nat := 70
abbrev ver_checker_leads_i : Nat := 71
abbrev runnelref14_choose_i : Nat := 72
abbrev runnelref14_yes_i : Nat := 73
abbrev runnelref14_moved_i : Nat := 74
abbrev runnellaw2_Few_i : Nat := 75
abbrev internal_strconv_Itoa_i : Nat := 76
abbrev strings_Builder_Grow_i : Nat := 77
abbrev strings_Builder_WriteString_i : Nat := 78
abbrev strings_Builder_String_i : Nat := 79
abbrev parse_reader_takes_i : Nat := 80
abbrev parse_reader_bare_i : Nat := 81
abbrev parse_reader_op_i : Nat := 82
abbrev parse_reader_lit_i : Nat := 83
abbrev parse_reader_must_i : Nat := 84
abbrev runnelref6_plain_i : Nat := 85
abbrev runnelref6_Compare_i : Nat := 86
abbrev val_check_i : Nat := 87
abbrev internal_strconv_FormatInt_i : Nat := 88
abbrev internal_strconv_FormatBool_i : Nat := 89
abbrev cmp_Or_int_i : Nat := 90
abbrev cmp_Compare_int_i : Nat := 91
abbrev cmp_Compare_int64_i : Nat := 92
abbrev val_truth_i : Nat := 93
abbrev strings_Compare_i : Nat := 94
abbrev val_rows_val_Value_i : Nat := 95
abbrev runnelref6_Arity_i : Nat := 96
abbrev runnelref6_nought_i : Nat := 97
abbrev runnelref6_CheckValue_i : Nat := 98
abbrev runnelref6_OpType_i : Nat := 99
abbrev code_ops_i : Nat := 100
abbrev code_place_code_form_i : Nat := 101
abbrev code_Inst_right_i : Nat := 102
abbrev typ_Row_i : Nat := 103
abbrev typ_each_typ_Type_i : Nat := 104
abbrev typ_check_1_i : Nat := 105
abbrev slices_Clone_typ_Type_typ_Type_i : Nat := 106
abbrev val_TypeOf_i : Nat := 107
abbrev ver_checker_emits_i : Nat := 108
abbrev expr_Types_i : Nat := 109
abbrev slices_EqualFunc_typ_Type_typ_Type_typ_Type_typ_Type_i : Nat := 110
abbrev typ_Same_i : Nat := 111
abbrev runnelref6_Yes_i : Nat := 112
abbrev runnellaw2_budget_i : Nat := 113
abbrev strings_Builder_copyCheck_i : Nat := 114
abbrev strings_Builder_grow_i : Nat := 115
abbrev parse_reader_next_i : Nat := 116
abbrev parse_reader_simple_i : Nat := 117
abbrev parse_reader_while_i : Nat := 118
abbrev parse_letter_i : Nat := 119
abbrev parse_some_string_i : Nat := 120
abbrev parse_reader_op_1_i : Nat := 121
abbrev expr_Known_i : Nat := 122
abbrev parse_some_int_i : Nat := 123
abbrev parse_reader_op_2_i : Nat := 124
abbrev parse_digit_i : Nat := 125
abbrev parse_number_i : Nat := 126
abbrev parse_reader_value_i : Nat := 127
abbrev runnelref6_less_i : Nat := 128
abbrev val_spare_i : Nat := 129
abbrev internal_strconv_small_i : Nat := 130
abbrev internal_strconv_numDigits_i : Nat := 131
abbrev internal_strconv_formatBase10_i : Nat := 132
abbrev internal_strconv_formatBits_i : Nat := 133
abbrev cmp_isNaN_int_i : Nat := 134
abbrev cmp_isNaN_int64_i : Nat := 135
abbrev internal_bytealg_CompareString_i : Nat := 136
abbrev slices_CompareFunc_val_Value_val_Value_val_Value_val_Value_i : Nat := 137
abbrev runnelref6_checkValue_i : Nat := 138
abbrev strings_Fields_i : Nat := 139
abbrev val_kind_i : Nat := 140
abbrev ver_alike_i : Nat := 141
abbrev expr_find_string_expr_shape_i : Nat := 142
abbrev expr_shapes_i : Nat := 143
abbrev expr_fits_i : Nat := 144
abbrev expr_Expr_comes_i : Nat := 145
abbrev slices_Clip_typ_Type_typ_Type_i : Nat := 146
abbrev internal_abi_NoEscape_i : Nat := 147
abbrev internal_bytealg_MakeNoZero_i : Nat := 148
abbrev parse_reader_simple_1_i : Nat := 149
abbrev parse_reader_quoted_i : Nat := 150
abbrev val_Str_i : Nat := 151
abbrev parse_some_int64_i : Nat := 152
abbrev parse_reader_simple_2_i : Nat := 153
abbrev val_Bool_i : Nat := 154
abbrev strconv_ParseInt_i : Nat := 155
abbrev parse_some_val_Value_i : Nat := 156
abbrev internal_strconv_log10Pow2_i : Nat := 157
abbrev math_bits_Len64_i : Nat := 158
abbrev internal_strconv_bool2_int_i : Nat := 159
abbrev internal_strconv_isPowerOfTwo_i : Nat := 160
abbrev math_bits_TrailingZeros_i : Nat := 161
abbrev internal_bytealg_abigen_runtime_cmpstring_i : Nat := 162
abbrev strings_FieldsFunc_i : Nat := 163
abbrev unicode_IsSpace_i : Nat := 164
abbrev parse_plain_i : Nat := 165
abbrev parse_half_i : Nat := 166
abbrev internal_strconv_ParseInt_i : Nat := 167
abbrev strconv_toError_i : Nat := 168
abbrev math_bits_TrailingZeros32_i : Nat := 169
abbrev math_bits_TrailingZeros64_i : Nat := 170
abbrev unicode_isExcludingLatin_i : Nat := 171
abbrev strings_IndexByte_i : Nat := 172
abbrev internal_strconv_ParseUint_i : Nat := 173
abbrev strconv_syntaxError_i : Nat := 174
abbrev strconv_rangeError_i : Nat := 175
abbrev strconv_baseError_i : Nat := 176
abbrev strconv_bitSizeError_i : Nat := 177
abbrev unicode_is16_i : Nat := 178
abbrev unicode_is32_i : Nat := 179
abbrev internal_stringslite_IndexByte_i : Nat := 180
abbrev internal_strconv_lower_i : Nat := 181
abbrev internal_strconv_underscoreOK_i : Nat := 182
abbrev internal_stringslite_Clone_i : Nat := 183
abbrev errors_New_i : Nat := 184
abbrev internal_bytealg_IndexByteString_i : Nat := 185
abbrev runtime_boundsError_Error_i : Nat := 186
abbrev runtime_boundsError_RuntimeError_i : Nat := 187
abbrev runtime_errorString_Error_i : Nat := 188
abbrev runtime_errorString_RuntimeError_i : Nat := 189
abbrev runtime_plainError_Error_i : Nat := 190
abbrev runtime_plainError_RuntimeError_i : Nat := 191
abbrev runtime_errorAddressString_Error_i : Nat := 192
abbrev runtime_errorAddressString_RuntimeError_i : Nat := 193
abbrev runtime_TypeAssertionError_Error_i : Nat := 194
abbrev runtime_TypeAssertionError_RuntimeError_i : Nat := 195
abbrev runtime_PanicNilError_Error_i : Nat := 196
abbrev runtime_PanicNilError_RuntimeError_i : Nat := 197
abbrev internal_abi_Type_Align_i : Nat := 198
abbrev internal_runtime_maps_unhashableTypeError_Error_i : Nat := 199
abbrev internal_runtime_maps_unhashableTypeError_RuntimeError_i : Nat := 200
abbrev expr_Expr_fields_i : Nat := 201
abbrev op_Op_fields_i : Nat := 202
abbrev api_Errno_Error_i : Nat := 203
abbrev strings_Builder_Reset_i : Nat := 204
abbrev internal_strconv_Error_Error_i : Nat := 205
abbrev strconv_NumError_Error_i : Nat := 206
abbrev errors_errorString_Error_i : Nat := 207
abbrev internal_abi_Kind_String_i : Nat := 208
abbrev op_span_in_i : Nat := 209
abbrev gosem_cut_vars_i : Nat := 222

end Go.Proofs.YtgfnodmghaghpaaGreatDoor
end

section
/- Made by program (Gen.lean): functions of the dump, over trees. -/
set_option maxRecDepth 4000
set_option linter.unusedVariables false
namespace Go.Proofs.YtgfnodmghaghpaaGreatDoor
open Go Go.Abs

/- runnel/runnellaw1.Few -/
def runnellaw1_Few (x0 : AV) (H : List Ob) (K : AV → List Ob → Prop) : Prop :=
  aBox x0 H fun v0 h1 =>
  aLoad true 2 v0 h1 fun v2 =>
  aCall Tryz.prog (.p (.func runnellaw1_budget_i [])) [v2, (.p (.int .i64 12)), (.p (.int .i64 300))] h1 fun v3 h4 =>
  aBin false false .gtr v3 (.p (.int .i64 0)) fun v5 =>
  K v5 h4

def runnellaw1_Few_ann : Nat → List Nat := fun _ => []

theorem runnellaw1_Few_eq (x0 : AV) (H : List Ob) (r : AV) (Ho : List Ob) : aBody Tryz.prog runnellaw1_Few_ann Tryz.f8 H [x0] r Ho = runnellaw1_Few x0 H (fun v H' => Gives H.length v H' r Ho) := by kernel_rfl

theorem runnellaw1_Few_fnH {x0 : AV} {Hin : List Ob} {r : AV} {Ho : List Ob} (h : runnellaw1_Few x0 Hin (fun v H' => Gives Hin.length v H' r Ho)) : Abs.Fn Tryz.prog runnellaw1_Few_i Hin [x0] r Ho :=
  fn_intro mixed runnellaw1_Few_ann (fn := Tryz.f8) (by kernel_rfl) (by kernel_rfl) (by rw [runnellaw1_Few_eq]; exact h)

theorem runnellaw1_Few_fn {x0 : AV} {r : AV} {Ho : List Ob} (h : runnellaw1_Few x0 [] (fun v H' => Gives 0 v H' r Ho)) : Abs.Fn Tryz.prog runnellaw1_Few_i [] [x0] r Ho := runnellaw1_Few_fnH (Hin := []) h

/- runnel/runnellaw1.Of -/
def runnellaw1_Of_L1 (q1s1 q1s2 q1s3 y0 : AV) (H : List Ob) (B1 : List AV → List Ob → Prop) (K : AV → List Ob → Prop) : Prop :=
  aFieldAddr 1 q1s1 fun v11 =>
  aLoad false 1 v11 H fun v12 =>
  aLen false false v12 fun v13 =>
  aBin false false .lss y0 v13 fun v14 =>
  aGuard v14
  (aFieldAddr 1 q1s3 fun v15 =>
  aLoad false 1 v15 H fun v16 =>
  aFieldAddr 1 q1s1 fun v17 =>
  aLoad false 1 v17 H fun v18 =>
  aIndexAddr 2 v18 y0 fun v19 =>
  aLoad true 2 v19 H fun v20 =>
  aCallT Tryz.prog (.p (.func runnellaw1_Of_i [])) [v20] fun v21 =>
  aBuildSlice 2 [v21] fun v22 =>
  aCalm [v16, v22] <|
  aAppend false 2 32 v16 v22 H fun v23 h24 =>
  aFieldAddr 1 q1s3 fun v25 =>
  aStore 1 v25 v23 h24 fun _ h27 =>
  aBin false false .add y0 (.p (.int .i64 1)) fun v28 =>
  B1 [v28] h27)
  (aLoad true 2 q1s3 H fun v29 =>
  aStore 2 q1s2 v29 H fun _ h31 =>
  aLoad true 2 q1s2 h31 fun v32 =>
  K v32 h31)

def runnellaw1_Of (x0 : AV) (H : List Ob) (K : AV → List Ob → Prop) : Prop :=
  aBox x0 H fun v0 h1 =>
  aAlloc [(.p (.int .i64 0)), (.full [])] h1 fun v2 h3 =>
  aFieldAddr 0 v0 fun v4 =>
  aLoad false 1 v4 h3 fun v5 =>
  aBuild [(.p (.int .i64 0)), (.full [])] [(0, 1, v5)] fun v6 =>
  aAlloc [(.p (.int .i64 0)), (.full [])] h3 fun v7 h8 =>
  aStore 2 v7 v6 h8 fun _ h10 =>
  aLoopN 1 [(.p (.int .i64 0))] h10 fun xs H B1 => runnellaw1_Of_L1 v0 v2 v7 (xs.getD 0 .top) H B1 K

def runnellaw1_Of_ann : Nat → List Nat := fun k => match k with | 3 => [4] | _ => []

theorem runnellaw1_Of_eq (x0 : AV) (H : List Ob) (r : AV) (Ho : List Ob) : aBody Tryz.prog runnellaw1_Of_ann Tryz.f11 H [x0] r Ho = runnellaw1_Of x0 H (fun v H' => Gives H.length v H' r Ho) := by kernel_rfl

theorem runnellaw1_Of_fnH {x0 : AV} {Hin : List Ob} {r : AV} {Ho : List Ob} (h : runnellaw1_Of x0 Hin (fun v H' => Gives Hin.length v H' r Ho)) : Abs.Fn Tryz.prog runnellaw1_Of_i Hin [x0] r Ho :=
  fn_intro mixed runnellaw1_Of_ann (fn := Tryz.f11) (by kernel_rfl) (by kernel_rfl) (by rw [runnellaw1_Of_eq]; exact h)

theorem runnellaw1_Of_fn {x0 : AV} {r : AV} {Ho : List Ob} (h : runnellaw1_Of x0 [] (fun v H' => Gives 0 v H' r Ho)) : Abs.Fn Tryz.prog runnellaw1_Of_i [] [x0] r Ho := runnellaw1_Of_fnH (Hin := []) h

/- runnel/runnelref6.SameType -/
def runnelref6_SameType_L1 (q1s2 q1s3 y0 : AV) (H : List Ob) (B1 : List AV → List Ob → Prop) (K : AV → List Ob → Prop) : Prop :=
  aFieldAddr 1 q1s2 fun v18 =>
  aLoad false 1 v18 H fun v19 =>
  aLen false false v19 fun v20 =>
  aBin false false .lss y0 v20 fun v21 =>
  aGuard v21
  (aFieldAddr 1 q1s2 fun v22 =>
  aLoad false 1 v22 H fun v23 =>
  aIndexAddr 2 v23 y0 fun v24 =>
  aLoad true 2 v24 H fun v25 =>
  aFieldAddr 1 q1s3 fun v26 =>
  aLoad false 1 v26 H fun v27 =>
  aIndexAddr 2 v27 y0 fun v28 =>
  aLoad true 2 v28 H fun v29 =>
  aCallT Tryz.prog (.p (.func runnelref6_SameType_i [])) [v25, v29] fun v30 =>
  aUn .not v30 fun v31 =>
  aGuard v31
  (K (.p (.bool false)) H)
  (aBin false false .add y0 (.p (.int .i64 1)) fun v32 =>
  B1 [v32] H))
  (K (.p (.bool true)) H)

def runnelref6_SameType (x0 x1 : AV) (H : List Ob) (K : AV → List Ob → Prop) : Prop :=
  aBox x0 H fun v0 h1 =>
  aBox x1 h1 fun v2 h3 =>
  aFieldAddr 0 v0 fun v4 =>
  aLoad false 1 v4 h3 fun v5 =>
  aFieldAddr 0 v2 fun v6 =>
  aLoad false 1 v6 h3 fun v7 =>
  aBin false false .neq v5 v7 fun v8 =>
  aMerge false v8 (fun Q9 =>
  aFieldAddr 1 v0 fun v10 =>
  aLoad false 1 v10 h3 fun v11 =>
  aLenS false v11 fun v12 =>
  aFieldAddr 1 v2 fun v13 =>
  aLoad false 1 v13 h3 fun v14 =>
  aLenS false v14 fun v15 =>
  aBin false false .neq v12 v15 fun v16 =>
  (h3 = h3 ∧ Q9 v16)) fun v17 =>
  aGuard v17
  (K (.p (.bool false)) h3)
  (aLoopN 1 [(.p (.int .i64 0))] h3 fun xs H B1 => runnelref6_SameType_L1 v0 v2 (xs.getD 0 .top) H B1 K)

def runnelref6_SameType_ann : Nat → List Nat := fun k => match k with | 4 => [5] | _ => []

theorem runnelref6_SameType_eq (x0 x1 : AV) (H : List Ob) (r : AV) (Ho : List Ob) : aBody Tryz.prog runnelref6_SameType_ann Tryz.f15 H [x0, x1] r Ho = runnelref6_SameType x0 x1 H (fun v H' => Gives H.length v H' r Ho) := by kernel_rfl

theorem runnelref6_SameType_fnH {x0 x1 : AV} {Hin : List Ob} {r : AV} {Ho : List Ob} (h : runnelref6_SameType x0 x1 Hin (fun v H' => Gives Hin.length v H' r Ho)) : Abs.Fn Tryz.prog runnelref6_SameType_i Hin [x0, x1] r Ho :=
  fn_intro mixed runnelref6_SameType_ann (fn := Tryz.f15) (by kernel_rfl) (by kernel_rfl) (by rw [runnelref6_SameType_eq]; exact h)

theorem runnelref6_SameType_fn {x0 x1 : AV} {r : AV} {Ho : List Ob} (h : runnelref6_SameType x0 x1 [] (fun v H' => Gives 0 v H' r Ho)) : Abs.Fn Tryz.prog runnelref6_SameType_i [] [x0, x1] r Ho := runnelref6_SameType_fnH (Hin := []) h

/- runnel/runnellaw1.budget -/
def runnellaw1_budget_L1 (q1s1 q1s3 y0 y1 : AV) (H : List Ob) (B1 : List AV → List Ob → Prop) (K : AV → List Ob → Prop) : Prop :=
  aFieldAddr 1 q1s3 fun v13 =>
  aLoad false 1 v13 H fun v14 =>
  aLen false false v14 fun v15 =>
  aBin false false .lss y1 v15 fun v16 =>
  aMerge true v16 (fun Q17 =>
  aBin false false .gtr y0 (.p (.int .i64 0)) fun v18 =>
  (H = H ∧ Q17 v18)) fun v19 =>
  aGuard v19
  (aFieldAddr 1 q1s3 fun v20 =>
  aLoad false 1 v20 H fun v21 =>
  aIndexAddr 2 v21 y1 fun v22 =>
  aLoad true 2 v22 H fun v23 =>
  aBin false false .sub q1s1 (.p (.int .i64 1)) fun v24 =>
  aCall Tryz.prog (.p (.func runnellaw1_budget_i [])) [v23, v24, y0] H fun v25 h26 =>
  aBin false false .add y1 (.p (.int .i64 1)) fun v27 =>
  B1 [v25, v27] h26)
  (K y0 H)

def runnellaw1_budget (x0 x1 x2 : AV) (H : List Ob) (K : AV → List Ob → Prop) : Prop :=
  aBox x0 H fun v0 h1 =>
  aBin false false .leq x2 (.p (.int .i64 0)) fun v2 =>
  aMerge false v2 (fun Q3 =>
  aBin false false .leq x1 (.p (.int .i64 0)) fun v4 =>
  (h1 = h1 ∧ Q3 v4)) fun v5 =>
  aMerge false v5 (fun Q6 =>
  aFieldAddr 1 v0 fun v7 =>
  aLoad false 1 v7 h1 fun v8 =>
  aLenS false v8 fun v9 =>
  aBin false false .gtr v9 (.p (.int .i64 20)) fun v10 =>
  (h1 = h1 ∧ Q6 v10)) fun v11 =>
  aGuard v11
  (K (.p (.int .i64 0)) h1)
  (aBin false false .sub x2 (.p (.int .i64 1)) fun v12 =>
  aLoopN 2 [v12, (.p (.int .i64 0))] h1 fun xs H B1 => runnellaw1_budget_L1 x1 v0 (xs.getD 0 .top) (xs.getD 1 .top) H B1 K)

def runnellaw1_budget_ann : Nat → List Nat := fun k => match k with | 5 => [2, 7] | _ => []

theorem runnellaw1_budget_eq (x0 x1 x2 : AV) (H : List Ob) (r : AV) (Ho : List Ob) : aBody Tryz.prog runnellaw1_budget_ann Tryz.f28 H [x0, x1, x2] r Ho = runnellaw1_budget x0 x1 x2 H (fun v H' => Gives H.length v H' r Ho) := by kernel_rfl

theorem runnellaw1_budget_fnH {x0 x1 x2 : AV} {Hin : List Ob} {r : AV} {Ho : List Ob} (h : runnellaw1_budget x0 x1 x2 Hin (fun v H' => Gives Hin.length v H' r Ho)) : Abs.Fn Tryz.prog runnellaw1_budget_i Hin [x0, x1, x2] r Ho :=
  fn_intro mixed runnellaw1_budget_ann (fn := Tryz.f28) (by kernel_rfl) (by kernel_rfl) (by rw [runnellaw1_budget_eq]; exact h)

theorem runnellaw1_budget_fn {x0 x1 x2 : AV} {r : AV} {Ho : List Ob} (h : runnellaw1_budget x0 x1 x2 [] (fun v H' => Gives 0 v H' r Ho)) : Abs.Fn Tryz.prog runnellaw1_budget_i [] [x0, x1, x2] r Ho := runnellaw1_budget_fnH (Hin := []) h

/- runnel/runnelref6.CheckType -/
def runnelref6_CheckType (x0 : AV) (H : List Ob) (K : AV → List Ob → Prop) : Prop :=
  aBox x0 H fun v0 h1 =>
  aLoad true 2 v0 h1 fun v2 =>
  aCall Tryz.prog (.p (.func runnelref6_checkType_i [])) [v2, (.p (.int .i64 0))] h1 fun v3 h4 =>
  K v3 h4

def runnelref6_CheckType_ann : Nat → List Nat := fun _ => []

theorem runnelref6_CheckType_eq (x0 : AV) (H : List Ob) (r : AV) (Ho : List Ob) : aBody Tryz.prog runnelref6_CheckType_ann Tryz.f32 H [x0] r Ho = runnelref6_CheckType x0 H (fun v H' => Gives H.length v H' r Ho) := by kernel_rfl

theorem runnelref6_CheckType_fnH {x0 : AV} {Hin : List Ob} {r : AV} {Ho : List Ob} (h : runnelref6_CheckType x0 Hin (fun v H' => Gives Hin.length v H' r Ho)) : Abs.Fn Tryz.prog runnelref6_CheckType_i Hin [x0] r Ho :=
  fn_intro mixed runnelref6_CheckType_ann (fn := Tryz.f32) (by kernel_rfl) (by kernel_rfl) (by rw [runnelref6_CheckType_eq]; exact h)

theorem runnelref6_CheckType_fn {x0 : AV} {r : AV} {Ho : List Ob} (h : runnelref6_CheckType x0 [] (fun v H' => Gives 0 v H' r Ho)) : Abs.Fn Tryz.prog runnelref6_CheckType_i [] [x0] r Ho := runnelref6_CheckType_fnH (Hin := []) h

/- runnel/typ.Check -/
def typ_Check (x0 : AV) (H : List Ob) (K : AV → List Ob → Prop) : Prop :=
  aBox x0 H fun v0 h1 =>
  aLoad true 2 v0 h1 fun v2 =>
  aCall Tryz.prog (.p (.func typ_check_i [])) [v2, (.p (.int .i64 0))] h1 fun v3 h4 =>
  K v3 h4

def typ_Check_ann : Nat → List Nat := fun _ => []

theorem typ_Check_eq (x0 : AV) (H : List Ob) (r : AV) (Ho : List Ob) : aBody Tryz.prog typ_Check_ann Tryz.f37 H [x0] r Ho = typ_Check x0 H (fun v H' => Gives H.length v H' r Ho) := by kernel_rfl

theorem typ_Check_fnH {x0 : AV} {Hin : List Ob} {r : AV} {Ho : List Ob} (h : typ_Check x0 Hin (fun v H' => Gives Hin.length v H' r Ho)) : Abs.Fn Tryz.prog typ_Check_i Hin [x0] r Ho :=
  fn_intro mixed typ_Check_ann (fn := Tryz.f37) (by kernel_rfl) (by kernel_rfl) (by rw [typ_Check_eq]; exact h)

theorem typ_Check_fn {x0 : AV} {r : AV} {Ho : List Ob} (h : typ_Check x0 [] (fun v H' => Gives 0 v H' r Ho)) : Abs.Fn Tryz.prog typ_Check_i [] [x0] r Ho := typ_Check_fnH (Hin := []) h

/- runnel/runnelref6.checkType -/
def runnelref6_checkType_L1 (q1s1 q1s2 y0 : AV) (H : List Ob) (B1 : List AV → List Ob → Prop) (K : AV → List Ob → Prop) : Prop :=
  aFieldAddr 1 q1s2 fun v33 =>
  aLoad false 1 v33 H fun v34 =>
  aLen false false v34 fun v35 =>
  aBin false false .lss y0 v35 fun v36 =>
  aGuard v36
  (aFieldAddr 1 q1s2 fun v37 =>
  aLoad false 1 v37 H fun v38 =>
  aIndexAddr 2 v38 y0 fun v39 =>
  aLoad true 2 v39 H fun v40 =>
  aBin false false .add q1s1 (.p (.int .i64 1)) fun v41 =>
  aCall Tryz.prog (.p (.func runnelref6_checkType_i [])) [v40, v41] H fun v42 h43 =>
  aBin false false .neq v42 (.p (.int .i64 0)) fun v44 =>
  aGuard v44
  (K v42 h43)
  (aBin false false .add y0 (.p (.int .i64 1)) fun v45 =>
  B1 [v45] h43))
  (K (.p (.int .i64 0)) H)

def runnelref6_checkType (x0 x1 : AV) (H : List Ob) (K : AV → List Ob → Prop) : Prop :=
  aBox x0 H fun v0 h1 =>
  aFieldAddr 0 v0 fun v2 =>
  aLoad false 1 v2 h1 fun v3 =>
  aBin false false .lss v3 (.p (.int .i64 1)) fun v4 =>
  aMerge false v4 (fun Q5 =>
  aFieldAddr 0 v0 fun v6 =>
  aLoad false 1 v6 h1 fun v7 =>
  aBin false false .gtr v7 (.p (.int .i64 4)) fun v8 =>
  (h1 = h1 ∧ Q5 v8)) fun v9 =>
  aMerge false v9 (fun Q10 =>
  aFieldAddr 0 v0 fun v11 =>
  aLoad false 1 v11 h1 fun v12 =>
  aBin false false .neq v12 (.p (.int .i64 4)) fun v13 =>
  aMerge true v13 (fun Q14 =>
  aFieldAddr 1 v0 fun v15 =>
  aLoad false 1 v15 h1 fun v16 =>
  aLenS false v16 fun v17 =>
  aBin false false .gtr v17 (.p (.int .i64 0)) fun v18 =>
  (h1 = h1 ∧ Q14 v18)) fun v19 =>
  (h1 = h1 ∧ Q10 v19)) fun v20 =>
  aGuard v20
  (K (.p (.int .i64 5)) h1)
  (aFieldAddr 0 v0 fun v21 =>
  aLoad false 1 v21 h1 fun v22 =>
  aBin false false .neq v22 (.p (.int .i64 4)) fun v23 =>
  aGuard v23
  (K (.p (.int .i64 0)) h1)
  (aFieldAddr 1 v0 fun v24 =>
  aLoad false 1 v24 h1 fun v25 =>
  aLen false false v25 fun v26 =>
  aBin false false .eql v26 (.p (.int .i64 0)) fun v27 =>
  aGuard v27
  (K (.p (.int .i64 1)) h1)
  (aFieldAddr 1 v0 fun v28 =>
  aLoad false 1 v28 h1 fun v29 =>
  aLen false false v29 fun v30 =>
  aBin false false .gtr v30 (.p (.int .i64 8)) fun v31 =>
  aGuard v31
  (K (.p (.int .i64 10)) h1)
  (aBin false false .gtr x1 (.p (.int .i64 4)) fun v32 =>
  aGuard v32
  (K (.p (.int .i64 9)) h1)
  (aLoopN 1 [(.p (.int .i64 0))] h1 fun xs H B1 => runnelref6_checkType_L1 x1 v0 (xs.getD 0 .top) H B1 K)))))

def runnelref6_checkType_ann : Nat → List Nat := fun k => match k with | 12 => [5] | _ => []

theorem runnelref6_checkType_eq (x0 x1 : AV) (H : List Ob) (r : AV) (Ho : List Ob) : aBody Tryz.prog runnelref6_checkType_ann Tryz.f60 H [x0, x1] r Ho = runnelref6_checkType x0 x1 H (fun v H' => Gives H.length v H' r Ho) := by kernel_rfl

theorem runnelref6_checkType_fnH {x0 x1 : AV} {Hin : List Ob} {r : AV} {Ho : List Ob} (h : runnelref6_checkType x0 x1 Hin (fun v H' => Gives Hin.length v H' r Ho)) : Abs.Fn Tryz.prog runnelref6_checkType_i Hin [x0, x1] r Ho :=
  fn_intro mixed runnelref6_checkType_ann (fn := Tryz.f60) (by kernel_rfl) (by kernel_rfl) (by rw [runnelref6_checkType_eq]; exact h)

theorem runnelref6_checkType_fn {x0 x1 : AV} {r : AV} {Ho : List Ob} (h : runnelref6_checkType x0 x1 [] (fun v H' => Gives 0 v H' r Ho)) : Abs.Fn Tryz.prog runnelref6_checkType_i [] [x0, x1] r Ho := runnelref6_checkType_fnH (Hin := []) h

/- runnel/typ.check -/
def typ_check (x0 x1 : AV) (H : List Ob) (K : AV → List Ob → Prop) : Prop :=
  aBox x0 H fun v0 h1 =>
  aBox x1 h1 fun v2 h3 =>
  aFieldAddr 0 v0 fun v4 =>
  aLoad false 1 v4 h3 fun v5 =>
  aBin false false .eql v5 (.p (.int .i64 1)) fun v6 =>
  aMerge false v6 (fun Q7 =>
  aBin false false .eql v5 (.p (.int .i64 2)) fun v8 =>
  aMerge false v8 (fun Q9 =>
  aBin false false .eql v5 (.p (.int .i64 3)) fun v10 =>
  (h3 = h3 ∧ Q9 v10)) fun v11 =>
  (h3 = h3 ∧ Q7 v11)) fun v12 =>
  aGuard v12
  (aFieldAddr 1 v0 fun v13 =>
  aLoad false 1 v13 h3 fun v14 =>
  aLen false false v14 fun v15 =>
  aBin false false .gtr v15 (.p (.int .i64 0)) fun v16 =>
  aGuard v16
  (K (.p (.int .i64 5)) h3)
  (K (.p (.int .i64 0)) h3))
  (aBin false false .eql v5 (.p (.int .i64 4)) fun v17 =>
  aGuard v17
  (aFieldAddr 1 v0 fun v18 =>
  aLoad false 1 v18 h3 fun v19 =>
  aLen false false v19 fun v20 =>
  aLoad false 1 v2 h3 fun v21 =>
  aCall Tryz.prog (.p (.func typ_Row_i [])) [v20, v21] h3 fun v22 h23 =>
  aBin false false .neq v22 (.p (.int .i64 0)) fun v24 =>
  aGuard v24
  (K v22 h23)
  (aFieldAddr 1 v0 fun v25 =>
  aLoad false 1 v25 h23 fun v26 =>
  aMakeFunc typ_check_1_i [v2] h23 fun v27 h28 =>
  aCall Tryz.prog (.p (.func typ_each_typ_Type_i [])) [v26, v27] h28 fun v29 h30 =>
  K v29 h30))
  (K (.p (.int .i64 5)) h3))

def typ_check_ann : Nat → List Nat := fun k => match k with | 1000004 => [1] | 1000003 => [1] | _ => []

theorem typ_check_eq (x0 x1 : AV) (H : List Ob) (r : AV) (Ho : List Ob) : aBody Tryz.prog typ_check_ann Tryz.f64 H [x0, x1] r Ho = typ_check x0 x1 H (fun v H' => Gives H.length v H' r Ho) := by kernel_rfl

theorem typ_check_fnH {x0 x1 : AV} {Hin : List Ob} {r : AV} {Ho : List Ob} (h : typ_check x0 x1 Hin (fun v H' => Gives Hin.length v H' r Ho)) : Abs.Fn Tryz.prog typ_check_i Hin [x0, x1] r Ho :=
  fn_intro mixed typ_check_ann (fn := Tryz.f64) (by kernel_rfl) (by kernel_rfl) (by rw [typ_check_eq]; exact h)

theorem typ_check_fn {x0 x1 : AV} {r : AV} {Ho : List Ob} (h : typ_check x0 x1 [] (fun v H' => Gives 0 v H' r Ho)) : Abs.Fn Tryz.prog typ_check_i [] [x0, x1] r Ho := typ_check_fnH (Hin := []) h

/- runnel/typ.Row -/
def typ_Row (x0 x1 : AV) (H : List Ob) (K : AV → List Ob → Prop) : Prop :=
  aBin false false .eql x0 (.p (.int .i64 0)) fun v0 =>
  aGuard v0
  (K (.p (.int .i64 1)) H)
  (aBin false false .gtr x0 (.p (.int .i64 8)) fun v1 =>
  aGuard v1
  (K (.p (.int .i64 10)) H)
  (aBin false false .gtr x1 (.p (.int .i64 4)) fun v2 =>
  aGuard v2
  (K (.p (.int .i64 9)) H)
  (K (.p (.int .i64 0)) H)))

def typ_Row_ann : Nat → List Nat := fun _ => []

theorem typ_Row_eq (x0 x1 : AV) (H : List Ob) (r : AV) (Ho : List Ob) : aBody Tryz.prog typ_Row_ann Tryz.f103 H [x0, x1] r Ho = typ_Row x0 x1 H (fun v H' => Gives H.length v H' r Ho) := by kernel_rfl

theorem typ_Row_fnH {x0 x1 : AV} {Hin : List Ob} {r : AV} {Ho : List Ob} (h : typ_Row x0 x1 Hin (fun v H' => Gives Hin.length v H' r Ho)) : Abs.Fn Tryz.prog typ_Row_i Hin [x0, x1] r Ho :=
  fn_intro mixed typ_Row_ann (fn := Tryz.f103) (by kernel_rfl) (by kernel_rfl) (by rw [typ_Row_eq]; exact h)

theorem typ_Row_fn {x0 x1 : AV} {r : AV} {Ho : List Ob} (h : typ_Row x0 x1 [] (fun v H' => Gives 0 v H' r Ho)) : Abs.Fn Tryz.prog typ_Row_i [] [x0, x1] r Ho := typ_Row_fnH (Hin := []) h

/- runnel/typ.each[runnel/typ.Type] -/
def typ_each_typ_Type_L1 (q1s1 q1s8 q1s9 y0 : AV) (H : List Ob) (B1 : List AV → List Ob → Prop) (K : AV → List Ob → Prop) : Prop :=
  aBin false false .lss y0 q1s9 fun v1 =>
  aGuard v1
  (aIndexAddr 2 q1s8 y0 fun v2 =>
  aLoad true 2 v2 H fun v3 =>
  aAlloc [(.p (.int .i64 0)), (.full [])] H fun v4 h5 =>
  aStore 2 v4 v3 h5 fun _ h7 =>
  aLoad true 2 v4 h7 fun v8 =>
  aCall Tryz.prog q1s1 [v8] h7 fun v9 h10 =>
  aBin false false .neq v9 (.p (.int .i64 0)) fun v11 =>
  aGuard v11
  (K v9 h10)
  (aBin false false .add y0 (.p (.int .i64 1)) fun v12 =>
  B1 [v12] h10))
  (K (.p (.int .i64 0)) H)

def typ_each_typ_Type (x0 x1 : AV) (H : List Ob) (K : AV → List Ob → Prop) : Prop :=
  aLen false false x0 fun v0 =>
  aLoopN 1 [(.p (.int .i64 0))] H fun xs H B1 => typ_each_typ_Type_L1 x1 x0 v0 (xs.getD 0 .top) H B1 K

def typ_each_typ_Type_ann : Nat → List Nat := fun k => match k with | 2 => [10] | _ => []

theorem typ_each_typ_Type_eq (x0 x1 : AV) (H : List Ob) (r : AV) (Ho : List Ob) : aBody Tryz.prog typ_each_typ_Type_ann Tryz.f104 H [x0, x1] r Ho = typ_each_typ_Type x0 x1 H (fun v H' => Gives H.length v H' r Ho) := by kernel_rfl

theorem typ_each_typ_Type_fnH {x0 x1 : AV} {Hin : List Ob} {r : AV} {Ho : List Ob} (h : typ_each_typ_Type x0 x1 Hin (fun v H' => Gives Hin.length v H' r Ho)) : Abs.Fn Tryz.prog typ_each_typ_Type_i Hin [x0, x1] r Ho :=
  fn_intro mixed typ_each_typ_Type_ann (fn := Tryz.f104) (by kernel_rfl) (by kernel_rfl) (by rw [typ_each_typ_Type_eq]; exact h)

theorem typ_each_typ_Type_fn {x0 x1 : AV} {r : AV} {Ho : List Ob} (h : typ_each_typ_Type x0 x1 [] (fun v H' => Gives 0 v H' r Ho)) : Abs.Fn Tryz.prog typ_each_typ_Type_i [] [x0, x1] r Ho := typ_each_typ_Type_fnH (Hin := []) h

/- runnel/typ.check$1 -/
def typ_check_1 (x0 x1 : AV) (H : List Ob) (K : AV → List Ob → Prop) : Prop :=
  aBox x0 H fun v0 h1 =>
  aLoad true 2 v0 h1 fun v2 =>
  aLoad false 1 x1 h1 fun v3 =>
  aBin false false .add v3 (.p (.int .i64 1)) fun v4 =>
  aCall Tryz.prog (.p (.func typ_check_i [])) [v2, v4] h1 fun v5 h6 =>
  K v5 h6

def typ_check_1_ann : Nat → List Nat := fun _ => []

theorem typ_check_1_eq (x0 x1 : AV) (H : List Ob) (r : AV) (Ho : List Ob) : aBody Tryz.prog typ_check_1_ann Tryz.f105 H [x0, x1] r Ho = typ_check_1 x0 x1 H (fun v H' => Gives H.length v H' r Ho) := by kernel_rfl

theorem typ_check_1_fnH {x0 x1 : AV} {Hin : List Ob} {r : AV} {Ho : List Ob} (h : typ_check_1 x0 x1 Hin (fun v H' => Gives Hin.length v H' r Ho)) : Abs.Fn Tryz.prog typ_check_1_i Hin [x0, x1] r Ho :=
  fn_intro mixed typ_check_1_ann (fn := Tryz.f105) (by kernel_rfl) (by kernel_rfl) (by rw [typ_check_1_eq]; exact h)

theorem typ_check_1_fn {x0 x1 : AV} {r : AV} {Ho : List Ob} (h : typ_check_1 x0 x1 [] (fun v H' => Gives 0 v H' r Ho)) : Abs.Fn Tryz.prog typ_check_1_i [] [x0, x1] r Ho := typ_check_1_fnH (Hin := []) h

/- slices.Clone[[]runnel/typ.Type,runnel/typ.Type] -/
def slices_Clone_typ_Type_typ_Type (x0 : AV) (H : List Ob) (K : AV → List Ob → Prop) : Prop :=
  aNil true .eql x0 fun v0 =>
  aGuard v0
  (K (.full []) H)
  (aBuildSlice 2 [] fun v1 =>
  aAppend false 2 32 v1 x0 H fun v2 h3 =>
  K v2 h3)

def slices_Clone_typ_Type_typ_Type_ann : Nat → List Nat := fun _ => []

theorem slices_Clone_typ_Type_typ_Type_eq (x0 : AV) (H : List Ob) (r : AV) (Ho : List Ob) : aBody Tryz.prog slices_Clone_typ_Type_typ_Type_ann Tryz.f106 H [x0] r Ho = slices_Clone_typ_Type_typ_Type x0 H (fun v H' => Gives H.length v H' r Ho) := by kernel_rfl

theorem slices_Clone_typ_Type_typ_Type_fnH {x0 : AV} {Hin : List Ob} {r : AV} {Ho : List Ob} (h : slices_Clone_typ_Type_typ_Type x0 Hin (fun v H' => Gives Hin.length v H' r Ho)) : Abs.Fn Tryz.prog slices_Clone_typ_Type_typ_Type_i Hin [x0] r Ho :=
  fn_intro mixed slices_Clone_typ_Type_typ_Type_ann (fn := Tryz.f106) (by kernel_rfl) (by kernel_rfl) (by rw [slices_Clone_typ_Type_typ_Type_eq]; exact h)

theorem slices_Clone_typ_Type_typ_Type_fn {x0 : AV} {r : AV} {Ho : List Ob} (h : slices_Clone_typ_Type_typ_Type x0 [] (fun v H' => Gives 0 v H' r Ho)) : Abs.Fn Tryz.prog slices_Clone_typ_Type_typ_Type_i [] [x0] r Ho := slices_Clone_typ_Type_typ_Type_fnH (Hin := []) h

/- slices.EqualFunc[[]runnel/typ.Type,[]runnel/typ.Type,runnel/typ.Type,runnel/typ.Type] -/
def slices_EqualFunc_typ_Type_typ_Type_typ_Type_typ_Type_L1 (q1s1 q1s2 q1s15 q1s16 y0 : AV) (H : List Ob) (B1 : List AV → List Ob → Prop) (K : AV → List Ob → Prop) : Prop :=
  aBin false false .lss y0 q1s16 fun v4 =>
  aGuard v4
  (aIndexAddr 2 q1s15 y0 fun v5 =>
  aLoad true 2 v5 H fun v6 =>
  aAlloc [(.p (.int .i64 0)), (.full [])] H fun v7 h8 =>
  aStore 2 v7 v6 h8 fun _ h10 =>
  aIndexAddr 2 q1s1 y0 fun v11 =>
  aLoad true 2 v11 h10 fun v12 =>
  aAlloc [(.p (.int .i64 0)), (.full [])] h10 fun v13 h14 =>
  aStore 2 v13 v12 h14 fun _ h16 =>
  aLoad true 2 v7 h16 fun v17 =>
  aLoad true 2 v13 h16 fun v18 =>
  aCall Tryz.prog q1s2 [v17, v18] h16 fun v19 h20 =>
  aUn .not v19 fun v21 =>
  aGuard v21
  (K (.p (.bool false)) h20)
  (aBin false false .add y0 (.p (.int .i64 1)) fun v22 =>
  B1 [v22] h20))
  (K (.p (.bool true)) H)

def slices_EqualFunc_typ_Type_typ_Type_typ_Type_typ_Type (x0 x1 x2 : AV) (H : List Ob) (K : AV → List Ob → Prop) : Prop :=
  aLen false false x0 fun v0 =>
  aLen false false x1 fun v1 =>
  aBin false false .neq v0 v1 fun v2 =>
  aGuard v2
  (K (.p (.bool false)) H)
  (aLen false false x0 fun v3 =>
  aLoopN 1 [(.p (.int .i64 0))] H fun xs H B1 => slices_EqualFunc_typ_Type_typ_Type_typ_Type_typ_Type_L1 x1 x2 x0 v3 (xs.getD 0 .top) H B1 K)

def slices_EqualFunc_typ_Type_typ_Type_typ_Type_typ_Type_ann : Nat → List Nat := fun k => match k with | 4 => [17] | _ => []

theorem slices_EqualFunc_typ_Type_typ_Type_typ_Type_typ_Type_eq (x0 x1 x2 : AV) (H : List Ob) (r : AV) (Ho : List Ob) : aBody Tryz.prog slices_EqualFunc_typ_Type_typ_Type_typ_Type_typ_Type_ann Tryz.f110 H [x0, x1, x2] r Ho = slices_EqualFunc_typ_Type_typ_Type_typ_Type_typ_Type x0 x1 x2 H (fun v H' => Gives H.length v H' r Ho) := by kernel_rfl

theorem slices_EqualFunc_typ_Type_typ_Type_typ_Type_typ_Type_fnH {x0 x1 x2 : AV} {Hin : List Ob} {r : AV} {Ho : List Ob} (h : slices_EqualFunc_typ_Type_typ_Type_typ_Type_typ_Type x0 x1 x2 Hin (fun v H' => Gives Hin.length v H' r Ho)) : Abs.Fn Tryz.prog slices_EqualFunc_typ_Type_typ_Type_typ_Type_typ_Type_i Hin [x0, x1, x2] r Ho :=
  fn_intro mixed slices_EqualFunc_typ_Type_typ_Type_typ_Type_typ_Type_ann (fn := Tryz.f110) (by kernel_rfl) (by kernel_rfl) (by rw [slices_EqualFunc_typ_Type_typ_Type_typ_Type_typ_Type_eq]; exact h)

theorem slices_EqualFunc_typ_Type_typ_Type_typ_Type_typ_Type_fn {x0 x1 x2 : AV} {r : AV} {Ho : List Ob} (h : slices_EqualFunc_typ_Type_typ_Type_typ_Type_typ_Type x0 x1 x2 [] (fun v H' => Gives 0 v H' r Ho)) : Abs.Fn Tryz.prog slices_EqualFunc_typ_Type_typ_Type_typ_Type_typ_Type_i [] [x0, x1, x2] r Ho := slices_EqualFunc_typ_Type_typ_Type_typ_Type_typ_Type_fnH (Hin := []) h

/- runnel/typ.Same -/
def typ_Same (x0 x1 : AV) (H : List Ob) (K : AV → List Ob → Prop) : Prop :=
  aBox x0 H fun v0 h1 =>
  aBox x1 h1 fun v2 h3 =>
  aFieldAddr 0 v0 fun v4 =>
  aLoad false 1 v4 h3 fun v5 =>
  aFieldAddr 0 v2 fun v6 =>
  aLoad false 1 v6 h3 fun v7 =>
  aBin false false .eql v5 v7 fun v8 =>
  aMerge true v8 (fun Q9 =>
  aFieldAddr 1 v0 fun v10 =>
  aLoad false 1 v10 h3 fun v11 =>
  aFieldAddr 1 v2 fun v12 =>
  aLoad false 1 v12 h3 fun v13 =>
  aCall Tryz.prog (.p (.func slices_EqualFunc_typ_Type_typ_Type_typ_Type_typ_Type_i [])) [v11, v13, (.p (.func typ_Same_i []))] h3 fun v14 h15 =>
  (h15 = h3 ∧ Q9 v14)) fun v16 =>
  K v16 h3

def typ_Same_ann : Nat → List Nat := fun _ => []

theorem typ_Same_eq (x0 x1 : AV) (H : List Ob) (r : AV) (Ho : List Ob) : aBody Tryz.prog typ_Same_ann Tryz.f111 H [x0, x1] r Ho = typ_Same x0 x1 H (fun v H' => Gives H.length v H' r Ho) := by kernel_rfl

theorem typ_Same_fnH {x0 x1 : AV} {Hin : List Ob} {r : AV} {Ho : List Ob} (h : typ_Same x0 x1 Hin (fun v H' => Gives Hin.length v H' r Ho)) : Abs.Fn Tryz.prog typ_Same_i Hin [x0, x1] r Ho :=
  fn_intro mixed typ_Same_ann (fn := Tryz.f111) (by kernel_rfl) (by kernel_rfl) (by rw [typ_Same_eq]; exact h)

theorem typ_Same_fn {x0 x1 : AV} {r : AV} {Ho : List Ob} (h : typ_Same x0 x1 [] (fun v H' => Gives 0 v H' r Ho)) : Abs.Fn Tryz.prog typ_Same_i [] [x0, x1] r Ho := typ_Same_fnH (Hin := []) h

/- slices.Clip[[]runnel/typ.Type,runnel/typ.Type] -/
def slices_Clip_typ_Type_typ_Type (x0 : AV) (H : List Ob) (K : AV → List Ob → Prop) : Prop :=
  aLen false false x0 fun v0 =>
  aLen false false x0 fun v1 =>
  aSlice false 2 x0 none (some v0) (some v1) fun v2 =>
  K v2 H

def slices_Clip_typ_Type_typ_Type_ann : Nat → List Nat := fun _ => []

theorem slices_Clip_typ_Type_typ_Type_eq (x0 : AV) (H : List Ob) (r : AV) (Ho : List Ob) : aBody Tryz.prog slices_Clip_typ_Type_typ_Type_ann Tryz.f146 H [x0] r Ho = slices_Clip_typ_Type_typ_Type x0 H (fun v H' => Gives H.length v H' r Ho) := by kernel_rfl

theorem slices_Clip_typ_Type_typ_Type_fnH {x0 : AV} {Hin : List Ob} {r : AV} {Ho : List Ob} (h : slices_Clip_typ_Type_typ_Type x0 Hin (fun v H' => Gives Hin.length v H' r Ho)) : Abs.Fn Tryz.prog slices_Clip_typ_Type_typ_Type_i Hin [x0] r Ho :=
  fn_intro mixed slices_Clip_typ_Type_typ_Type_ann (fn := Tryz.f146) (by kernel_rfl) (by kernel_rfl) (by rw [slices_Clip_typ_Type_typ_Type_eq]; exact h)

theorem slices_Clip_typ_Type_typ_Type_fn {x0 : AV} {r : AV} {Ho : List Ob} (h : slices_Clip_typ_Type_typ_Type x0 [] (fun v H' => Gives 0 v H' r Ho)) : Abs.Fn Tryz.prog slices_Clip_typ_Type_typ_Type_i [] [x0] r Ho := slices_Clip_typ_Type_typ_Type_fnH (Hin := []) h

/- internal/stringslite.IndexByte -/
def internal_stringslite_IndexByte (x0 x1 : AV) (H : List Ob) (K : AV → List Ob → Prop) : Prop :=
  aCall Tryz.prog (.p (.func internal_bytealg_IndexByteString_i [])) [x0, x1] H fun v0 h1 =>
  K v0 h1

def internal_stringslite_IndexByte_ann : Nat → List Nat := fun _ => []

theorem internal_stringslite_IndexByte_eq (x0 x1 : AV) (H : List Ob) (r : AV) (Ho : List Ob) : aBody Tryz.prog internal_stringslite_IndexByte_ann Tryz.f180 H [x0, x1] r Ho = internal_stringslite_IndexByte x0 x1 H (fun v H' => Gives H.length v H' r Ho) := by kernel_rfl

theorem internal_stringslite_IndexByte_fnH {x0 x1 : AV} {Hin : List Ob} {r : AV} {Ho : List Ob} (h : internal_stringslite_IndexByte x0 x1 Hin (fun v H' => Gives Hin.length v H' r Ho)) : Abs.Fn Tryz.prog internal_stringslite_IndexByte_i Hin [x0, x1] r Ho :=
  fn_intro mixed internal_stringslite_IndexByte_ann (fn := Tryz.f180) (by kernel_rfl) (by kernel_rfl) (by rw [internal_stringslite_IndexByte_eq]; exact h)

theorem internal_stringslite_IndexByte_fn {x0 x1 : AV} {r : AV} {Ho : List Ob} (h : internal_stringslite_IndexByte x0 x1 [] (fun v H' => Gives 0 v H' r Ho)) : Abs.Fn Tryz.prog internal_stringslite_IndexByte_i [] [x0, x1] r Ho := internal_stringslite_IndexByte_fnH (Hin := []) h

end Go.Proofs.YtgfnodmghaghpaaGreatDoor
end

section
/- Made by program (Gen.lean): functions of the dump, over trees. -/
set_option maxRecDepth 4000
set_option linter.unusedVariables false
namespace Go.Proofs.YtgfnodmghaghpaaGreatDoor
open Go Go.Abs

/- runnel/val.Text -/
def val_Text_L1 (q1s24 q1s25 y0 y1 : AV) (H : List Ob) (B1 : List AV → List Ob → Prop) (K : AV → List Ob → Prop) : Prop :=
  aBin false false .lss y1 q1s25 fun v22 =>
  aGuard v22
  (aIndexAddr 5 q1s24 y1 fun v23 =>
  aLoad true 5 v23 H fun v24 =>
  aAlloc [(.p (.int .i64 0)), (.p (.int .i64 0)), (.p (.bool false)), (.p (.str [])), (.full [])] H fun v25 h26 =>
  aStore 5 v25 v24 h26 fun _ h28 =>
  aLoad true 5 v25 h28 fun v29 =>
  aCall Tryz.prog (.p (.func val_Text_i [])) [v29] h28 fun v30 h31 =>
  aBuildSlice 1 [v30] fun v32 =>
  aAppend false 1 16 y0 v32 h31 fun v33 h34 =>
  aBin false false .add y1 (.p (.int .i64 1)) fun v35 =>
  B1 [v33, v35] h34)
  (aCall Tryz.prog (.p (.func strings_Join_i [])) [y0, (.p (.str [44]))] H fun v36 h37 =>
  aBin false false .add (.p (.str [40])) v36 fun v38 =>
  aBin false false .add v38 (.p (.str [41])) fun v39 =>
  K v39 h37)

def val_Text (x0 : AV) (H : List Ob) (K : AV → List Ob → Prop) : Prop :=
  aBox x0 H fun v0 h1 =>
  aFieldAddr 0 v0 fun v2 =>
  aLoad false 1 v2 h1 fun v3 =>
  aBin false false .eql v3 (.p (.int .i64 1)) fun v4 =>
  aGuard v4
  (aFieldAddr 1 v0 fun v5 =>
  aLoad false 1 v5 h1 fun v6 =>
  aCall Tryz.prog (.p (.func strconv_FormatInt_i [])) [v6, (.p (.int .i64 10))] h1 fun v7 h8 =>
  K v7 h8)
  (aBin false false .eql v3 (.p (.int .i64 2)) fun v9 =>
  aGuard v9
  (aFieldAddr 2 v0 fun v10 =>
  aLoad false 1 v10 h1 fun v11 =>
  aCall Tryz.prog (.p (.func strconv_FormatBool_i [])) [v11] h1 fun v12 h13 =>
  K v12 h13)
  (aBin false false .eql v3 (.p (.int .i64 3)) fun v14 =>
  aGuard v14
  (aFieldAddr 3 v0 fun v15 =>
  aLoad false 1 v15 h1 fun v16 =>
  aCall Tryz.prog (.p (.func val_quote_i [])) [v16] h1 fun v17 h18 =>
  K v17 h18)
  (aFieldAddr 4 v0 fun v19 =>
  aLoad false 1 v19 h1 fun v20 =>
  aLen false false v20 fun v21 =>
  aLoopN 2 [(.full []), (.p (.int .i64 0))] h1 fun xs H B1 => val_Text_L1 v20 v21 (xs.getD 0 .top) (xs.getD 1 .top) H B1 K)))

def val_Text_ann : Nat → List Nat := fun k => match k with | 10 => [3, 26] | _ => []

theorem val_Text_eq (x0 : AV) (H : List Ob) (r : AV) (Ho : List Ob) : aBody Tryz.prog val_Text_ann Tryz.f25 H [x0] r Ho = val_Text x0 H (fun v H' => Gives H.length v H' r Ho) := by kernel_rfl

theorem val_Text_fnH {x0 : AV} {Hin : List Ob} {r : AV} {Ho : List Ob} (h : val_Text x0 Hin (fun v H' => Gives Hin.length v H' r Ho)) : Abs.Fn Tryz.prog val_Text_i Hin [x0] r Ho :=
  fn_intro mixed val_Text_ann (fn := Tryz.f25) (by kernel_rfl) (by kernel_rfl) (by rw [val_Text_eq]; exact h)

theorem val_Text_fn {x0 : AV} {r : AV} {Ho : List Ob} (h : val_Text x0 [] (fun v H' => Gives 0 v H' r Ho)) : Abs.Fn Tryz.prog val_Text_i [] [x0] r Ho := val_Text_fnH (Hin := []) h

/- runnel/val.Same -/
def val_Same (x0 x1 : AV) (H : List Ob) (K : AV → List Ob → Prop) : Prop :=
  aBox x0 H fun v0 h1 =>
  aBox x1 h1 fun v2 h3 =>
  aLoad true 5 v0 h3 fun v4 =>
  aLoad true 5 v2 h3 fun v5 =>
  aCall Tryz.prog (.p (.func val_Compare_i [])) [v4, v5] h3 fun v6 h7 =>
  aBin false false .eql v6 (.p (.int .i64 0)) fun v8 =>
  K v8 h7

def val_Same_ann : Nat → List Nat := fun _ => []

theorem val_Same_eq (x0 x1 : AV) (H : List Ob) (r : AV) (Ho : List Ob) : aBody Tryz.prog val_Same_ann Tryz.f26 H [x0, x1] r Ho = val_Same x0 x1 H (fun v H' => Gives H.length v H' r Ho) := by kernel_rfl

theorem val_Same_fnH {x0 x1 : AV} {Hin : List Ob} {r : AV} {Ho : List Ob} (h : val_Same x0 x1 Hin (fun v H' => Gives Hin.length v H' r Ho)) : Abs.Fn Tryz.prog val_Same_i Hin [x0, x1] r Ho :=
  fn_intro mixed val_Same_ann (fn := Tryz.f26) (by kernel_rfl) (by kernel_rfl) (by rw [val_Same_eq]; exact h)

theorem val_Same_fn {x0 x1 : AV} {r : AV} {Ho : List Ob} (h : val_Same x0 x1 [] (fun v H' => Gives 0 v H' r Ho)) : Abs.Fn Tryz.prog val_Same_i [] [x0, x1] r Ho := val_Same_fnH (Hin := []) h

/- runnel/val.Int -/
def val_Int (x0 : AV) (H : List Ob) (K : AV → List Ob → Prop) : Prop :=
  aAlloc [(.p (.int .i64 0)), (.p (.int .i64 0)), (.p (.bool false)), (.p (.str [])), (.full [])] H fun v0 h1 =>
  aBuild [(.p (.int .i64 0)), (.p (.int .i64 0)), (.p (.bool false)), (.p (.str [])), (.full [])] [(0, 1, (.p (.int .i64 1))), (1, 1, x0)] fun v2 =>
  aStore 5 v0 v2 h1 fun _ h4 =>
  aLoad true 5 v0 h4 fun v5 =>
  K v5 h4

def val_Int_ann : Nat → List Nat := fun _ => []

theorem val_Int_eq (x0 : AV) (H : List Ob) (r : AV) (Ho : List Ob) : aBody Tryz.prog val_Int_ann Tryz.f27 H [x0] r Ho = val_Int x0 H (fun v H' => Gives H.length v H' r Ho) := by kernel_rfl

theorem val_Int_fnH {x0 : AV} {Hin : List Ob} {r : AV} {Ho : List Ob} (h : val_Int x0 Hin (fun v H' => Gives Hin.length v H' r Ho)) : Abs.Fn Tryz.prog val_Int_i Hin [x0] r Ho :=
  fn_intro mixed val_Int_ann (fn := Tryz.f27) (by kernel_rfl) (by kernel_rfl) (by rw [val_Int_eq]; exact h)

theorem val_Int_fn {x0 : AV} {r : AV} {Ho : List Ob} (h : val_Int x0 [] (fun v H' => Gives 0 v H' r Ho)) : Abs.Fn Tryz.prog val_Int_i [] [x0] r Ho := val_Int_fnH (Hin := []) h

/- runnel/runnellaw2.To -/
def runnellaw2_To_L1 (q1s1 q1s2 q1s3 y0 : AV) (H : List Ob) (B1 : List AV → List Ob → Prop) (K : AV → List Ob → Prop) : Prop :=
  aFieldAddr 4 q1s1 fun v17 =>
  aLoad false 1 v17 H fun v18 =>
  aLen false false v18 fun v19 =>
  aBin false false .lss y0 v19 fun v20 =>
  aGuard v20
  (aFieldAddr 4 q1s3 fun v21 =>
  aLoad false 1 v21 H fun v22 =>
  aFieldAddr 4 q1s1 fun v23 =>
  aLoad false 1 v23 H fun v24 =>
  aIndexAddr 5 v24 y0 fun v25 =>
  aLoad true 5 v25 H fun v26 =>
  aCallT Tryz.prog (.p (.func runnellaw2_To_i [])) [v26] fun v27 =>
  aBuildSlice 5 [v27] fun v28 =>
  aCalm [v22, v28] <|
  aAppend false 5 64 v22 v28 H fun v29 h30 =>
  aFieldAddr 4 q1s3 fun v31 =>
  aStore 1 v31 v29 h30 fun _ h33 =>
  aBin false false .add y0 (.p (.int .i64 1)) fun v34 =>
  B1 [v34] h33)
  (aLoad true 5 q1s3 H fun v35 =>
  aStore 5 q1s2 v35 H fun _ h37 =>
  aLoad true 5 q1s2 h37 fun v38 =>
  K v38 h37)

def runnellaw2_To (x0 : AV) (H : List Ob) (K : AV → List Ob → Prop) : Prop :=
  aBox x0 H fun v0 h1 =>
  aAlloc [(.p (.int .i64 0)), (.p (.int .i64 0)), (.p (.bool false)), (.p (.str [])), (.full [])] h1 fun v2 h3 =>
  aFieldAddr 0 v0 fun v4 =>
  aLoad false 1 v4 h3 fun v5 =>
  aFieldAddr 1 v0 fun v6 =>
  aLoad false 1 v6 h3 fun v7 =>
  aFieldAddr 2 v0 fun v8 =>
  aLoad false 1 v8 h3 fun v9 =>
  aFieldAddr 3 v0 fun v10 =>
  aLoad false 1 v10 h3 fun v11 =>
  aBuild [(.p (.int .i64 0)), (.p (.int .i64 0)), (.p (.bool false)), (.p (.str [])), (.full [])] [(0, 1, v5), (1, 1, v7), (2, 1, v9), (3, 1, v11)] fun v12 =>
  aAlloc [(.p (.int .i64 0)), (.p (.int .i64 0)), (.p (.bool false)), (.p (.str [])), (.full [])] h3 fun v13 h14 =>
  aStore 5 v13 v12 h14 fun _ h16 =>
  aLoopN 1 [(.p (.int .i64 0))] h16 fun xs H B1 => runnellaw2_To_L1 v0 v2 v13 (xs.getD 0 .top) H B1 K

def runnellaw2_To_ann : Nat → List Nat := fun k => match k with | 3 => [4] | _ => []

theorem runnellaw2_To_eq (x0 : AV) (H : List Ob) (r : AV) (Ho : List Ob) : aBody Tryz.prog runnellaw2_To_ann Tryz.f39 H [x0] r Ho = runnellaw2_To x0 H (fun v H' => Gives H.length v H' r Ho) := by kernel_rfl

theorem runnellaw2_To_fnH {x0 : AV} {Hin : List Ob} {r : AV} {Ho : List Ob} (h : runnellaw2_To x0 Hin (fun v H' => Gives Hin.length v H' r Ho)) : Abs.Fn Tryz.prog runnellaw2_To_i Hin [x0] r Ho :=
  fn_intro mixed runnellaw2_To_ann (fn := Tryz.f39) (by kernel_rfl) (by kernel_rfl) (by rw [runnellaw2_To_eq]; exact h)

theorem runnellaw2_To_fn {x0 : AV} {r : AV} {Ho : List Ob} (h : runnellaw2_To x0 [] (fun v H' => Gives 0 v H' r Ho)) : Abs.Fn Tryz.prog runnellaw2_To_i [] [x0] r Ho := runnellaw2_To_fnH (Hin := []) h

/- runnel/runnellaw2.Of -/
def runnellaw2_Of_L1 (q1s1 q1s2 q1s3 y0 : AV) (H : List Ob) (B1 : List AV → List Ob → Prop) (K : AV → List Ob → Prop) : Prop :=
  aFieldAddr 4 q1s1 fun v17 =>
  aLoad false 1 v17 H fun v18 =>
  aLen false false v18 fun v19 =>
  aBin false false .lss y0 v19 fun v20 =>
  aGuard v20
  (aFieldAddr 4 q1s3 fun v21 =>
  aLoad false 1 v21 H fun v22 =>
  aFieldAddr 4 q1s1 fun v23 =>
  aLoad false 1 v23 H fun v24 =>
  aIndexAddr 5 v24 y0 fun v25 =>
  aLoad true 5 v25 H fun v26 =>
  aCallT Tryz.prog (.p (.func runnellaw2_Of_i [])) [v26] fun v27 =>
  aBuildSlice 5 [v27] fun v28 =>
  aCalm [v22, v28] <|
  aAppend false 5 64 v22 v28 H fun v29 h30 =>
  aFieldAddr 4 q1s3 fun v31 =>
  aStore 1 v31 v29 h30 fun _ h33 =>
  aBin false false .add y0 (.p (.int .i64 1)) fun v34 =>
  B1 [v34] h33)
  (aLoad true 5 q1s3 H fun v35 =>
  aStore 5 q1s2 v35 H fun _ h37 =>
  aLoad true 5 q1s2 h37 fun v38 =>
  K v38 h37)

def runnellaw2_Of (x0 : AV) (H : List Ob) (K : AV → List Ob → Prop) : Prop :=
  aBox x0 H fun v0 h1 =>
  aAlloc [(.p (.int .i64 0)), (.p (.int .i64 0)), (.p (.bool false)), (.p (.str [])), (.full [])] h1 fun v2 h3 =>
  aFieldAddr 0 v0 fun v4 =>
  aLoad false 1 v4 h3 fun v5 =>
  aFieldAddr 1 v0 fun v6 =>
  aLoad false 1 v6 h3 fun v7 =>
  aFieldAddr 2 v0 fun v8 =>
  aLoad false 1 v8 h3 fun v9 =>
  aFieldAddr 3 v0 fun v10 =>
  aLoad false 1 v10 h3 fun v11 =>
  aBuild [(.p (.int .i64 0)), (.p (.int .i64 0)), (.p (.bool false)), (.p (.str [])), (.full [])] [(0, 1, v5), (1, 1, v7), (2, 1, v9), (3, 1, v11)] fun v12 =>
  aAlloc [(.p (.int .i64 0)), (.p (.int .i64 0)), (.p (.bool false)), (.p (.str [])), (.full [])] h3 fun v13 h14 =>
  aStore 5 v13 v12 h14 fun _ h16 =>
  aLoopN 1 [(.p (.int .i64 0))] h16 fun xs H B1 => runnellaw2_Of_L1 v0 v2 v13 (xs.getD 0 .top) H B1 K

def runnellaw2_Of_ann : Nat → List Nat := fun k => match k with | 3 => [4] | _ => []

theorem runnellaw2_Of_eq (x0 : AV) (H : List Ob) (r : AV) (Ho : List Ob) : aBody Tryz.prog runnellaw2_Of_ann Tryz.f44 H [x0] r Ho = runnellaw2_Of x0 H (fun v H' => Gives H.length v H' r Ho) := by kernel_rfl

theorem runnellaw2_Of_fnH {x0 : AV} {Hin : List Ob} {r : AV} {Ho : List Ob} (h : runnellaw2_Of x0 Hin (fun v H' => Gives Hin.length v H' r Ho)) : Abs.Fn Tryz.prog runnellaw2_Of_i Hin [x0] r Ho :=
  fn_intro mixed runnellaw2_Of_ann (fn := Tryz.f44) (by kernel_rfl) (by kernel_rfl) (by rw [runnellaw2_Of_eq]; exact h)

theorem runnellaw2_Of_fn {x0 : AV} {r : AV} {Ho : List Ob} (h : runnellaw2_Of x0 [] (fun v H' => Gives 0 v H' r Ho)) : Abs.Fn Tryz.prog runnellaw2_Of_i [] [x0] r Ho := runnellaw2_Of_fnH (Hin := []) h

/- runnel/runnelref6.TypeOf -/
def runnelref6_TypeOf_L1 (q1s1 q1s2 q1s3 y0 : AV) (H : List Ob) (B1 : List AV → List Ob → Prop) (K : AV → List Ob → Prop) : Prop :=
  aFieldAddr 4 q1s1 fun v11 =>
  aLoad false 1 v11 H fun v12 =>
  aLen false false v12 fun v13 =>
  aBin false false .lss y0 v13 fun v14 =>
  aGuard v14
  (aFieldAddr 1 q1s3 fun v15 =>
  aLoad false 1 v15 H fun v16 =>
  aFieldAddr 4 q1s1 fun v17 =>
  aLoad false 1 v17 H fun v18 =>
  aIndexAddr 5 v18 y0 fun v19 =>
  aLoad true 5 v19 H fun v20 =>
  aCallT Tryz.prog (.p (.func runnelref6_TypeOf_i [])) [v20] fun v21 =>
  aBuildSlice 2 [v21] fun v22 =>
  aCalm [v16, v22] <|
  aAppend false 2 32 v16 v22 H fun v23 h24 =>
  aFieldAddr 1 q1s3 fun v25 =>
  aStore 1 v25 v23 h24 fun _ h27 =>
  aBin false false .add y0 (.p (.int .i64 1)) fun v28 =>
  B1 [v28] h27)
  (aLoad true 2 q1s3 H fun v29 =>
  aStore 2 q1s2 v29 H fun _ h31 =>
  aLoad true 2 q1s2 h31 fun v32 =>
  K v32 h31)

def runnelref6_TypeOf (x0 : AV) (H : List Ob) (K : AV → List Ob → Prop) : Prop :=
  aBox x0 H fun v0 h1 =>
  aAlloc [(.p (.int .i64 0)), (.full [])] h1 fun v2 h3 =>
  aFieldAddr 0 v0 fun v4 =>
  aLoad false 1 v4 h3 fun v5 =>
  aBuild [(.p (.int .i64 0)), (.full [])] [(0, 1, v5)] fun v6 =>
  aAlloc [(.p (.int .i64 0)), (.full [])] h3 fun v7 h8 =>
  aStore 2 v7 v6 h8 fun _ h10 =>
  aLoopN 1 [(.p (.int .i64 0))] h10 fun xs H B1 => runnelref6_TypeOf_L1 v0 v2 v7 (xs.getD 0 .top) H B1 K

def runnelref6_TypeOf_ann : Nat → List Nat := fun k => match k with | 3 => [4] | _ => []

theorem runnelref6_TypeOf_eq (x0 : AV) (H : List Ob) (r : AV) (Ho : List Ob) : aBody Tryz.prog runnelref6_TypeOf_ann Tryz.f45 H [x0] r Ho = runnelref6_TypeOf x0 H (fun v H' => Gives H.length v H' r Ho) := by kernel_rfl

theorem runnelref6_TypeOf_fnH {x0 : AV} {Hin : List Ob} {r : AV} {Ho : List Ob} (h : runnelref6_TypeOf x0 Hin (fun v H' => Gives Hin.length v H' r Ho)) : Abs.Fn Tryz.prog runnelref6_TypeOf_i Hin [x0] r Ho :=
  fn_intro mixed runnelref6_TypeOf_ann (fn := Tryz.f45) (by kernel_rfl) (by kernel_rfl) (by rw [runnelref6_TypeOf_eq]; exact h)

theorem runnelref6_TypeOf_fn {x0 : AV} {r : AV} {Ho : List Ob} (h : runnelref6_TypeOf x0 [] (fun v H' => Gives 0 v H' r Ho)) : Abs.Fn Tryz.prog runnelref6_TypeOf_i [] [x0] r Ho := runnelref6_TypeOf_fnH (Hin := []) h

/- runnel/runnelref6.ValueText -/
def runnelref6_ValueText_L1 (q1s1 y0 y1 : AV) (H : List Ob) (B1 : List AV → List Ob → Prop) (K : AV → List Ob → Prop) : Prop :=
  aFieldAddr 3 q1s1 fun v13 =>
  aLoad false 1 v13 H fun v14 =>
  aLen false true v14 fun v15 =>
  aBin false false .lss y1 v15 fun v16 =>
  aGuard v16
  (aFieldAddr 3 q1s1 fun v17 =>
  aLoad false 1 v17 H fun v18 =>
  aIndex v18 y1 fun v19 =>
  aCall Tryz.prog (.p (.func runnelref6_plain_i [])) [v19] H fun v20 h21 =>
  aGuard v20
  (aFieldAddr 3 q1s1 fun v22 =>
  aLoad false 1 v22 h21 fun v23 =>
  aBin false false .add y1 (.p (.int .i64 1)) fun v24 =>
  aSlice true 0 v23 (some y1) (some v24) none fun v25 =>
  aBin false false .add y0 v25 fun v26 =>
  aBin false false .add y1 (.p (.int .i64 1)) fun v27 =>
  B1 [v26, v27] h21)
  (aBin false false .add y0 (.p (.str [92])) fun v28 =>
  aBin false false .quo v19 (.p (.int .u8 16)) fun v29 =>
  aBin false false .quo v19 (.p (.int .u8 16)) fun v30 =>
  aBin false false .add v30 (.p (.int .u8 1)) fun v31 =>
  aSlice true 0 (.p (.str [48, 49, 50, 51, 52, 53, 54, 55, 56, 57, 97, 98, 99, 100, 101, 102])) (some v29) (some v31) none fun v32 =>
  aBin false false .add v28 v32 fun v33 =>
  aBin false false .rem v19 (.p (.int .u8 16)) fun v34 =>
  aBin false false .rem v19 (.p (.int .u8 16)) fun v35 =>
  aBin false false .add v35 (.p (.int .u8 1)) fun v36 =>
  aSlice true 0 (.p (.str [48, 49, 50, 51, 52, 53, 54, 55, 56, 57, 97, 98, 99, 100, 101, 102])) (some v34) (some v36) none fun v37 =>
  aBin false false .add v33 v37 fun v38 =>
  aBin false false .add y1 (.p (.int .i64 1)) fun v39 =>
  B1 [v38, v39] h21))
  (aBin false false .add y0 (.p (.str [34])) fun v40 =>
  K v40 H)

def runnelref6_ValueText_L2 (q2s1 y0 y1 : AV) (H : List Ob) (B2 : List AV → List Ob → Prop) (K : AV → List Ob → Prop) : Prop :=
  aFieldAddr 4 q2s1 fun v41 =>
  aLoad false 1 v41 H fun v42 =>
  aLen false false v42 fun v43 =>
  aBin false false .lss y1 v43 fun v44 =>
  aGuard v44
  (aBin false false .gtr y1 (.p (.int .i64 0)) fun v45 =>
  aGuard v45
  (aBin false false .add y0 (.p (.str [44])) fun v46 =>
  aFieldAddr 4 q2s1 fun v47 =>
  aLoad false 1 v47 H fun v48 =>
  aIndexAddr 5 v48 y1 fun v49 =>
  aLoad true 5 v49 H fun v50 =>
  aCall Tryz.prog (.p (.func runnelref6_ValueText_i [])) [v50] H fun v51 h52 =>
  aBin false false .add v46 v51 fun v53 =>
  aBin false false .add y1 (.p (.int .i64 1)) fun v54 =>
  B2 [v53, v54] h52)
  (aFieldAddr 4 q2s1 fun v55 =>
  aLoad false 1 v55 H fun v56 =>
  aIndexAddr 5 v56 y1 fun v57 =>
  aLoad true 5 v57 H fun v58 =>
  aCall Tryz.prog (.p (.func runnelref6_ValueText_i [])) [v58] H fun v59 h60 =>
  aBin false false .add y0 v59 fun v61 =>
  aBin false false .add y1 (.p (.int .i64 1)) fun v62 =>
  B2 [v61, v62] h60))
  (aBin false false .add y0 (.p (.str [41])) fun v63 =>
  K v63 H)

def runnelref6_ValueText (x0 : AV) (H : List Ob) (K : AV → List Ob → Prop) : Prop :=
  aBox x0 H fun v0 h1 =>
  aFieldAddr 0 v0 fun v2 =>
  aLoad false 1 v2 h1 fun v3 =>
  aBin false false .eql v3 (.p (.int .i64 1)) fun v4 =>
  aGuard v4
  (aFieldAddr 1 v0 fun v5 =>
  aLoad false 1 v5 h1 fun v6 =>
  aCall Tryz.prog (.p (.func runnelref6_Decimal_i [])) [v6] h1 fun v7 h8 =>
  K v7 h8)
  (aBin false false .eql v3 (.p (.int .i64 2)) fun v9 =>
  aGuard v9
  (aFieldAddr 2 v0 fun v10 =>
  aLoad false 1 v10 h1 fun v11 =>
  aGuard v11
  (K (.p (.str [116, 114, 117, 101])) h1)
  (K (.p (.str [102, 97, 108, 115, 101])) h1))
  (aBin false false .eql v3 (.p (.int .i64 3)) fun v12 =>
  aGuard v12
  (aLoopN 2 [(.p (.str [34])), (.p (.int .i64 0))] h1 fun xs H B1 => runnelref6_ValueText_L1 v0 (xs.getD 0 .top) (xs.getD 1 .top) H B1 K)
  (aLoopN 2 [(.p (.str [40])), (.p (.int .i64 0))] h1 fun xs H B2 => runnelref6_ValueText_L2 v0 (xs.getD 0 .top) (xs.getD 1 .top) H B2 K)))

def runnelref6_ValueText_ann : Nat → List Nat := fun k => match k with | 11 => [3, 4] | 20 => [6, 7] | _ => []

theorem runnelref6_ValueText_eq (x0 : AV) (H : List Ob) (r : AV) (Ho : List Ob) : aBody Tryz.prog runnelref6_ValueText_ann Tryz.f51 H [x0] r Ho = runnelref6_ValueText x0 H (fun v H' => Gives H.length v H' r Ho) := by kernel_rfl

theorem runnelref6_ValueText_fnH {x0 : AV} {Hin : List Ob} {r : AV} {Ho : List Ob} (h : runnelref6_ValueText x0 Hin (fun v H' => Gives Hin.length v H' r Ho)) : Abs.Fn Tryz.prog runnelref6_ValueText_i Hin [x0] r Ho :=
  fn_intro mixed runnelref6_ValueText_ann (fn := Tryz.f51) (by kernel_rfl) (by kernel_rfl) (by rw [runnelref6_ValueText_eq]; exact h)

theorem runnelref6_ValueText_fn {x0 : AV} {r : AV} {Ho : List Ob} (h : runnelref6_ValueText x0 [] (fun v H' => Gives 0 v H' r Ho)) : Abs.Fn Tryz.prog runnelref6_ValueText_i [] [x0] r Ho := runnelref6_ValueText_fnH (Hin := []) h

/- runnel/runnelref6.Decimal -/
def runnelref6_Decimal_L1 (y0 y1 : AV) (H : List Ob) (B1 : List AV → List Ob → Prop) (K : AV → List Ob → Prop) : Prop :=
  aBin false false .geq y0 (.p (.int .i64 10)) fun v11 =>
  aGuard v11
  (aBin false false .quo y0 (.p (.int .i64 10)) fun v12 =>
  aBin false false .rem v12 (.p (.int .i64 10)) fun v13 =>
  aBin false false .add (.p (.int .i64 48)) v13 fun v14 =>
  aConvInt .u8 v14 fun v15 =>
  aBuildSlice 1 [v15] fun v16 =>
  aBytesStr v16 fun v17 =>
  aBin false false .add v17 y1 fun v18 =>
  B1 [v12, v18] H)
  (K y1 H)

def runnelref6_Decimal (x0 : AV) (H : List Ob) (K : AV → List Ob → Prop) : Prop :=
  aBin false false .eql x0 (.p (.int .i64 (-9223372036854775808))) fun v0 =>
  aGuard v0
  (K (.p (.str [45, 57, 50, 50, 51, 51, 55, 50, 48, 51, 54, 56, 53, 52, 55, 55, 53, 56, 48, 56])) H)
  (aBin false false .lss x0 (.p (.int .i64 0)) fun v1 =>
  aGuard v1
  (aBin false false .sub (.p (.int .i64 0)) x0 fun v2 =>
  aCall Tryz.prog (.p (.func runnelref6_Decimal_i [])) [v2] H fun v3 h4 =>
  aBin false false .add (.p (.str [45])) v3 fun v5 =>
  K v5 h4)
  (aBin false false .rem x0 (.p (.int .i64 10)) fun v6 =>
  aBin false false .add (.p (.int .i64 48)) v6 fun v7 =>
  aConvInt .u8 v7 fun v8 =>
  aBuildSlice 1 [v8] fun v9 =>
  aBytesStr v9 fun v10 =>
  aLoopN 2 [x0, v10] H fun xs H B1 => runnelref6_Decimal_L1 (xs.getD 0 .top) (xs.getD 1 .top) H B1 K))

def runnelref6_Decimal_ann : Nat → List Nat := fun k => match k with | 6 => [0, 3] | _ => []

theorem runnelref6_Decimal_eq (x0 : AV) (H : List Ob) (r : AV) (Ho : List Ob) : aBody Tryz.prog runnelref6_Decimal_ann Tryz.f52 H [x0] r Ho = runnelref6_Decimal x0 H (fun v H' => Gives H.length v H' r Ho) := by kernel_rfl

theorem runnelref6_Decimal_fnH {x0 : AV} {Hin : List Ob} {r : AV} {Ho : List Ob} (h : runnelref6_Decimal x0 Hin (fun v H' => Gives Hin.length v H' r Ho)) : Abs.Fn Tryz.prog runnelref6_Decimal_i Hin [x0] r Ho :=
  fn_intro mixed runnelref6_Decimal_ann (fn := Tryz.f52) (by kernel_rfl) (by kernel_rfl) (by rw [runnelref6_Decimal_eq]; exact h)

theorem runnelref6_Decimal_fn {x0 : AV} {r : AV} {Ho : List Ob} (h : runnelref6_Decimal x0 [] (fun v H' => Gives 0 v H' r Ho)) : Abs.Fn Tryz.prog runnelref6_Decimal_i [] [x0] r Ho := runnelref6_Decimal_fnH (Hin := []) h

/- runnel/runnelref6.Same -/
def runnelref6_Same (x0 x1 : AV) (H : List Ob) (K : AV → List Ob → Prop) : Prop :=
  aBox x0 H fun v0 h1 =>
  aBox x1 h1 fun v2 h3 =>
  aLoad true 5 v0 h3 fun v4 =>
  aLoad true 5 v2 h3 fun v5 =>
  aCall Tryz.prog (.p (.func runnelref6_Compare_i [])) [v4, v5] h3 fun v6 h7 =>
  aBin false false .eql v6 (.p (.int .i64 0)) fun v8 =>
  K v8 h7

def runnelref6_Same_ann : Nat → List Nat := fun _ => []

theorem runnelref6_Same_eq (x0 x1 : AV) (H : List Ob) (r : AV) (Ho : List Ob) : aBody Tryz.prog runnelref6_Same_ann Tryz.f53 H [x0, x1] r Ho = runnelref6_Same x0 x1 H (fun v H' => Gives H.length v H' r Ho) := by kernel_rfl

theorem runnelref6_Same_fnH {x0 x1 : AV} {Hin : List Ob} {r : AV} {Ho : List Ob} (h : runnelref6_Same x0 x1 Hin (fun v H' => Gives Hin.length v H' r Ho)) : Abs.Fn Tryz.prog runnelref6_Same_i Hin [x0, x1] r Ho :=
  fn_intro mixed runnelref6_Same_ann (fn := Tryz.f53) (by kernel_rfl) (by kernel_rfl) (by rw [runnelref6_Same_eq]; exact h)

theorem runnelref6_Same_fn {x0 x1 : AV} {r : AV} {Ho : List Ob} (h : runnelref6_Same x0 x1 [] (fun v H' => Gives 0 v H' r Ho)) : Abs.Fn Tryz.prog runnelref6_Same_i [] [x0, x1] r Ho := runnelref6_Same_fnH (Hin := []) h

/- runnel/val.Check -/
def val_Check (x0 : AV) (H : List Ob) (K : AV → List Ob → Prop) : Prop :=
  aBox x0 H fun v0 h1 =>
  aLoad true 5 v0 h1 fun v2 =>
  aCall Tryz.prog (.p (.func val_check_i [])) [v2, (.p (.int .i64 0))] h1 fun v3 h4 =>
  K v3 h4

def val_Check_ann : Nat → List Nat := fun _ => []

theorem val_Check_eq (x0 : AV) (H : List Ob) (r : AV) (Ho : List Ob) : aBody Tryz.prog val_Check_ann Tryz.f54 H [x0] r Ho = val_Check x0 H (fun v H' => Gives H.length v H' r Ho) := by kernel_rfl

theorem val_Check_fnH {x0 : AV} {Hin : List Ob} {r : AV} {Ho : List Ob} (h : val_Check x0 Hin (fun v H' => Gives Hin.length v H' r Ho)) : Abs.Fn Tryz.prog val_Check_i Hin [x0] r Ho :=
  fn_intro mixed val_Check_ann (fn := Tryz.f54) (by kernel_rfl) (by kernel_rfl) (by rw [val_Check_eq]; exact h)

theorem val_Check_fn {x0 : AV} {r : AV} {Ho : List Ob} (h : val_Check x0 [] (fun v H' => Gives 0 v H' r Ho)) : Abs.Fn Tryz.prog val_Check_i [] [x0] r Ho := val_Check_fnH (Hin := []) h

/- strconv.FormatBool -/
def strconv_FormatBool (x0 : AV) (H : List Ob) (K : AV → List Ob → Prop) : Prop :=
  aCall Tryz.prog (.p (.func internal_strconv_FormatBool_i [])) [x0] H fun v0 h1 =>
  K v0 h1

def strconv_FormatBool_ann : Nat → List Nat := fun _ => []

theorem strconv_FormatBool_eq (x0 : AV) (H : List Ob) (r : AV) (Ho : List Ob) : aBody Tryz.prog strconv_FormatBool_ann Tryz.f56 H [x0] r Ho = strconv_FormatBool x0 H (fun v H' => Gives H.length v H' r Ho) := by kernel_rfl

theorem strconv_FormatBool_fnH {x0 : AV} {Hin : List Ob} {r : AV} {Ho : List Ob} (h : strconv_FormatBool x0 Hin (fun v H' => Gives Hin.length v H' r Ho)) : Abs.Fn Tryz.prog strconv_FormatBool_i Hin [x0] r Ho :=
  fn_intro mixed strconv_FormatBool_ann (fn := Tryz.f56) (by kernel_rfl) (by kernel_rfl) (by rw [strconv_FormatBool_eq]; exact h)

theorem strconv_FormatBool_fn {x0 : AV} {r : AV} {Ho : List Ob} (h : strconv_FormatBool x0 [] (fun v H' => Gives 0 v H' r Ho)) : Abs.Fn Tryz.prog strconv_FormatBool_i [] [x0] r Ho := strconv_FormatBool_fnH (Hin := []) h

/- runnel/val.quote -/
def val_quote_L1 (q1s8 q1s9 y0 y1 : AV) (H : List Ob) (B1 : List AV → List Ob → Prop) (K : AV → List Ob → Prop) : Prop :=
  aBin false false .lss y1 q1s9 fun v3 =>
  aGuard v3
  (aIndexAddr 1 q1s8 y1 fun v4 =>
  aLoad false 1 v4 H fun v5 =>
  aBin false false .lss v5 (.p (.int .u8 32)) fun v6 =>
  aMerge false v6 (fun Q7 =>
  aBin false false .gtr v5 (.p (.int .u8 126)) fun v8 =>
  (H = H ∧ Q7 v8)) fun v9 =>
  aMerge false v9 (fun Q10 =>
  aBin false false .eql v5 (.p (.int .u8 34)) fun v11 =>
  (H = H ∧ Q10 v11)) fun v12 =>
  aMerge false v12 (fun Q13 =>
  aBin false false .eql v5 (.p (.int .u8 92)) fun v14 =>
  (H = H ∧ Q13 v14)) fun v15 =>
  aGuard v15
  (aBin false false .shr v5 (.p (.int .u64 4)) fun v16 =>
  aIndex (.p (.str [48, 49, 50, 51, 52, 53, 54, 55, 56, 57, 97, 98, 99, 100, 101, 102])) v16 fun v17 =>
  aBin false false .and v5 (.p (.int .u8 15)) fun v18 =>
  aIndex (.p (.str [48, 49, 50, 51, 52, 53, 54, 55, 56, 57, 97, 98, 99, 100, 101, 102])) v18 fun v19 =>
  aBuildSlice 1 [(.p (.int .u8 92)), v17, v19] fun v20 =>
  aCalm [y0, v20] <|
  aAppend false 1 1 y0 v20 H fun v21 h22 =>
  aBin false false .add y1 (.p (.int .i64 1)) fun v23 =>
  B1 [v21, v23] h22)
  (aBuildSlice 1 [v5] fun v24 =>
  aAppend false 1 1 y0 v24 H fun v25 h26 =>
  aBin false false .add y1 (.p (.int .i64 1)) fun v27 =>
  B1 [v25, v27] h26))
  (aBuildSlice 1 [(.p (.int .u8 34))] fun v28 =>
  aAppend false 1 1 y0 v28 H fun v29 h30 =>
  aBytesStr v29 fun v31 =>
  K v31 h30)

def val_quote (x0 : AV) (H : List Ob) (K : AV → List Ob → Prop) : Prop :=
  aBuildSlice 1 [(.p (.int .u8 34))] fun v0 =>
  aStrBytes x0 fun v1 =>
  aLen false false v1 fun v2 =>
  aLoopN 2 [v0, (.p (.int .i64 0))] H fun xs H B1 => val_quote_L1 v1 v2 (xs.getD 0 .top) (xs.getD 1 .top) H B1 K

def val_quote_ann : Nat → List Nat := fun k => match k with | 3 => [3, 10] | _ => []

theorem val_quote_eq (x0 : AV) (H : List Ob) (r : AV) (Ho : List Ob) : aBody Tryz.prog val_quote_ann Tryz.f57 H [x0] r Ho = val_quote x0 H (fun v H' => Gives H.length v H' r Ho) := by kernel_rfl

theorem val_quote_fnH {x0 : AV} {Hin : List Ob} {r : AV} {Ho : List Ob} (h : val_quote x0 Hin (fun v H' => Gives Hin.length v H' r Ho)) : Abs.Fn Tryz.prog val_quote_i Hin [x0] r Ho :=
  fn_intro mixed val_quote_ann (fn := Tryz.f57) (by kernel_rfl) (by kernel_rfl) (by rw [val_quote_eq]; exact h)

theorem val_quote_fn {x0 : AV} {r : AV} {Ho : List Ob} (h : val_quote x0 [] (fun v H' => Gives 0 v H' r Ho)) : Abs.Fn Tryz.prog val_quote_i [] [x0] r Ho := val_quote_fnH (Hin := []) h

/- runnel/val.Compare -/
def val_Compare (x0 x1 : AV) (H : List Ob) (K : AV → List Ob → Prop) : Prop :=
  aBox x0 H fun v0 h1 =>
  aBox x1 h1 fun v2 h3 =>
  aFieldAddr 0 v0 fun v4 =>
  aLoad false 1 v4 h3 fun v5 =>
  aFieldAddr 0 v2 fun v6 =>
  aLoad false 1 v6 h3 fun v7 =>
  aCallT Tryz.prog (.p (.func cmp_Compare_int_i [])) [v5, v7] fun v8 =>
  aFieldAddr 1 v0 fun v9 =>
  aLoad false 1 v9 h3 fun v10 =>
  aFieldAddr 1 v2 fun v11 =>
  aLoad false 1 v11 h3 fun v12 =>
  aCallT Tryz.prog (.p (.func cmp_Compare_int64_i [])) [v10, v12] fun v13 =>
  aFieldAddr 2 v0 fun v14 =>
  aLoad false 1 v14 h3 fun v15 =>
  aCallT Tryz.prog (.p (.func val_truth_i [])) [v15] fun v16 =>
  aFieldAddr 2 v2 fun v17 =>
  aLoad false 1 v17 h3 fun v18 =>
  aCallT Tryz.prog (.p (.func val_truth_i [])) [v18] fun v19 =>
  aCallT Tryz.prog (.p (.func cmp_Compare_int_i [])) [v16, v19] fun v20 =>
  aFieldAddr 3 v0 fun v21 =>
  aLoad false 1 v21 h3 fun v22 =>
  aFieldAddr 3 v2 fun v23 =>
  aLoad false 1 v23 h3 fun v24 =>
  aCallT Tryz.prog (.p (.func strings_Compare_i [])) [v22, v24] fun v25 =>
  aBuildSlice 1 [v8, v13, v20, v25] fun v26 =>
  aCallT Tryz.prog (.p (.func cmp_Or_int_i [])) [v26] fun v27 =>
  aBin false false .neq v27 (.p (.int .i64 0)) fun v28 =>
  aGuard v28
  (K v27 h3)
  (aFieldAddr 4 v0 fun v29 =>
  aLoad false 1 v29 h3 fun v30 =>
  aFieldAddr 4 v2 fun v31 =>
  aLoad false 1 v31 h3 fun v32 =>
  aCall Tryz.prog (.p (.func val_rows_val_Value_i [])) [v30, v32, (.p (.func val_Compare_i []))] h3 fun v33 h34 =>
  K v33 h34)

def val_Compare_ann : Nat → List Nat := fun _ => []

theorem val_Compare_eq (x0 x1 : AV) (H : List Ob) (r : AV) (Ho : List Ob) : aBody Tryz.prog val_Compare_ann Tryz.f58 H [x0, x1] r Ho = val_Compare x0 x1 H (fun v H' => Gives H.length v H' r Ho) := by kernel_rfl

theorem val_Compare_fnH {x0 x1 : AV} {Hin : List Ob} {r : AV} {Ho : List Ob} (h : val_Compare x0 x1 Hin (fun v H' => Gives Hin.length v H' r Ho)) : Abs.Fn Tryz.prog val_Compare_i Hin [x0, x1] r Ho :=
  fn_intro mixed val_Compare_ann (fn := Tryz.f58) (by kernel_rfl) (by kernel_rfl) (by rw [val_Compare_eq]; exact h)

theorem val_Compare_fn {x0 x1 : AV} {r : AV} {Ho : List Ob} (h : val_Compare x0 x1 [] (fun v H' => Gives 0 v H' r Ho)) : Abs.Fn Tryz.prog val_Compare_i [] [x0, x1] r Ho := val_Compare_fnH (Hin := []) h

/- runnel/runnellaw2.Few -/
def runnellaw2_Few (x0 : AV) (H : List Ob) (K : AV → List Ob → Prop) : Prop :=
  aBox x0 H fun v0 h1 =>
  aLoad true 5 v0 h1 fun v2 =>
  aCall Tryz.prog (.p (.func runnellaw2_budget_i [])) [v2, (.p (.int .i64 12)), (.p (.int .i64 300))] h1 fun v3 h4 =>
  aBin false false .gtr v3 (.p (.int .i64 0)) fun v5 =>
  K v5 h4

def runnellaw2_Few_ann : Nat → List Nat := fun _ => []

theorem runnellaw2_Few_eq (x0 : AV) (H : List Ob) (r : AV) (Ho : List Ob) : aBody Tryz.prog runnellaw2_Few_ann Tryz.f75 H [x0] r Ho = runnellaw2_Few x0 H (fun v H' => Gives H.length v H' r Ho) := by kernel_rfl

theorem runnellaw2_Few_fnH {x0 : AV} {Hin : List Ob} {r : AV} {Ho : List Ob} (h : runnellaw2_Few x0 Hin (fun v H' => Gives Hin.length v H' r Ho)) : Abs.Fn Tryz.prog runnellaw2_Few_i Hin [x0] r Ho :=
  fn_intro mixed runnellaw2_Few_ann (fn := Tryz.f75) (by kernel_rfl) (by kernel_rfl) (by rw [runnellaw2_Few_eq]; exact h)

theorem runnellaw2_Few_fn {x0 : AV} {r : AV} {Ho : List Ob} (h : runnellaw2_Few x0 [] (fun v H' => Gives 0 v H' r Ho)) : Abs.Fn Tryz.prog runnellaw2_Few_i [] [x0] r Ho := runnellaw2_Few_fnH (Hin := []) h

/- runnel/runnelref6.plain -/
def runnelref6_plain (x0 : AV) (H : List Ob) (K : AV → List Ob → Prop) : Prop :=
  aBin false false .geq x0 (.p (.int .u8 32)) fun v0 =>
  aMerge true v0 (fun Q1 =>
  aBin false false .leq x0 (.p (.int .u8 126)) fun v2 =>
  (H = H ∧ Q1 v2)) fun v3 =>
  aMerge true v3 (fun Q4 =>
  aBin false false .neq x0 (.p (.int .u8 34)) fun v5 =>
  (H = H ∧ Q4 v5)) fun v6 =>
  aMerge true v6 (fun Q7 =>
  aBin false false .neq x0 (.p (.int .u8 92)) fun v8 =>
  (H = H ∧ Q7 v8)) fun v9 =>
  K v9 H

def runnelref6_plain_ann : Nat → List Nat := fun _ => []

theorem runnelref6_plain_eq (x0 : AV) (H : List Ob) (r : AV) (Ho : List Ob) : aBody Tryz.prog runnelref6_plain_ann Tryz.f85 H [x0] r Ho = runnelref6_plain x0 H (fun v H' => Gives H.length v H' r Ho) := by kernel_rfl

theorem runnelref6_plain_fnH {x0 : AV} {Hin : List Ob} {r : AV} {Ho : List Ob} (h : runnelref6_plain x0 Hin (fun v H' => Gives Hin.length v H' r Ho)) : Abs.Fn Tryz.prog runnelref6_plain_i Hin [x0] r Ho :=
  fn_intro mixed runnelref6_plain_ann (fn := Tryz.f85) (by kernel_rfl) (by kernel_rfl) (by rw [runnelref6_plain_eq]; exact h)

theorem runnelref6_plain_fn {x0 : AV} {r : AV} {Ho : List Ob} (h : runnelref6_plain x0 [] (fun v H' => Gives 0 v H' r Ho)) : Abs.Fn Tryz.prog runnelref6_plain_i [] [x0] r Ho := runnelref6_plain_fnH (Hin := []) h

/- runnel/runnelref6.Compare -/
def runnelref6_Compare_L1 (q1s2 q1s3 y0 : AV) (H : List Ob) (B1 : List AV → List Ob → Prop) (K : AV → List Ob → Prop) : Prop :=
  aFieldAddr 4 q1s2 fun v49 =>
  aLoad false 1 v49 H fun v50 =>
  aLen false false v50 fun v51 =>
  aBin false false .lss y0 v51 fun v52 =>
  aMerge true v52 (fun Q53 =>
  aFieldAddr 4 q1s3 fun v54 =>
  aLoad false 1 v54 H fun v55 =>
  aLenS false v55 fun v56 =>
  aBin false false .lss y0 v56 fun v57 =>
  (H = H ∧ Q53 v57)) fun v58 =>
  aGuard v58
  (aFieldAddr 4 q1s2 fun v59 =>
  aLoad false 1 v59 H fun v60 =>
  aIndexAddr 5 v60 y0 fun v61 =>
  aLoad true 5 v61 H fun v62 =>
  aFieldAddr 4 q1s3 fun v63 =>
  aLoad false 1 v63 H fun v64 =>
  aIndexAddr 5 v64 y0 fun v65 =>
  aLoad true 5 v65 H fun v66 =>
  aCallT Tryz.prog (.p (.func runnelref6_Compare_i [])) [v62, v66] fun v67 =>
  aBin false false .neq v67 (.p (.int .i64 0)) fun v68 =>
  aGuard v68
  (K v67 H)
  (aBin false false .add y0 (.p (.int .i64 1)) fun v69 =>
  B1 [v69] H))
  (aFieldAddr 4 q1s2 fun v70 =>
  aLoad false 1 v70 H fun v71 =>
  aLen false false v71 fun v72 =>
  aFieldAddr 4 q1s3 fun v73 =>
  aLoad false 1 v73 H fun v74 =>
  aLen false false v74 fun v75 =>
  aBin false false .neq v72 v75 fun v76 =>
  aGuard v76
  (aFieldAddr 4 q1s2 fun v77 =>
  aLoad false 1 v77 H fun v78 =>
  aLen false false v78 fun v79 =>
  aFieldAddr 4 q1s3 fun v80 =>
  aLoad false 1 v80 H fun v81 =>
  aLen false false v81 fun v82 =>
  aBin false false .lss v79 v82 fun v83 =>
  aCall Tryz.prog (.p (.func runnelref6_less_i [])) [v83] H fun v84 h85 =>
  K v84 h85)
  (K (.p (.int .i64 0)) H))

def runnelref6_Compare (x0 x1 : AV) (H : List Ob) (K : AV → List Ob → Prop) : Prop :=
  aBox x0 H fun v0 h1 =>
  aBox x1 h1 fun v2 h3 =>
  aFieldAddr 0 v0 fun v4 =>
  aLoad false 1 v4 h3 fun v5 =>
  aFieldAddr 0 v2 fun v6 =>
  aLoad false 1 v6 h3 fun v7 =>
  aBin false false .neq v5 v7 fun v8 =>
  aGuard v8
  (aFieldAddr 0 v0 fun v9 =>
  aLoad false 1 v9 h3 fun v10 =>
  aFieldAddr 0 v2 fun v11 =>
  aLoad false 1 v11 h3 fun v12 =>
  aBin false false .lss v10 v12 fun v13 =>
  aCall Tryz.prog (.p (.func runnelref6_less_i [])) [v13] h3 fun v14 h15 =>
  K v14 h15)
  (aFieldAddr 1 v0 fun v16 =>
  aLoad false 1 v16 h3 fun v17 =>
  aFieldAddr 1 v2 fun v18 =>
  aLoad false 1 v18 h3 fun v19 =>
  aBin false false .neq v17 v19 fun v20 =>
  aGuard v20
  (aFieldAddr 1 v0 fun v21 =>
  aLoad false 1 v21 h3 fun v22 =>
  aFieldAddr 1 v2 fun v23 =>
  aLoad false 1 v23 h3 fun v24 =>
  aBin false false .lss v22 v24 fun v25 =>
  aCall Tryz.prog (.p (.func runnelref6_less_i [])) [v25] h3 fun v26 h27 =>
  K v26 h27)
  (aFieldAddr 2 v0 fun v28 =>
  aLoad false 1 v28 h3 fun v29 =>
  aFieldAddr 2 v2 fun v30 =>
  aLoad false 1 v30 h3 fun v31 =>
  aBin true false .neq v29 v31 fun v32 =>
  aGuard v32
  (aFieldAddr 2 v2 fun v33 =>
  aLoad false 1 v33 h3 fun v34 =>
  aCall Tryz.prog (.p (.func runnelref6_less_i [])) [v34] h3 fun v35 h36 =>
  K v35 h36)
  (aFieldAddr 3 v0 fun v37 =>
  aLoad false 1 v37 h3 fun v38 =>
  aFieldAddr 3 v2 fun v39 =>
  aLoad false 1 v39 h3 fun v40 =>
  aBin false false .neq v38 v40 fun v41 =>
  aGuard v41
  (aFieldAddr 3 v0 fun v42 =>
  aLoad false 1 v42 h3 fun v43 =>
  aFieldAddr 3 v2 fun v44 =>
  aLoad false 1 v44 h3 fun v45 =>
  aBin false false .lss v43 v45 fun v46 =>
  aCall Tryz.prog (.p (.func runnelref6_less_i [])) [v46] h3 fun v47 h48 =>
  K v47 h48)
  (aLoopN 1 [(.p (.int .i64 0))] h3 fun xs H B1 => runnelref6_Compare_L1 v0 v2 (xs.getD 0 .top) H B1 K))))

def runnelref6_Compare_ann : Nat → List Nat := fun k => match k with | 10 => [5] | _ => []

theorem runnelref6_Compare_eq (x0 x1 : AV) (H : List Ob) (r : AV) (Ho : List Ob) : aBody Tryz.prog runnelref6_Compare_ann Tryz.f86 H [x0, x1] r Ho = runnelref6_Compare x0 x1 H (fun v H' => Gives H.length v H' r Ho) := by kernel_rfl

theorem runnelref6_Compare_fnH {x0 x1 : AV} {Hin : List Ob} {r : AV} {Ho : List Ob} (h : runnelref6_Compare x0 x1 Hin (fun v H' => Gives Hin.length v H' r Ho)) : Abs.Fn Tryz.prog runnelref6_Compare_i Hin [x0, x1] r Ho :=
  fn_intro mixed runnelref6_Compare_ann (fn := Tryz.f86) (by kernel_rfl) (by kernel_rfl) (by rw [runnelref6_Compare_eq]; exact h)

theorem runnelref6_Compare_fn {x0 x1 : AV} {r : AV} {Ho : List Ob} (h : runnelref6_Compare x0 x1 [] (fun v H' => Gives 0 v H' r Ho)) : Abs.Fn Tryz.prog runnelref6_Compare_i [] [x0, x1] r Ho := runnelref6_Compare_fnH (Hin := []) h

/- runnel/val.check -/
def val_check_L1 (q1s1 q1s2 y0 y1 : AV) (H : List Ob) (B1 : List AV → List Ob → Prop) (K : AV → List Ob → Prop) : Prop :=
  aFieldAddr 4 q1s2 fun v25 =>
  aLoad false 1 v25 H fun v26 =>
  aLen false false v26 fun v27 =>
  aBin false false .lss y1 v27 fun v28 =>
  aMerge true v28 (fun Q29 =>
  aBin false false .eql y0 (.p (.int .i64 0)) fun v30 =>
  (H = H ∧ Q29 v30)) fun v31 =>
  aGuard v31
  (aFieldAddr 4 q1s2 fun v32 =>
  aLoad false 1 v32 H fun v33 =>
  aIndexAddr 5 v33 y1 fun v34 =>
  aLoad true 5 v34 H fun v35 =>
  aBin false false .add q1s1 (.p (.int .i64 1)) fun v36 =>
  aCall Tryz.prog (.p (.func val_check_i [])) [v35, v36] H fun v37 h38 =>
  aBin false false .add y1 (.p (.int .i64 1)) fun v39 =>
  B1 [v37, v39] h38)
  (K y0 H)

def val_check (x0 x1 : AV) (H : List Ob) (K : AV → List Ob → Prop) : Prop :=
  aBox x0 H fun v0 h1 =>
  aFieldAddr 0 v0 fun v2 =>
  aLoad false 1 v2 h1 fun v3 =>
  aBin false false .lss v3 (.p (.int .i64 1)) fun v4 =>
  aMerge false v4 (fun Q5 =>
  aFieldAddr 0 v0 fun v6 =>
  aLoad false 1 v6 h1 fun v7 =>
  aBin false false .gtr v7 (.p (.int .i64 4)) fun v8 =>
  (h1 = h1 ∧ Q5 v8)) fun v9 =>
  aGuard v9
  (K (.p (.int .i64 5)) h1)
  (aLoad true 5 v0 h1 fun v10 =>
  aCall Tryz.prog (.p (.func val_spare_i [])) [v10] h1 fun v11 h12 =>
  aGuard v11
  (K (.p (.int .i64 2)) h12)
  (aFieldAddr 3 v0 fun v13 =>
  aLoad false 1 v13 h12 fun v14 =>
  aLen false true v14 fun v15 =>
  aBin false false .gtr v15 (.p (.int .i64 255)) fun v16 =>
  aGuard v16
  (K (.p (.int .i64 4)) h12)
  (aFieldAddr 0 v0 fun v17 =>
  aLoad false 1 v17 h12 fun v18 =>
  aBin false false .neq v18 (.p (.int .i64 4)) fun v19 =>
  aGuard v19
  (K (.p (.int .i64 0)) h12)
  (aFieldAddr 4 v0 fun v20 =>
  aLoad false 1 v20 h12 fun v21 =>
  aLen false false v21 fun v22 =>
  aCall Tryz.prog (.p (.func typ_Row_i [])) [v22, x1] h12 fun v23 h24 =>
  aLoopN 2 [v23, (.p (.int .i64 0))] h24 fun xs H B1 => val_check_L1 x1 v0 (xs.getD 0 .top) (xs.getD 1 .top) H B1 K))))

def val_check_ann : Nat → List Nat := fun k => match k with | 11 => [5, 6] | _ => []

theorem val_check_eq (x0 x1 : AV) (H : List Ob) (r : AV) (Ho : List Ob) : aBody Tryz.prog val_check_ann Tryz.f87 H [x0, x1] r Ho = val_check x0 x1 H (fun v H' => Gives H.length v H' r Ho) := by kernel_rfl

theorem val_check_fnH {x0 x1 : AV} {Hin : List Ob} {r : AV} {Ho : List Ob} (h : val_check x0 x1 Hin (fun v H' => Gives Hin.length v H' r Ho)) : Abs.Fn Tryz.prog val_check_i Hin [x0, x1] r Ho :=
  fn_intro mixed val_check_ann (fn := Tryz.f87) (by kernel_rfl) (by kernel_rfl) (by rw [val_check_eq]; exact h)

theorem val_check_fn {x0 x1 : AV} {r : AV} {Ho : List Ob} (h : val_check x0 x1 [] (fun v H' => Gives 0 v H' r Ho)) : Abs.Fn Tryz.prog val_check_i [] [x0, x1] r Ho := val_check_fnH (Hin := []) h

/- internal/strconv.FormatBool -/
def internal_strconv_FormatBool (x0 : AV) (H : List Ob) (K : AV → List Ob → Prop) : Prop :=
  aGuard x0
  (K (.p (.str [116, 114, 117, 101])) H)
  (K (.p (.str [102, 97, 108, 115, 101])) H)

def internal_strconv_FormatBool_ann : Nat → List Nat := fun _ => []

theorem internal_strconv_FormatBool_eq (x0 : AV) (H : List Ob) (r : AV) (Ho : List Ob) : aBody Tryz.prog internal_strconv_FormatBool_ann Tryz.f89 H [x0] r Ho = internal_strconv_FormatBool x0 H (fun v H' => Gives H.length v H' r Ho) := by kernel_rfl

theorem internal_strconv_FormatBool_fnH {x0 : AV} {Hin : List Ob} {r : AV} {Ho : List Ob} (h : internal_strconv_FormatBool x0 Hin (fun v H' => Gives Hin.length v H' r Ho)) : Abs.Fn Tryz.prog internal_strconv_FormatBool_i Hin [x0] r Ho :=
  fn_intro mixed internal_strconv_FormatBool_ann (fn := Tryz.f89) (by kernel_rfl) (by kernel_rfl) (by rw [internal_strconv_FormatBool_eq]; exact h)

theorem internal_strconv_FormatBool_fn {x0 : AV} {r : AV} {Ho : List Ob} (h : internal_strconv_FormatBool x0 [] (fun v H' => Gives 0 v H' r Ho)) : Abs.Fn Tryz.prog internal_strconv_FormatBool_i [] [x0] r Ho := internal_strconv_FormatBool_fnH (Hin := []) h

/- cmp.Or[int] -/
def cmp_Or_int_L1 (q1s3 q1s6 q1s7 y0 : AV) (H : List Ob) (B1 : List AV → List Ob → Prop) (K : AV → List Ob → Prop) : Prop :=
  aBin false false .lss y0 q1s7 fun v1 =>
  aGuard v1
  (aIndexAddr 1 q1s6 y0 fun v2 =>
  aLoad false 1 v2 H fun v3 =>
  aBin false false .neq v3 q1s3 fun v4 =>
  aGuard v4
  (K v3 H)
  (aBin false false .add y0 (.p (.int .i64 1)) fun v5 =>
  B1 [v5] H))
  (K q1s3 H)

def cmp_Or_int (x0 : AV) (H : List Ob) (K : AV → List Ob → Prop) : Prop :=
  aLen false false x0 fun v0 =>
  aLoopN 1 [(.p (.int .i64 0))] H fun xs H B1 => cmp_Or_int_L1 (.p (.int .i64 0)) x0 v0 (xs.getD 0 .top) H B1 K

def cmp_Or_int_ann : Nat → List Nat := fun k => match k with | 3 => [8] | _ => []

theorem cmp_Or_int_eq (x0 : AV) (H : List Ob) (r : AV) (Ho : List Ob) : aBody Tryz.prog cmp_Or_int_ann Tryz.f90 H [x0] r Ho = cmp_Or_int x0 H (fun v H' => Gives H.length v H' r Ho) := by kernel_rfl

theorem cmp_Or_int_fnH {x0 : AV} {Hin : List Ob} {r : AV} {Ho : List Ob} (h : cmp_Or_int x0 Hin (fun v H' => Gives Hin.length v H' r Ho)) : Abs.Fn Tryz.prog cmp_Or_int_i Hin [x0] r Ho :=
  fn_intro mixed cmp_Or_int_ann (fn := Tryz.f90) (by kernel_rfl) (by kernel_rfl) (by rw [cmp_Or_int_eq]; exact h)

theorem cmp_Or_int_fn {x0 : AV} {r : AV} {Ho : List Ob} (h : cmp_Or_int x0 [] (fun v H' => Gives 0 v H' r Ho)) : Abs.Fn Tryz.prog cmp_Or_int_i [] [x0] r Ho := cmp_Or_int_fnH (Hin := []) h

/- cmp.Compare[int] -/
def cmp_Compare_int (x0 x1 : AV) (H : List Ob) (K : AV → List Ob → Prop) : Prop :=
  aCall Tryz.prog (.p (.func cmp_isNaN_int_i [])) [x0] H fun v0 h1 =>
  aCall Tryz.prog (.p (.func cmp_isNaN_int_i [])) [x1] h1 fun v2 h3 =>
  aGuard v0
  (aGuard v2
  (K (.p (.int .i64 0)) h3)
  (K (.p (.int .i64 (-1))) h3))
  (aGuard v2
  (K (.p (.int .i64 1)) h3)
  (aBin false false .lss x0 x1 fun v4 =>
  aGuard v4
  (K (.p (.int .i64 (-1))) h3)
  (aBin false false .gtr x0 x1 fun v5 =>
  aGuard v5
  (K (.p (.int .i64 1)) h3)
  (K (.p (.int .i64 0)) h3))))

def cmp_Compare_int_ann : Nat → List Nat := fun _ => []

theorem cmp_Compare_int_eq (x0 x1 : AV) (H : List Ob) (r : AV) (Ho : List Ob) : aBody Tryz.prog cmp_Compare_int_ann Tryz.f91 H [x0, x1] r Ho = cmp_Compare_int x0 x1 H (fun v H' => Gives H.length v H' r Ho) := by kernel_rfl

theorem cmp_Compare_int_fnH {x0 x1 : AV} {Hin : List Ob} {r : AV} {Ho : List Ob} (h : cmp_Compare_int x0 x1 Hin (fun v H' => Gives Hin.length v H' r Ho)) : Abs.Fn Tryz.prog cmp_Compare_int_i Hin [x0, x1] r Ho :=
  fn_intro mixed cmp_Compare_int_ann (fn := Tryz.f91) (by kernel_rfl) (by kernel_rfl) (by rw [cmp_Compare_int_eq]; exact h)

theorem cmp_Compare_int_fn {x0 x1 : AV} {r : AV} {Ho : List Ob} (h : cmp_Compare_int x0 x1 [] (fun v H' => Gives 0 v H' r Ho)) : Abs.Fn Tryz.prog cmp_Compare_int_i [] [x0, x1] r Ho := cmp_Compare_int_fnH (Hin := []) h

/- cmp.Compare[int64] -/
def cmp_Compare_int64 (x0 x1 : AV) (H : List Ob) (K : AV → List Ob → Prop) : Prop :=
  aCall Tryz.prog (.p (.func cmp_isNaN_int64_i [])) [x0] H fun v0 h1 =>
  aCall Tryz.prog (.p (.func cmp_isNaN_int64_i [])) [x1] h1 fun v2 h3 =>
  aGuard v0
  (aGuard v2
  (K (.p (.int .i64 0)) h3)
  (K (.p (.int .i64 (-1))) h3))
  (aGuard v2
  (K (.p (.int .i64 1)) h3)
  (aBin false false .lss x0 x1 fun v4 =>
  aGuard v4
  (K (.p (.int .i64 (-1))) h3)
  (aBin false false .gtr x0 x1 fun v5 =>
  aGuard v5
  (K (.p (.int .i64 1)) h3)
  (K (.p (.int .i64 0)) h3))))

def cmp_Compare_int64_ann : Nat → List Nat := fun _ => []

theorem cmp_Compare_int64_eq (x0 x1 : AV) (H : List Ob) (r : AV) (Ho : List Ob) : aBody Tryz.prog cmp_Compare_int64_ann Tryz.f92 H [x0, x1] r Ho = cmp_Compare_int64 x0 x1 H (fun v H' => Gives H.length v H' r Ho) := by kernel_rfl

theorem cmp_Compare_int64_fnH {x0 x1 : AV} {Hin : List Ob} {r : AV} {Ho : List Ob} (h : cmp_Compare_int64 x0 x1 Hin (fun v H' => Gives Hin.length v H' r Ho)) : Abs.Fn Tryz.prog cmp_Compare_int64_i Hin [x0, x1] r Ho :=
  fn_intro mixed cmp_Compare_int64_ann (fn := Tryz.f92) (by kernel_rfl) (by kernel_rfl) (by rw [cmp_Compare_int64_eq]; exact h)

theorem cmp_Compare_int64_fn {x0 x1 : AV} {r : AV} {Ho : List Ob} (h : cmp_Compare_int64 x0 x1 [] (fun v H' => Gives 0 v H' r Ho)) : Abs.Fn Tryz.prog cmp_Compare_int64_i [] [x0, x1] r Ho := cmp_Compare_int64_fnH (Hin := []) h

/- runnel/val.truth -/
def val_truth (x0 : AV) (H : List Ob) (K : AV → List Ob → Prop) : Prop :=
  aGuard x0
  (K (.p (.int .i64 1)) H)
  (K (.p (.int .i64 0)) H)

def val_truth_ann : Nat → List Nat := fun _ => []

theorem val_truth_eq (x0 : AV) (H : List Ob) (r : AV) (Ho : List Ob) : aBody Tryz.prog val_truth_ann Tryz.f93 H [x0] r Ho = val_truth x0 H (fun v H' => Gives H.length v H' r Ho) := by kernel_rfl

theorem val_truth_fnH {x0 : AV} {Hin : List Ob} {r : AV} {Ho : List Ob} (h : val_truth x0 Hin (fun v H' => Gives Hin.length v H' r Ho)) : Abs.Fn Tryz.prog val_truth_i Hin [x0] r Ho :=
  fn_intro mixed val_truth_ann (fn := Tryz.f93) (by kernel_rfl) (by kernel_rfl) (by rw [val_truth_eq]; exact h)

theorem val_truth_fn {x0 : AV} {r : AV} {Ho : List Ob} (h : val_truth x0 [] (fun v H' => Gives 0 v H' r Ho)) : Abs.Fn Tryz.prog val_truth_i [] [x0] r Ho := val_truth_fnH (Hin := []) h

/- strings.Compare -/
def strings_Compare (x0 x1 : AV) (H : List Ob) (K : AV → List Ob → Prop) : Prop :=
  aCall Tryz.prog (.p (.func internal_bytealg_CompareString_i [])) [x0, x1] H fun v0 h1 =>
  K v0 h1

def strings_Compare_ann : Nat → List Nat := fun _ => []

theorem strings_Compare_eq (x0 x1 : AV) (H : List Ob) (r : AV) (Ho : List Ob) : aBody Tryz.prog strings_Compare_ann Tryz.f94 H [x0, x1] r Ho = strings_Compare x0 x1 H (fun v H' => Gives H.length v H' r Ho) := by kernel_rfl

theorem strings_Compare_fnH {x0 x1 : AV} {Hin : List Ob} {r : AV} {Ho : List Ob} (h : strings_Compare x0 x1 Hin (fun v H' => Gives Hin.length v H' r Ho)) : Abs.Fn Tryz.prog strings_Compare_i Hin [x0, x1] r Ho :=
  fn_intro mixed strings_Compare_ann (fn := Tryz.f94) (by kernel_rfl) (by kernel_rfl) (by rw [strings_Compare_eq]; exact h)

theorem strings_Compare_fn {x0 x1 : AV} {r : AV} {Ho : List Ob} (h : strings_Compare x0 x1 [] (fun v H' => Gives 0 v H' r Ho)) : Abs.Fn Tryz.prog strings_Compare_i [] [x0, x1] r Ho := strings_Compare_fnH (Hin := []) h

/- runnel/val.rows[runnel/val.Value] -/
def val_rows_val_Value (x0 x1 x2 : AV) (H : List Ob) (K : AV → List Ob → Prop) : Prop :=
  aCall Tryz.prog (.p (.func slices_CompareFunc_val_Value_val_Value_val_Value_val_Value_i [])) [x0, x1, x2] H fun v0 h1 =>
  K v0 h1

def val_rows_val_Value_ann : Nat → List Nat := fun _ => []

theorem val_rows_val_Value_eq (x0 x1 x2 : AV) (H : List Ob) (r : AV) (Ho : List Ob) : aBody Tryz.prog val_rows_val_Value_ann Tryz.f95 H [x0, x1, x2] r Ho = val_rows_val_Value x0 x1 x2 H (fun v H' => Gives H.length v H' r Ho) := by kernel_rfl

theorem val_rows_val_Value_fnH {x0 x1 x2 : AV} {Hin : List Ob} {r : AV} {Ho : List Ob} (h : val_rows_val_Value x0 x1 x2 Hin (fun v H' => Gives Hin.length v H' r Ho)) : Abs.Fn Tryz.prog val_rows_val_Value_i Hin [x0, x1, x2] r Ho :=
  fn_intro mixed val_rows_val_Value_ann (fn := Tryz.f95) (by kernel_rfl) (by kernel_rfl) (by rw [val_rows_val_Value_eq]; exact h)

theorem val_rows_val_Value_fn {x0 x1 x2 : AV} {r : AV} {Ho : List Ob} (h : val_rows_val_Value x0 x1 x2 [] (fun v H' => Gives 0 v H' r Ho)) : Abs.Fn Tryz.prog val_rows_val_Value_i [] [x0, x1, x2] r Ho := val_rows_val_Value_fnH (Hin := []) h

/- runnel/runnelref6.CheckValue -/
def runnelref6_CheckValue (x0 : AV) (H : List Ob) (K : AV → List Ob → Prop) : Prop :=
  aBox x0 H fun v0 h1 =>
  aLoad true 5 v0 h1 fun v2 =>
  aCall Tryz.prog (.p (.func runnelref6_checkValue_i [])) [v2, (.p (.int .i64 0))] h1 fun v3 h4 =>
  K v3 h4

def runnelref6_CheckValue_ann : Nat → List Nat := fun _ => []

theorem runnelref6_CheckValue_eq (x0 : AV) (H : List Ob) (r : AV) (Ho : List Ob) : aBody Tryz.prog runnelref6_CheckValue_ann Tryz.f98 H [x0] r Ho = runnelref6_CheckValue x0 H (fun v H' => Gives H.length v H' r Ho) := by kernel_rfl

theorem runnelref6_CheckValue_fnH {x0 : AV} {Hin : List Ob} {r : AV} {Ho : List Ob} (h : runnelref6_CheckValue x0 Hin (fun v H' => Gives Hin.length v H' r Ho)) : Abs.Fn Tryz.prog runnelref6_CheckValue_i Hin [x0] r Ho :=
  fn_intro mixed runnelref6_CheckValue_ann (fn := Tryz.f98) (by kernel_rfl) (by kernel_rfl) (by rw [runnelref6_CheckValue_eq]; exact h)

theorem runnelref6_CheckValue_fn {x0 : AV} {r : AV} {Ho : List Ob} (h : runnelref6_CheckValue x0 [] (fun v H' => Gives 0 v H' r Ho)) : Abs.Fn Tryz.prog runnelref6_CheckValue_i [] [x0] r Ho := runnelref6_CheckValue_fnH (Hin := []) h

/- runnel/val.TypeOf -/
def val_TypeOf (x0 : AV) (H : List Ob) (K : AV → List Ob → Prop) : Prop :=
  aBox x0 H fun v0 h1 =>
  aAlloc [(.p (.int .i64 0)), (.full [])] h1 fun v2 h3 =>
  aLoad true 5 v0 h3 fun v4 =>
  aCall Tryz.prog (.p (.func val_Check_i [])) [v4] h3 fun v5 h6 =>
  aBin false false .neq v5 (.p (.int .i64 0)) fun v7 =>
  aGuard v7
  (aBuild [(.p (.int .i64 0)), (.full [])] [] fun v8 =>
  aStore 2 v2 v8 h6 fun _ h10 =>
  aLoad true 2 v2 h10 fun v11 =>
  K v11 h10)
  (aLoad true 5 v0 h6 fun v12 =>
  aCall Tryz.prog (.p (.func val_kind_i [])) [v12] h6 fun v13 h14 =>
  aStore 2 v2 v13 h14 fun _ h16 =>
  aLoad true 2 v2 h16 fun v17 =>
  K v17 h16)

def val_TypeOf_ann : Nat → List Nat := fun _ => []

theorem val_TypeOf_eq (x0 : AV) (H : List Ob) (r : AV) (Ho : List Ob) : aBody Tryz.prog val_TypeOf_ann Tryz.f107 H [x0] r Ho = val_TypeOf x0 H (fun v H' => Gives H.length v H' r Ho) := by kernel_rfl

theorem val_TypeOf_fnH {x0 : AV} {Hin : List Ob} {r : AV} {Ho : List Ob} (h : val_TypeOf x0 Hin (fun v H' => Gives Hin.length v H' r Ho)) : Abs.Fn Tryz.prog val_TypeOf_i Hin [x0] r Ho :=
  fn_intro mixed val_TypeOf_ann (fn := Tryz.f107) (by kernel_rfl) (by kernel_rfl) (by rw [val_TypeOf_eq]; exact h)

theorem val_TypeOf_fn {x0 : AV} {r : AV} {Ho : List Ob} (h : val_TypeOf x0 [] (fun v H' => Gives 0 v H' r Ho)) : Abs.Fn Tryz.prog val_TypeOf_i [] [x0] r Ho := val_TypeOf_fnH (Hin := []) h

/- runnel/runnellaw2.budget -/
def runnellaw2_budget_L1 (q1s1 q1s3 y0 y1 : AV) (H : List Ob) (B1 : List AV → List Ob → Prop) (K : AV → List Ob → Prop) : Prop :=
  aFieldAddr 4 q1s3 fun v19 =>
  aLoad false 1 v19 H fun v20 =>
  aLen false false v20 fun v21 =>
  aBin false false .lss y1 v21 fun v22 =>
  aMerge true v22 (fun Q23 =>
  aBin false false .gtr y0 (.p (.int .i64 0)) fun v24 =>
  (H = H ∧ Q23 v24)) fun v25 =>
  aGuard v25
  (aFieldAddr 4 q1s3 fun v26 =>
  aLoad false 1 v26 H fun v27 =>
  aIndexAddr 5 v27 y1 fun v28 =>
  aLoad true 5 v28 H fun v29 =>
  aBin false false .sub q1s1 (.p (.int .i64 1)) fun v30 =>
  aCall Tryz.prog (.p (.func runnellaw2_budget_i [])) [v29, v30, y0] H fun v31 h32 =>
  aBin false false .add y1 (.p (.int .i64 1)) fun v33 =>
  B1 [v31, v33] h32)
  (K y0 H)

def runnellaw2_budget (x0 x1 x2 : AV) (H : List Ob) (K : AV → List Ob → Prop) : Prop :=
  aBox x0 H fun v0 h1 =>
  aBin false false .leq x2 (.p (.int .i64 0)) fun v2 =>
  aMerge false v2 (fun Q3 =>
  aBin false false .leq x1 (.p (.int .i64 0)) fun v4 =>
  (h1 = h1 ∧ Q3 v4)) fun v5 =>
  aMerge false v5 (fun Q6 =>
  aFieldAddr 4 v0 fun v7 =>
  aLoad false 1 v7 h1 fun v8 =>
  aLenS false v8 fun v9 =>
  aBin false false .gtr v9 (.p (.int .i64 20)) fun v10 =>
  (h1 = h1 ∧ Q6 v10)) fun v11 =>
  aMerge false v11 (fun Q12 =>
  aFieldAddr 3 v0 fun v13 =>
  aLoad false 1 v13 h1 fun v14 =>
  aLenS true v14 fun v15 =>
  aBin false false .gtr v15 (.p (.int .i64 300)) fun v16 =>
  (h1 = h1 ∧ Q12 v16)) fun v17 =>
  aGuard v17
  (K (.p (.int .i64 0)) h1)
  (aBin false false .sub x2 (.p (.int .i64 1)) fun v18 =>
  aLoopN 2 [v18, (.p (.int .i64 0))] h1 fun xs H B1 => runnellaw2_budget_L1 x1 v0 (xs.getD 0 .top) (xs.getD 1 .top) H B1 K)

def runnellaw2_budget_ann : Nat → List Nat := fun k => match k with | 5 => [2, 7] | _ => []

theorem runnellaw2_budget_eq (x0 x1 x2 : AV) (H : List Ob) (r : AV) (Ho : List Ob) : aBody Tryz.prog runnellaw2_budget_ann Tryz.f113 H [x0, x1, x2] r Ho = runnellaw2_budget x0 x1 x2 H (fun v H' => Gives H.length v H' r Ho) := by kernel_rfl

theorem runnellaw2_budget_fnH {x0 x1 x2 : AV} {Hin : List Ob} {r : AV} {Ho : List Ob} (h : runnellaw2_budget x0 x1 x2 Hin (fun v H' => Gives Hin.length v H' r Ho)) : Abs.Fn Tryz.prog runnellaw2_budget_i Hin [x0, x1, x2] r Ho :=
  fn_intro mixed runnellaw2_budget_ann (fn := Tryz.f113) (by kernel_rfl) (by kernel_rfl) (by rw [runnellaw2_budget_eq]; exact h)

theorem runnellaw2_budget_fn {x0 x1 x2 : AV} {r : AV} {Ho : List Ob} (h : runnellaw2_budget x0 x1 x2 [] (fun v H' => Gives 0 v H' r Ho)) : Abs.Fn Tryz.prog runnellaw2_budget_i [] [x0, x1, x2] r Ho := runnellaw2_budget_fnH (Hin := []) h

/- runnel/runnelref6.less -/
def runnelref6_less (x0 : AV) (H : List Ob) (K : AV → List Ob → Prop) : Prop :=
  aGuard x0
  (K (.p (.int .i64 (-1))) H)
  (K (.p (.int .i64 1)) H)

def runnelref6_less_ann : Nat → List Nat := fun _ => []

theorem runnelref6_less_eq (x0 : AV) (H : List Ob) (r : AV) (Ho : List Ob) : aBody Tryz.prog runnelref6_less_ann Tryz.f128 H [x0] r Ho = runnelref6_less x0 H (fun v H' => Gives H.length v H' r Ho) := by kernel_rfl

theorem runnelref6_less_fnH {x0 : AV} {Hin : List Ob} {r : AV} {Ho : List Ob} (h : runnelref6_less x0 Hin (fun v H' => Gives Hin.length v H' r Ho)) : Abs.Fn Tryz.prog runnelref6_less_i Hin [x0] r Ho :=
  fn_intro mixed runnelref6_less_ann (fn := Tryz.f128) (by kernel_rfl) (by kernel_rfl) (by rw [runnelref6_less_eq]; exact h)

theorem runnelref6_less_fn {x0 : AV} {r : AV} {Ho : List Ob} (h : runnelref6_less x0 [] (fun v H' => Gives 0 v H' r Ho)) : Abs.Fn Tryz.prog runnelref6_less_i [] [x0] r Ho := runnelref6_less_fnH (Hin := []) h

/- runnel/val.spare -/
def val_spare (x0 : AV) (H : List Ob) (K : AV → List Ob → Prop) : Prop :=
  aBox x0 H fun v0 h1 =>
  aFieldAddr 0 v0 fun v2 =>
  aLoad false 1 v2 h1 fun v3 =>
  aBin false false .neq v3 (.p (.int .i64 1)) fun v4 =>
  aMerge true v4 (fun Q5 =>
  aFieldAddr 1 v0 fun v6 =>
  aLoad false 1 v6 h1 fun v7 =>
  aBin false false .neq v7 (.p (.int .i64 0)) fun v8 =>
  (h1 = h1 ∧ Q5 v8)) fun v9 =>
  aMerge false v9 (fun Q10 =>
  aFieldAddr 0 v0 fun v11 =>
  aLoad false 1 v11 h1 fun v12 =>
  aBin false false .neq v12 (.p (.int .i64 2)) fun v13 =>
  aMerge true v13 (fun Q14 =>
  aFieldAddr 2 v0 fun v15 =>
  aLoad false 1 v15 h1 fun v16 =>
  (h1 = h1 ∧ Q14 v16)) fun v17 =>
  (h1 = h1 ∧ Q10 v17)) fun v18 =>
  aMerge false v18 (fun Q19 =>
  aFieldAddr 0 v0 fun v20 =>
  aLoad false 1 v20 h1 fun v21 =>
  aBin false false .neq v21 (.p (.int .i64 3)) fun v22 =>
  aMerge true v22 (fun Q23 =>
  aFieldAddr 3 v0 fun v24 =>
  aLoad false 1 v24 h1 fun v25 =>
  aBin false false .neq v25 (.p (.str [])) fun v26 =>
  (h1 = h1 ∧ Q23 v26)) fun v27 =>
  (h1 = h1 ∧ Q19 v27)) fun v28 =>
  aMerge false v28 (fun Q29 =>
  aFieldAddr 0 v0 fun v30 =>
  aLoad false 1 v30 h1 fun v31 =>
  aBin false false .neq v31 (.p (.int .i64 4)) fun v32 =>
  aMerge true v32 (fun Q33 =>
  aFieldAddr 4 v0 fun v34 =>
  aLoad false 1 v34 h1 fun v35 =>
  aLenS false v35 fun v36 =>
  aBin false false .gtr v36 (.p (.int .i64 0)) fun v37 =>
  (h1 = h1 ∧ Q33 v37)) fun v38 =>
  (h1 = h1 ∧ Q29 v38)) fun v39 =>
  K v39 h1

def val_spare_ann : Nat → List Nat := fun _ => []

theorem val_spare_eq (x0 : AV) (H : List Ob) (r : AV) (Ho : List Ob) : aBody Tryz.prog val_spare_ann Tryz.f129 H [x0] r Ho = val_spare x0 H (fun v H' => Gives H.length v H' r Ho) := by kernel_rfl

theorem val_spare_fnH {x0 : AV} {Hin : List Ob} {r : AV} {Ho : List Ob} (h : val_spare x0 Hin (fun v H' => Gives Hin.length v H' r Ho)) : Abs.Fn Tryz.prog val_spare_i Hin [x0] r Ho :=
  fn_intro mixed val_spare_ann (fn := Tryz.f129) (by kernel_rfl) (by kernel_rfl) (by rw [val_spare_eq]; exact h)

theorem val_spare_fn {x0 : AV} {r : AV} {Ho : List Ob} (h : val_spare x0 [] (fun v H' => Gives 0 v H' r Ho)) : Abs.Fn Tryz.prog val_spare_i [] [x0] r Ho := val_spare_fnH (Hin := []) h

/- cmp.isNaN[int] -/
def cmp_isNaN_int (x0 : AV) (H : List Ob) (K : AV → List Ob → Prop) : Prop :=
  aBin false false .neq x0 x0 fun v0 =>
  K v0 H

def cmp_isNaN_int_ann : Nat → List Nat := fun _ => []

theorem cmp_isNaN_int_eq (x0 : AV) (H : List Ob) (r : AV) (Ho : List Ob) : aBody Tryz.prog cmp_isNaN_int_ann Tryz.f134 H [x0] r Ho = cmp_isNaN_int x0 H (fun v H' => Gives H.length v H' r Ho) := by kernel_rfl

theorem cmp_isNaN_int_fnH {x0 : AV} {Hin : List Ob} {r : AV} {Ho : List Ob} (h : cmp_isNaN_int x0 Hin (fun v H' => Gives Hin.length v H' r Ho)) : Abs.Fn Tryz.prog cmp_isNaN_int_i Hin [x0] r Ho :=
  fn_intro mixed cmp_isNaN_int_ann (fn := Tryz.f134) (by kernel_rfl) (by kernel_rfl) (by rw [cmp_isNaN_int_eq]; exact h)

theorem cmp_isNaN_int_fn {x0 : AV} {r : AV} {Ho : List Ob} (h : cmp_isNaN_int x0 [] (fun v H' => Gives 0 v H' r Ho)) : Abs.Fn Tryz.prog cmp_isNaN_int_i [] [x0] r Ho := cmp_isNaN_int_fnH (Hin := []) h

/- cmp.isNaN[int64] -/
def cmp_isNaN_int64 (x0 : AV) (H : List Ob) (K : AV → List Ob → Prop) : Prop :=
  aBin false false .neq x0 x0 fun v0 =>
  K v0 H

def cmp_isNaN_int64_ann : Nat → List Nat := fun _ => []

theorem cmp_isNaN_int64_eq (x0 : AV) (H : List Ob) (r : AV) (Ho : List Ob) : aBody Tryz.prog cmp_isNaN_int64_ann Tryz.f135 H [x0] r Ho = cmp_isNaN_int64 x0 H (fun v H' => Gives H.length v H' r Ho) := by kernel_rfl

theorem cmp_isNaN_int64_fnH {x0 : AV} {Hin : List Ob} {r : AV} {Ho : List Ob} (h : cmp_isNaN_int64 x0 Hin (fun v H' => Gives Hin.length v H' r Ho)) : Abs.Fn Tryz.prog cmp_isNaN_int64_i Hin [x0] r Ho :=
  fn_intro mixed cmp_isNaN_int64_ann (fn := Tryz.f135) (by kernel_rfl) (by kernel_rfl) (by rw [cmp_isNaN_int64_eq]; exact h)

theorem cmp_isNaN_int64_fn {x0 : AV} {r : AV} {Ho : List Ob} (h : cmp_isNaN_int64 x0 [] (fun v H' => Gives 0 v H' r Ho)) : Abs.Fn Tryz.prog cmp_isNaN_int64_i [] [x0] r Ho := cmp_isNaN_int64_fnH (Hin := []) h

/- slices.CompareFunc[[]runnel/val.Value,[]runnel/val.Value,runnel/val.Value,runnel/val.Value] -/
def slices_CompareFunc_val_Value_val_Value_val_Value_val_Value_L1 (q1s0 q1s1 q1s2 q1s11 q1s12 y0 : AV) (H : List Ob) (B1 : List AV → List Ob → Prop) (K : AV → List Ob → Prop) : Prop :=
  aBin false false .lss y0 q1s12 fun v1 =>
  aGuard v1
  (aIndexAddr 5 q1s11 y0 fun v2 =>
  aLoad true 5 v2 H fun v3 =>
  aAlloc [(.p (.int .i64 0)), (.p (.int .i64 0)), (.p (.bool false)), (.p (.str [])), (.full [])] H fun v4 h5 =>
  aStore 5 v4 v3 h5 fun _ h7 =>
  aLen false false q1s1 fun v8 =>
  aBin false false .geq y0 v8 fun v9 =>
  aGuard v9
  (K (.p (.int .i64 1)) h7)
  (aIndexAddr 5 q1s1 y0 fun v10 =>
  aLoad true 5 v10 h7 fun v11 =>
  aAlloc [(.p (.int .i64 0)), (.p (.int .i64 0)), (.p (.bool false)), (.p (.str [])), (.full [])] h7 fun v12 h13 =>
  aStore 5 v12 v11 h13 fun _ h15 =>
  aLoad true 5 v4 h15 fun v16 =>
  aLoad true 5 v12 h15 fun v17 =>
  aCall Tryz.prog q1s2 [v16, v17] h15 fun v18 h19 =>
  aBin false false .neq v18 (.p (.int .i64 0)) fun v20 =>
  aGuard v20
  (K v18 h19)
  (aBin false false .add y0 (.p (.int .i64 1)) fun v21 =>
  B1 [v21] h19)))
  (aLen false false q1s0 fun v22 =>
  aLen false false q1s1 fun v23 =>
  aBin false false .lss v22 v23 fun v24 =>
  aGuard v24
  (K (.p (.int .i64 (-1))) H)
  (K (.p (.int .i64 0)) H))

def slices_CompareFunc_val_Value_val_Value_val_Value_val_Value (x0 x1 x2 : AV) (H : List Ob) (K : AV → List Ob → Prop) : Prop :=
  aLen false false x0 fun v0 =>
  aLoopN 1 [(.p (.int .i64 0))] H fun xs H B1 => slices_CompareFunc_val_Value_val_Value_val_Value_val_Value_L1 x0 x1 x2 x0 v0 (xs.getD 0 .top) H B1 K

def slices_CompareFunc_val_Value_val_Value_val_Value_val_Value_ann : Nat → List Nat := fun k => match k with | 2 => [13] | _ => []

theorem slices_CompareFunc_val_Value_val_Value_val_Value_val_Value_eq (x0 x1 x2 : AV) (H : List Ob) (r : AV) (Ho : List Ob) : aBody Tryz.prog slices_CompareFunc_val_Value_val_Value_val_Value_val_Value_ann Tryz.f137 H [x0, x1, x2] r Ho = slices_CompareFunc_val_Value_val_Value_val_Value_val_Value x0 x1 x2 H (fun v H' => Gives H.length v H' r Ho) := by kernel_rfl

theorem slices_CompareFunc_val_Value_val_Value_val_Value_val_Value_fnH {x0 x1 x2 : AV} {Hin : List Ob} {r : AV} {Ho : List Ob} (h : slices_CompareFunc_val_Value_val_Value_val_Value_val_Value x0 x1 x2 Hin (fun v H' => Gives Hin.length v H' r Ho)) : Abs.Fn Tryz.prog slices_CompareFunc_val_Value_val_Value_val_Value_val_Value_i Hin [x0, x1, x2] r Ho :=
  fn_intro mixed slices_CompareFunc_val_Value_val_Value_val_Value_val_Value_ann (fn := Tryz.f137) (by kernel_rfl) (by kernel_rfl) (by rw [slices_CompareFunc_val_Value_val_Value_val_Value_val_Value_eq]; exact h)

theorem slices_CompareFunc_val_Value_val_Value_val_Value_val_Value_fn {x0 x1 x2 : AV} {r : AV} {Ho : List Ob} (h : slices_CompareFunc_val_Value_val_Value_val_Value_val_Value x0 x1 x2 [] (fun v H' => Gives 0 v H' r Ho)) : Abs.Fn Tryz.prog slices_CompareFunc_val_Value_val_Value_val_Value_val_Value_i [] [x0, x1, x2] r Ho := slices_CompareFunc_val_Value_val_Value_val_Value_val_Value_fnH (Hin := []) h

/- runnel/runnelref6.checkValue -/
def runnelref6_checkValue_L1 (q1s1 q1s2 y0 : AV) (H : List Ob) (B1 : List AV → List Ob → Prop) (K : AV → List Ob → Prop) : Prop :=
  aFieldAddr 4 q1s2 fun v64 =>
  aLoad false 1 v64 H fun v65 =>
  aLen false false v65 fun v66 =>
  aBin false false .lss y0 v66 fun v67 =>
  aGuard v67
  (aFieldAddr 4 q1s2 fun v68 =>
  aLoad false 1 v68 H fun v69 =>
  aIndexAddr 5 v69 y0 fun v70 =>
  aLoad true 5 v70 H fun v71 =>
  aBin false false .add q1s1 (.p (.int .i64 1)) fun v72 =>
  aCall Tryz.prog (.p (.func runnelref6_checkValue_i [])) [v71, v72] H fun v73 h74 =>
  aBin false false .neq v73 (.p (.int .i64 0)) fun v75 =>
  aGuard v75
  (K v73 h74)
  (aBin false false .add y0 (.p (.int .i64 1)) fun v76 =>
  B1 [v76] h74))
  (K (.p (.int .i64 0)) H)

def runnelref6_checkValue (x0 x1 : AV) (H : List Ob) (K : AV → List Ob → Prop) : Prop :=
  aBox x0 H fun v0 h1 =>
  aFieldAddr 0 v0 fun v2 =>
  aLoad false 1 v2 h1 fun v3 =>
  aBin false false .lss v3 (.p (.int .i64 1)) fun v4 =>
  aMerge false v4 (fun Q5 =>
  aFieldAddr 0 v0 fun v6 =>
  aLoad false 1 v6 h1 fun v7 =>
  aBin false false .gtr v7 (.p (.int .i64 4)) fun v8 =>
  (h1 = h1 ∧ Q5 v8)) fun v9 =>
  aGuard v9
  (K (.p (.int .i64 5)) h1)
  (aFieldAddr 0 v0 fun v10 =>
  aLoad false 1 v10 h1 fun v11 =>
  aBin false false .neq v11 (.p (.int .i64 1)) fun v12 =>
  aMerge true v12 (fun Q13 =>
  aFieldAddr 1 v0 fun v14 =>
  aLoad false 1 v14 h1 fun v15 =>
  aBin false false .neq v15 (.p (.int .i64 0)) fun v16 =>
  (h1 = h1 ∧ Q13 v16)) fun v17 =>
  aMerge false v17 (fun Q18 =>
  aFieldAddr 0 v0 fun v19 =>
  aLoad false 1 v19 h1 fun v20 =>
  aBin false false .neq v20 (.p (.int .i64 2)) fun v21 =>
  aMerge true v21 (fun Q22 =>
  aFieldAddr 2 v0 fun v23 =>
  aLoad false 1 v23 h1 fun v24 =>
  (h1 = h1 ∧ Q22 v24)) fun v25 =>
  (h1 = h1 ∧ Q18 v25)) fun v26 =>
  aMerge false v26 (fun Q27 =>
  aFieldAddr 0 v0 fun v28 =>
  aLoad false 1 v28 h1 fun v29 =>
  aBin false false .neq v29 (.p (.int .i64 3)) fun v30 =>
  aMerge true v30 (fun Q31 =>
  aFieldAddr 3 v0 fun v32 =>
  aLoad false 1 v32 h1 fun v33 =>
  aBin false false .neq v33 (.p (.str [])) fun v34 =>
  (h1 = h1 ∧ Q31 v34)) fun v35 =>
  (h1 = h1 ∧ Q27 v35)) fun v36 =>
  aMerge false v36 (fun Q37 =>
  aFieldAddr 0 v0 fun v38 =>
  aLoad false 1 v38 h1 fun v39 =>
  aBin false false .neq v39 (.p (.int .i64 4)) fun v40 =>
  aMerge true v40 (fun Q41 =>
  aFieldAddr 4 v0 fun v42 =>
  aLoad false 1 v42 h1 fun v43 =>
  aLenS false v43 fun v44 =>
  aBin false false .gtr v44 (.p (.int .i64 0)) fun v45 =>
  (h1 = h1 ∧ Q41 v45)) fun v46 =>
  (h1 = h1 ∧ Q37 v46)) fun v47 =>
  aGuard v47
  (K (.p (.int .i64 2)) h1)
  (aFieldAddr 3 v0 fun v48 =>
  aLoad false 1 v48 h1 fun v49 =>
  aLen false true v49 fun v50 =>
  aBin false false .gtr v50 (.p (.int .i64 255)) fun v51 =>
  aGuard v51
  (K (.p (.int .i64 4)) h1)
  (aFieldAddr 0 v0 fun v52 =>
  aLoad false 1 v52 h1 fun v53 =>
  aBin false false .neq v53 (.p (.int .i64 4)) fun v54 =>
  aGuard v54
  (K (.p (.int .i64 0)) h1)
  (aFieldAddr 4 v0 fun v55 =>
  aLoad false 1 v55 h1 fun v56 =>
  aLen false false v56 fun v57 =>
  aBin false false .eql v57 (.p (.int .i64 0)) fun v58 =>
  aGuard v58
  (K (.p (.int .i64 1)) h1)
  (aFieldAddr 4 v0 fun v59 =>
  aLoad false 1 v59 h1 fun v60 =>
  aLen false false v60 fun v61 =>
  aBin false false .gtr v61 (.p (.int .i64 8)) fun v62 =>
  aGuard v62
  (K (.p (.int .i64 10)) h1)
  (aBin false false .gtr x1 (.p (.int .i64 4)) fun v63 =>
  aGuard v63
  (K (.p (.int .i64 9)) h1)
  (aLoopN 1 [(.p (.int .i64 0))] h1 fun xs H B1 => runnelref6_checkValue_L1 x1 v0 (xs.getD 0 .top) H B1 K)))))))

def runnelref6_checkValue_ann : Nat → List Nat := fun k => match k with | 16 => [5] | _ => []

theorem runnelref6_checkValue_eq (x0 x1 : AV) (H : List Ob) (r : AV) (Ho : List Ob) : aBody Tryz.prog runnelref6_checkValue_ann Tryz.f138 H [x0, x1] r Ho = runnelref6_checkValue x0 x1 H (fun v H' => Gives H.length v H' r Ho) := by kernel_rfl

theorem runnelref6_checkValue_fnH {x0 x1 : AV} {Hin : List Ob} {r : AV} {Ho : List Ob} (h : runnelref6_checkValue x0 x1 Hin (fun v H' => Gives Hin.length v H' r Ho)) : Abs.Fn Tryz.prog runnelref6_checkValue_i Hin [x0, x1] r Ho :=
  fn_intro mixed runnelref6_checkValue_ann (fn := Tryz.f138) (by kernel_rfl) (by kernel_rfl) (by rw [runnelref6_checkValue_eq]; exact h)

theorem runnelref6_checkValue_fn {x0 x1 : AV} {r : AV} {Ho : List Ob} (h : runnelref6_checkValue x0 x1 [] (fun v H' => Gives 0 v H' r Ho)) : Abs.Fn Tryz.prog runnelref6_checkValue_i [] [x0, x1] r Ho := runnelref6_checkValue_fnH (Hin := []) h

/- runnel/val.kind -/
def val_kind_L1 (q1s2 q1s3 q1s10 q1s11 y0 : AV) (H : List Ob) (B1 : List AV → List Ob → Prop) (K : AV → List Ob → Prop) : Prop :=
  aBin false false .lss y0 q1s11 fun v14 =>
  aGuard v14
  (aIndexAddr 5 q1s10 y0 fun v15 =>
  aLoad true 5 v15 H fun v16 =>
  aAlloc [(.p (.int .i64 0)), (.p (.int .i64 0)), (.p (.bool false)), (.p (.str [])), (.full [])] H fun v17 h18 =>
  aStore 5 v17 v16 h18 fun _ h20 =>
  aFieldAddr 1 q1s3 fun v21 =>
  aLoad false 1 v21 h20 fun v22 =>
  aLoad true 5 v17 h20 fun v23 =>
  aCallT Tryz.prog (.p (.func val_kind_i [])) [v23] fun v24 =>
  aBuildSlice 2 [v24] fun v25 =>
  aCalm [v22, v25] <|
  aAppend false 2 32 v22 v25 h20 fun v26 h27 =>
  aFieldAddr 1 q1s3 fun v28 =>
  aStore 1 v28 v26 h27 fun _ h30 =>
  aBin false false .add y0 (.p (.int .i64 1)) fun v31 =>
  B1 [v31] h30)
  (aLoad true 2 q1s3 H fun v32 =>
  aStore 2 q1s2 v32 H fun _ h34 =>
  aLoad true 2 q1s2 h34 fun v35 =>
  K v35 h34)

def val_kind (x0 : AV) (H : List Ob) (K : AV → List Ob → Prop) : Prop :=
  aBox x0 H fun v0 h1 =>
  aAlloc [(.p (.int .i64 0)), (.full [])] h1 fun v2 h3 =>
  aFieldAddr 0 v0 fun v4 =>
  aLoad false 1 v4 h3 fun v5 =>
  aBuild [(.p (.int .i64 0)), (.full [])] [(0, 1, v5)] fun v6 =>
  aAlloc [(.p (.int .i64 0)), (.full [])] h3 fun v7 h8 =>
  aStore 2 v7 v6 h8 fun _ h10 =>
  aFieldAddr 4 v0 fun v11 =>
  aLoad false 1 v11 h10 fun v12 =>
  aLen false false v12 fun v13 =>
  aLoopN 1 [(.p (.int .i64 0))] h10 fun xs H B1 => val_kind_L1 v2 v7 v12 v13 (xs.getD 0 .top) H B1 K

def val_kind_ann : Nat → List Nat := fun k => match k with | 3 => [12] | _ => []

theorem val_kind_eq (x0 : AV) (H : List Ob) (r : AV) (Ho : List Ob) : aBody Tryz.prog val_kind_ann Tryz.f140 H [x0] r Ho = val_kind x0 H (fun v H' => Gives H.length v H' r Ho) := by kernel_rfl

theorem val_kind_fnH {x0 : AV} {Hin : List Ob} {r : AV} {Ho : List Ob} (h : val_kind x0 Hin (fun v H' => Gives Hin.length v H' r Ho)) : Abs.Fn Tryz.prog val_kind_i Hin [x0] r Ho :=
  fn_intro mixed val_kind_ann (fn := Tryz.f140) (by kernel_rfl) (by kernel_rfl) (by rw [val_kind_eq]; exact h)

theorem val_kind_fn {x0 : AV} {r : AV} {Ho : List Ob} (h : val_kind x0 [] (fun v H' => Gives 0 v H' r Ho)) : Abs.Fn Tryz.prog val_kind_i [] [x0] r Ho := val_kind_fnH (Hin := []) h

/- runnel/val.Str -/
def val_Str (x0 : AV) (H : List Ob) (K : AV → List Ob → Prop) : Prop :=
  aAlloc [(.p (.int .i64 0)), (.p (.int .i64 0)), (.p (.bool false)), (.p (.str [])), (.full [])] H fun v0 h1 =>
  aBuild [(.p (.int .i64 0)), (.p (.int .i64 0)), (.p (.bool false)), (.p (.str [])), (.full [])] [(0, 1, (.p (.int .i64 3))), (3, 1, x0)] fun v2 =>
  aStore 5 v0 v2 h1 fun _ h4 =>
  aLoad true 5 v0 h4 fun v5 =>
  K v5 h4

def val_Str_ann : Nat → List Nat := fun _ => []

theorem val_Str_eq (x0 : AV) (H : List Ob) (r : AV) (Ho : List Ob) : aBody Tryz.prog val_Str_ann Tryz.f151 H [x0] r Ho = val_Str x0 H (fun v H' => Gives H.length v H' r Ho) := by kernel_rfl

theorem val_Str_fnH {x0 : AV} {Hin : List Ob} {r : AV} {Ho : List Ob} (h : val_Str x0 Hin (fun v H' => Gives Hin.length v H' r Ho)) : Abs.Fn Tryz.prog val_Str_i Hin [x0] r Ho :=
  fn_intro mixed val_Str_ann (fn := Tryz.f151) (by kernel_rfl) (by kernel_rfl) (by rw [val_Str_eq]; exact h)

theorem val_Str_fn {x0 : AV} {r : AV} {Ho : List Ob} (h : val_Str x0 [] (fun v H' => Gives 0 v H' r Ho)) : Abs.Fn Tryz.prog val_Str_i [] [x0] r Ho := val_Str_fnH (Hin := []) h

/- runnel/val.Bool -/
def val_Bool (x0 : AV) (H : List Ob) (K : AV → List Ob → Prop) : Prop :=
  aAlloc [(.p (.int .i64 0)), (.p (.int .i64 0)), (.p (.bool false)), (.p (.str [])), (.full [])] H fun v0 h1 =>
  aBuild [(.p (.int .i64 0)), (.p (.int .i64 0)), (.p (.bool false)), (.p (.str [])), (.full [])] [(0, 1, (.p (.int .i64 2))), (2, 1, x0)] fun v2 =>
  aStore 5 v0 v2 h1 fun _ h4 =>
  aLoad true 5 v0 h4 fun v5 =>
  K v5 h4

def val_Bool_ann : Nat → List Nat := fun _ => []

theorem val_Bool_eq (x0 : AV) (H : List Ob) (r : AV) (Ho : List Ob) : aBody Tryz.prog val_Bool_ann Tryz.f154 H [x0] r Ho = val_Bool x0 H (fun v H' => Gives H.length v H' r Ho) := by kernel_rfl

theorem val_Bool_fnH {x0 : AV} {Hin : List Ob} {r : AV} {Ho : List Ob} (h : val_Bool x0 Hin (fun v H' => Gives Hin.length v H' r Ho)) : Abs.Fn Tryz.prog val_Bool_i Hin [x0] r Ho :=
  fn_intro mixed val_Bool_ann (fn := Tryz.f154) (by kernel_rfl) (by kernel_rfl) (by rw [val_Bool_eq]; exact h)

theorem val_Bool_fn {x0 : AV} {r : AV} {Ho : List Ob} (h : val_Bool x0 [] (fun v H' => Gives 0 v H' r Ho)) : Abs.Fn Tryz.prog val_Bool_i [] [x0] r Ho := val_Bool_fnH (Hin := []) h

end Go.Proofs.YtgfnodmghaghpaaGreatDoor
end

section
/- Made by program (Gen.lean): functions of the dump, over trees. -/
set_option maxRecDepth 4000
set_option linter.unusedVariables false
namespace Go.Proofs.YtgfnodmghaghpaaGreatDoor
open Go Go.Abs

/- runnel/runnellaw4.Few -/
def runnellaw4_Few (x0 : AV) (H : List Ob) (K : AV → List Ob → Prop) : Prop :=
  aBox x0 H fun v0 h1 =>
  aLoad true 8 v0 h1 fun v2 =>
  aCall Tryz.prog (.p (.func runnellaw4_budget_i [])) [v2, (.p (.int .i64 20)), (.p (.int .i64 400))] h1 fun v3 h4 =>
  aBin false false .gtr v3 (.p (.int .i64 0)) fun v5 =>
  K v5 h4

def runnellaw4_Few_ann : Nat → List Nat := fun _ => []

theorem runnellaw4_Few_eq (x0 : AV) (H : List Ob) (r : AV) (Ho : List Ob) : aBody Tryz.prog runnellaw4_Few_ann Tryz.f17 H [x0] r Ho = runnellaw4_Few x0 H (fun v H' => Gives H.length v H' r Ho) := by kernel_rfl

theorem runnellaw4_Few_fnH {x0 : AV} {Hin : List Ob} {r : AV} {Ho : List Ob} (h : runnellaw4_Few x0 Hin (fun v H' => Gives Hin.length v H' r Ho)) : Abs.Fn Tryz.prog runnellaw4_Few_i Hin [x0] r Ho :=
  fn_intro mixed runnellaw4_Few_ann (fn := Tryz.f17) (by kernel_rfl) (by kernel_rfl) (by rw [runnellaw4_Few_eq]; exact h)

theorem runnellaw4_Few_fn {x0 : AV} {r : AV} {Ho : List Ob} (h : runnellaw4_Few x0 [] (fun v H' => Gives 0 v H' r Ho)) : Abs.Fn Tryz.prog runnellaw4_Few_i [] [x0] r Ho := runnellaw4_Few_fnH (Hin := []) h

/- runnel/runnellaw4.Of -/
def runnellaw4_Of_L1 (q1s1 q1s2 q1s3 y0 : AV) (H : List Ob) (B1 : List AV → List Ob → Prop) (K : AV → List Ob → Prop) : Prop :=
  aFieldAddr 7 q1s1 fun v16 =>
  aLoad false 1 v16 H fun v17 =>
  aLen false false v17 fun v18 =>
  aBin false false .lss y0 v18 fun v19 =>
  aGuard v19
  (aFieldAddr 7 q1s3 fun v20 =>
  aLoad false 1 v20 H fun v21 =>
  aFieldAddr 7 q1s1 fun v22 =>
  aLoad false 1 v22 H fun v23 =>
  aIndexAddr 8 v23 y0 fun v24 =>
  aLoad true 8 v24 H fun v25 =>
  aCallT Tryz.prog (.p (.func runnellaw4_Of_i [])) [v25] fun v26 =>
  aBuildSlice 8 [v26] fun v27 =>
  aCalm [v21, v27] <|
  aAppend false 8 112 v21 v27 H fun v28 h29 =>
  aFieldAddr 7 q1s3 fun v30 =>
  aStore 1 v30 v28 h29 fun _ h32 =>
  aBin false false .add y0 (.p (.int .i64 1)) fun v33 =>
  B1 [v33] h32)
  (aLoad true 8 q1s3 H fun v34 =>
  aStore 8 q1s2 v34 H fun _ h36 =>
  aLoad true 8 q1s2 h36 fun v37 =>
  K v37 h36)

def runnellaw4_Of (x0 : AV) (H : List Ob) (K : AV → List Ob → Prop) : Prop :=
  aBox x0 H fun v0 h1 =>
  aAlloc [(.p (.str [])), (.p (.int .i64 0)), (.p (.int .i64 0)), (.p (.bool false)), (.p (.str [])), (.full []), (.p (.int .i64 0)), (.full [])] h1 fun v2 h3 =>
  aAlloc [(.p (.str [])), (.p (.int .i64 0)), (.p (.int .i64 0)), (.p (.bool false)), (.p (.str [])), (.full []), (.p (.int .i64 0)), (.full [])] h3 fun v4 h5 =>
  aFieldAddr 0 v0 fun v6 =>
  aLoad false 1 v6 h5 fun v7 =>
  aFieldAddr 1 v0 fun v8 =>
  aLoad true 5 v8 h5 fun v9 =>
  aCallT Tryz.prog (.p (.func runnellaw2_Of_i [])) [v9] fun v10 =>
  aFieldAddr 6 v0 fun v11 =>
  aLoad false 1 v11 h5 fun v12 =>
  aBuild [(.p (.str [])), (.p (.int .i64 0)), (.p (.int .i64 0)), (.p (.bool false)), (.p (.str [])), (.full []), (.p (.int .i64 0)), (.full [])] [(0, 1, v7), (1, 5, v10), (6, 1, v12)] fun v13 =>
  aStore 8 v4 v13 h5 fun _ h15 =>
  aLoopN 1 [(.p (.int .i64 0))] h15 fun xs H B1 => runnellaw4_Of_L1 v0 v2 v4 (xs.getD 0 .top) H B1 K

def runnellaw4_Of_ann : Nat → List Nat := fun k => match k with | 3 => [4] | _ => []

theorem runnellaw4_Of_eq (x0 : AV) (H : List Ob) (r : AV) (Ho : List Ob) : aBody Tryz.prog runnellaw4_Of_ann Tryz.f18 H [x0] r Ho = runnellaw4_Of x0 H (fun v H' => Gives H.length v H' r Ho) := by kernel_rfl

theorem runnellaw4_Of_fnH {x0 : AV} {Hin : List Ob} {r : AV} {Ho : List Ob} (h : runnellaw4_Of x0 Hin (fun v H' => Gives Hin.length v H' r Ho)) : Abs.Fn Tryz.prog runnellaw4_Of_i Hin [x0] r Ho :=
  fn_intro mixed runnellaw4_Of_ann (fn := Tryz.f18) (by kernel_rfl) (by kernel_rfl) (by rw [runnellaw4_Of_eq]; exact h)

theorem runnellaw4_Of_fn {x0 : AV} {r : AV} {Ho : List Ob} (h : runnellaw4_Of x0 [] (fun v H' => Gives 0 v H' r Ho)) : Abs.Fn Tryz.prog runnellaw4_Of_i [] [x0] r Ho := runnellaw4_Of_fnH (Hin := []) h

/- runnel/runnelref6.CheckExpr -/
def runnelref6_CheckExpr (x0 x1 : AV) (H : List Ob) (K : AV → List Ob → Prop) : Prop :=
  aBox x0 H fun v0 h1 =>
  aBox x1 h1 fun v2 h3 =>
  aAlloc [(.p (.int .i64 0)), (.full [])] h3 fun v4 h5 =>
  aLoad true 2 v2 h5 fun v6 =>
  aCall Tryz.prog (.p (.func runnelref6_CheckType_i [])) [v6] h5 fun v7 h8 =>
  aBin false false .neq v7 (.p (.int .i64 0)) fun v9 =>
  aGuard v9
  (aBuild [(.p (.int .i64 0)), (.full [])] [] fun v10 =>
  aStore 2 v4 v10 h8 fun _ h12 =>
  aLoad true 2 v4 h12 fun v13 =>
  K (.tup [v13, (.p (.int .i64 5))]) h12)
  (aLoad true 8 v0 h8 fun v14 =>
  aCall Tryz.prog (.p (.func runnelref6_Size_i [])) [v14] h8 fun v15 h16 =>
  aBin false false .gtr v15 (.p (.int .i64 256)) fun v17 =>
  aGuard v17
  (aBuild [(.p (.int .i64 0)), (.full [])] [] fun v18 =>
  aStore 2 v4 v18 h16 fun _ h20 =>
  aLoad true 2 v4 h20 fun v21 =>
  K (.tup [v21, (.p (.int .i64 10))]) h20)
  (aLoad true 8 v0 h16 fun v22 =>
  aLoad true 2 v2 h16 fun v23 =>
  aCall Tryz.prog (.p (.func runnelref6_check_i [])) [v22, v23, (.p (.int .i64 0))] h16 fun v24 h25 =>
  aExtract v24 0 fun v26 =>
  aExtract v24 1 fun v27 =>
  aStore 2 v4 v26 h25 fun _ h29 =>
  aLoad true 2 v4 h29 fun v30 =>
  K (.tup [v30, v27]) h29))

def runnelref6_CheckExpr_ann : Nat → List Nat := fun _ => []

theorem runnelref6_CheckExpr_eq (x0 x1 : AV) (H : List Ob) (r : AV) (Ho : List Ob) : aBody Tryz.prog runnelref6_CheckExpr_ann Tryz.f34 H [x0, x1] r Ho = runnelref6_CheckExpr x0 x1 H (fun v H' => Gives H.length v H' r Ho) := by kernel_rfl

theorem runnelref6_CheckExpr_fnH {x0 x1 : AV} {Hin : List Ob} {r : AV} {Ho : List Ob} (h : runnelref6_CheckExpr x0 x1 Hin (fun v H' => Gives Hin.length v H' r Ho)) : Abs.Fn Tryz.prog runnelref6_CheckExpr_i Hin [x0, x1] r Ho :=
  fn_intro mixed runnelref6_CheckExpr_ann (fn := Tryz.f34) (by kernel_rfl) (by kernel_rfl) (by rw [runnelref6_CheckExpr_eq]; exact h)

theorem runnelref6_CheckExpr_fn {x0 x1 : AV} {r : AV} {Ho : List Ob} (h : runnelref6_CheckExpr x0 x1 [] (fun v H' => Gives 0 v H' r Ho)) : Abs.Fn Tryz.prog runnelref6_CheckExpr_i [] [x0, x1] r Ho := runnelref6_CheckExpr_fnH (Hin := []) h

/- runnel/runnellaw4.budget -/
def runnellaw4_budget_L1 (q1s1 q1s3 y0 y1 : AV) (H : List Ob) (B1 : List AV → List Ob → Prop) (K : AV → List Ob → Prop) : Prop :=
  aFieldAddr 7 q1s3 fun v26 =>
  aLoad false 1 v26 H fun v27 =>
  aLen false false v27 fun v28 =>
  aBin false false .lss y1 v28 fun v29 =>
  aMerge true v29 (fun Q30 =>
  aBin false false .gtr y0 (.p (.int .i64 0)) fun v31 =>
  (H = H ∧ Q30 v31)) fun v32 =>
  aGuard v32
  (aFieldAddr 7 q1s3 fun v33 =>
  aLoad false 1 v33 H fun v34 =>
  aIndexAddr 8 v34 y1 fun v35 =>
  aLoad true 8 v35 H fun v36 =>
  aBin false false .sub q1s1 (.p (.int .i64 1)) fun v37 =>
  aCall Tryz.prog (.p (.func runnellaw4_budget_i [])) [v36, v37, y0] H fun v38 h39 =>
  aBin false false .add y1 (.p (.int .i64 1)) fun v40 =>
  B1 [v38, v40] h39)
  (K y0 H)

def runnellaw4_budget (x0 x1 x2 : AV) (H : List Ob) (K : AV → List Ob → Prop) : Prop :=
  aBox x0 H fun v0 h1 =>
  aBin false false .leq x2 (.p (.int .i64 0)) fun v2 =>
  aMerge false v2 (fun Q3 =>
  aBin false false .leq x1 (.p (.int .i64 0)) fun v4 =>
  (h1 = h1 ∧ Q3 v4)) fun v5 =>
  aMerge false v5 (fun Q6 =>
  aFieldAddr 7 v0 fun v7 =>
  aLoad false 1 v7 h1 fun v8 =>
  aLenS false v8 fun v9 =>
  aBin false false .gtr v9 (.p (.int .i64 12)) fun v10 =>
  (h1 = h1 ∧ Q6 v10)) fun v11 =>
  aMerge false v11 (fun Q12 =>
  aFieldAddr 0 v0 fun v13 =>
  aLoad false 1 v13 h1 fun v14 =>
  aLenS true v14 fun v15 =>
  aBin false false .gtr v15 (.p (.int .i64 20)) fun v16 =>
  (h1 = h1 ∧ Q12 v16)) fun v17 =>
  aMerge false v17 (fun Q18 =>
  aFieldAddr 1 v0 fun v19 =>
  aLoad true 5 v19 h1 fun v20 =>
  aCall Tryz.prog (.p (.func runnellaw2_Few_i [])) [v20] h1 fun v21 h22 =>
  aUn .not v21 fun v23 =>
  (h22 = h1 ∧ Q18 v23)) fun v24 =>
  aGuard v24
  (K (.p (.int .i64 0)) h1)
  (aBin false false .sub x2 (.p (.int .i64 1)) fun v25 =>
  aLoopN 2 [v25, (.p (.int .i64 0))] h1 fun xs H B1 => runnellaw4_budget_L1 x1 v0 (xs.getD 0 .top) (xs.getD 1 .top) H B1 K)

def runnellaw4_budget_ann : Nat → List Nat := fun k => match k with | 5 => [2, 7] | _ => []

theorem runnellaw4_budget_eq (x0 x1 x2 : AV) (H : List Ob) (r : AV) (Ho : List Ob) : aBody Tryz.prog runnellaw4_budget_ann Tryz.f43 H [x0, x1, x2] r Ho = runnellaw4_budget x0 x1 x2 H (fun v H' => Gives H.length v H' r Ho) := by kernel_rfl

theorem runnellaw4_budget_fnH {x0 x1 x2 : AV} {Hin : List Ob} {r : AV} {Ho : List Ob} (h : runnellaw4_budget x0 x1 x2 Hin (fun v H' => Gives Hin.length v H' r Ho)) : Abs.Fn Tryz.prog runnellaw4_budget_i Hin [x0, x1, x2] r Ho :=
  fn_intro mixed runnellaw4_budget_ann (fn := Tryz.f43) (by kernel_rfl) (by kernel_rfl) (by rw [runnellaw4_budget_eq]; exact h)

theorem runnellaw4_budget_fn {x0 x1 x2 : AV} {r : AV} {Ho : List Ob} (h : runnellaw4_budget x0 x1 x2 [] (fun v H' => Gives 0 v H' r Ho)) : Abs.Fn Tryz.prog runnellaw4_budget_i [] [x0, x1, x2] r Ho := runnellaw4_budget_fnH (Hin := []) h

/- runnel/runnelref6.Plain -/
def runnelref6_Plain (x0 : AV) (H : List Ob) (K : AV → List Ob → Prop) : Prop :=
  aAlloc [(.p (.int .i64 0)), (.full [])] H fun v0 h1 =>
  aBuild [(.p (.int .i64 0)), (.full [])] [(0, 1, x0)] fun v2 =>
  aStore 2 v0 v2 h1 fun _ h4 =>
  aLoad true 2 v0 h4 fun v5 =>
  K v5 h4

def runnelref6_Plain_ann : Nat → List Nat := fun _ => []

theorem runnelref6_Plain_eq (x0 : AV) (H : List Ob) (r : AV) (Ho : List Ob) : aBody Tryz.prog runnelref6_Plain_ann Tryz.f46 H [x0] r Ho = runnelref6_Plain x0 H (fun v H' => Gives H.length v H' r Ho) := by kernel_rfl

theorem runnelref6_Plain_fnH {x0 : AV} {Hin : List Ob} {r : AV} {Ho : List Ob} (h : runnelref6_Plain x0 Hin (fun v H' => Gives Hin.length v H' r Ho)) : Abs.Fn Tryz.prog runnelref6_Plain_i Hin [x0] r Ho :=
  fn_intro mixed runnelref6_Plain_ann (fn := Tryz.f46) (by kernel_rfl) (by kernel_rfl) (by rw [runnelref6_Plain_eq]; exact h)

theorem runnelref6_Plain_fn {x0 : AV} {r : AV} {Ho : List Ob} (h : runnelref6_Plain x0 [] (fun v H' => Gives 0 v H' r Ho)) : Abs.Fn Tryz.prog runnelref6_Plain_i [] [x0] r Ho := runnelref6_Plain_fnH (Hin := []) h

/- runnel/runnelref6.Size -/
def runnelref6_Size_L1 (q1s1 y0 y1 : AV) (H : List Ob) (B1 : List AV → List Ob → Prop) (K : AV → List Ob → Prop) : Prop :=
  aFieldAddr 7 q1s1 fun v2 =>
  aLoad false 1 v2 H fun v3 =>
  aLen false false v3 fun v4 =>
  aBin false false .lss y1 v4 fun v5 =>
  aGuard v5
  (aFieldAddr 7 q1s1 fun v6 =>
  aLoad false 1 v6 H fun v7 =>
  aIndexAddr 8 v7 y1 fun v8 =>
  aLoad true 8 v8 H fun v9 =>
  aCall Tryz.prog (.p (.func runnelref6_Size_i [])) [v9] H fun v10 h11 =>
  aBin false false .add y0 v10 fun v12 =>
  aBin false false .add y1 (.p (.int .i64 1)) fun v13 =>
  B1 [v12, v13] h11)
  (K y0 H)

def runnelref6_Size (x0 : AV) (H : List Ob) (K : AV → List Ob → Prop) : Prop :=
  aBox x0 H fun v0 h1 =>
  aLoopN 2 [(.p (.int .i64 1)), (.p (.int .i64 0))] h1 fun xs H B1 => runnelref6_Size_L1 v0 (xs.getD 0 .top) (xs.getD 1 .top) H B1 K

def runnelref6_Size_ann : Nat → List Nat := fun k => match k with | 3 => [3, 4] | _ => []

theorem runnelref6_Size_eq (x0 : AV) (H : List Ob) (r : AV) (Ho : List Ob) : aBody Tryz.prog runnelref6_Size_ann Tryz.f61 H [x0] r Ho = runnelref6_Size x0 H (fun v H' => Gives H.length v H' r Ho) := by kernel_rfl

theorem runnelref6_Size_fnH {x0 : AV} {Hin : List Ob} {r : AV} {Ho : List Ob} (h : runnelref6_Size x0 Hin (fun v H' => Gives Hin.length v H' r Ho)) : Abs.Fn Tryz.prog runnelref6_Size_i Hin [x0] r Ho :=
  fn_intro mixed runnelref6_Size_ann (fn := Tryz.f61) (by kernel_rfl) (by kernel_rfl) (by rw [runnelref6_Size_eq]; exact h)

theorem runnelref6_Size_fn {x0 : AV} {r : AV} {Ho : List Ob} (h : runnelref6_Size x0 [] (fun v H' => Gives 0 v H' r Ho)) : Abs.Fn Tryz.prog runnelref6_Size_i [] [x0] r Ho := runnelref6_Size_fnH (Hin := []) h

/- runnel/runnelref6.check -/
def runnelref6_check_L1 (q1s2 q1s3 q1s4 q1s6 y0 y1 : AV) (H : List Ob) (B1 : List AV → List Ob → Prop) (K : AV → List Ob → Prop) : Prop :=
  aFieldAddr 7 q1s3 fun v96 =>
  aLoad false 1 v96 H fun v97 =>
  aLen false false v97 fun v98 =>
  aBin false false .lss y1 v98 fun v99 =>
  aGuard v99
  (aAlloc [(.p (.int .i64 0)), (.full [])] H fun v100 h101 =>
  aFieldAddr 7 q1s3 fun v102 =>
  aLoad false 1 v102 h101 fun v103 =>
  aIndexAddr 8 v103 y1 fun v104 =>
  aLoad true 8 v104 h101 fun v105 =>
  aLoad true 2 q1s4 h101 fun v106 =>
  aBin false false .add q1s2 (.p (.int .i64 1)) fun v107 =>
  aCallT Tryz.prog (.p (.func runnelref6_check_i [])) [v105, v106, v107] fun v108 =>
  aExtract v108 0 fun v109 =>
  aExtract v108 1 fun v110 =>
  aStore 2 v100 v109 h101 fun _ h112 =>
  aBin false false .neq v110 (.p (.int .i64 0)) fun v113 =>
  aGuard v113
  (aBuild [(.p (.int .i64 0)), (.full [])] [] fun v114 =>
  aStore 2 q1s6 v114 h112 fun _ h116 =>
  aLoad true 2 q1s6 h116 fun v117 =>
  K (.tup [v117, v110]) h116)
  (aLoad true 2 v100 h112 fun v118 =>
  aBuildSlice 2 [v118] fun v119 =>
  aAppend false 2 32 y0 v119 h112 fun v120 h121 =>
  aBin false false .add y1 (.p (.int .i64 1)) fun v122 =>
  B1 [v120, v122] h121))
  (aFieldAddr 0 q1s3 fun v123 =>
  aLoad false 1 v123 H fun v124 =>
  aFieldAddr 6 q1s3 fun v125 =>
  aLoad false 1 v125 H fun v126 =>
  aCall Tryz.prog (.p (.func runnelref6_OpType_i [])) [v124, v126, y0] H fun v127 h128 =>
  aExtract v127 0 fun v129 =>
  aExtract v127 1 fun v130 =>
  aStore 2 q1s6 v129 h128 fun _ h132 =>
  aLoad true 2 q1s6 h132 fun v133 =>
  K (.tup [v133, v130]) h132)

def runnelref6_check (x0 x1 x2 : AV) (H : List Ob) (K : AV → List Ob → Prop) : Prop :=
  aBox x0 H fun v0 h1 =>
  aBox x1 h1 fun v2 h3 =>
  aAlloc [(.p (.int .i64 0)), (.full [])] h3 fun v4 h5 =>
  aFieldAddr 0 v0 fun v6 =>
  aLoad false 1 v6 h5 fun v7 =>
  aCall Tryz.prog (.p (.func runnelref6_Arity_i [])) [v7] h5 fun v8 h9 =>
  aBin false false .eql v8 (.p (.int .i64 (-2))) fun v10 =>
  aGuard v10
  (aBuild [(.p (.int .i64 0)), (.full [])] [] fun v11 =>
  aStore 2 v4 v11 h9 fun _ h13 =>
  aLoad true 2 v4 h13 fun v14 =>
  K (.tup [v14, (.p (.int .i64 6))]) h13)
  (aBin false false .gtr x2 (.p (.int .i64 12)) fun v15 =>
  aGuard v15
  (aBuild [(.p (.int .i64 0)), (.full [])] [] fun v16 =>
  aStore 2 v4 v16 h9 fun _ h18 =>
  aLoad true 2 v4 h18 fun v19 =>
  K (.tup [v19, (.p (.int .i64 9))]) h18)
  (aBin false false .geq v8 (.p (.int .i64 0)) fun v20 =>
  aMerge true v20 (fun Q21 =>
  aFieldAddr 7 v0 fun v22 =>
  aLoad false 1 v22 h9 fun v23 =>
  aLenS false v23 fun v24 =>
  aBin false false .neq v24 v8 fun v25 =>
  (h9 = h9 ∧ Q21 v25)) fun v26 =>
  aMerge false v26 (fun Q27 =>
  aBin false false .lss v8 (.p (.int .i64 0)) fun v28 =>
  aMerge true v28 (fun Q29 =>
  aFieldAddr 7 v0 fun v30 =>
  aLoad false 1 v30 h9 fun v31 =>
  aLenS false v31 fun v32 =>
  aBin false false .lss v32 (.p (.int .i64 1)) fun v33 =>
  aMerge false v33 (fun Q34 =>
  aFieldAddr 7 v0 fun v35 =>
  aLoad false 1 v35 h9 fun v36 =>
  aLenS false v36 fun v37 =>
  aBin false false .gtr v37 (.p (.int .i64 8)) fun v38 =>
  (h9 = h9 ∧ Q34 v38)) fun v39 =>
  (h9 = h9 ∧ Q29 v39)) fun v40 =>
  (h9 = h9 ∧ Q27 v40)) fun v41 =>
  aGuard v41
  (aBuild [(.p (.int .i64 0)), (.full [])] [] fun v42 =>
  aStore 2 v4 v42 h9 fun _ h44 =>
  aLoad true 2 v4 h44 fun v45 =>
  K (.tup [v45, (.p (.int .i64 1))]) h44)
  (aFieldAddr 0 v0 fun v46 =>
  aLoad false 1 v46 h9 fun v47 =>
  aBin false false .neq v47 (.p (.str [97, 116])) fun v48 =>
  aMerge true v48 (fun Q49 =>
  aFieldAddr 6 v0 fun v50 =>
  aLoad false 1 v50 h9 fun v51 =>
  aBin false false .neq v51 (.p (.int .i64 0)) fun v52 =>
  (h9 = h9 ∧ Q49 v52)) fun v53 =>
  aMerge false v53 (fun Q54 =>
  aFieldAddr 0 v0 fun v55 =>
  aLoad false 1 v55 h9 fun v56 =>
  aBin false false .neq v56 (.p (.str [108, 105, 116])) fun v57 =>
  aMerge true v57 (fun Q58 =>
  aFieldAddr 1 v0 fun v59 =>
  aLoad true 5 v59 h9 fun v60 =>
  aCall Tryz.prog (.p (.func runnelref6_nought_i [])) [v60] h9 fun v61 h62 =>
  aUn .not v61 fun v63 =>
  (h62 = h9 ∧ Q58 v63)) fun v64 =>
  (h9 = h9 ∧ Q54 v64)) fun v65 =>
  aGuard v65
  (aBuild [(.p (.int .i64 0)), (.full [])] [] fun v66 =>
  aStore 2 v4 v66 h9 fun _ h68 =>
  aLoad true 2 v4 h68 fun v69 =>
  K (.tup [v69, (.p (.int .i64 1))]) h68)
  (aFieldAddr 0 v0 fun v70 =>
  aLoad false 1 v70 h9 fun v71 =>
  aBin false false .eql v71 (.p (.str [108, 105, 116])) fun v72 =>
  aGuard v72
  (aFieldAddr 1 v0 fun v73 =>
  aLoad true 5 v73 h9 fun v74 =>
  aCall Tryz.prog (.p (.func runnelref6_CheckValue_i [])) [v74] h9 fun v75 h76 =>
  aBin false false .neq v75 (.p (.int .i64 0)) fun v77 =>
  aGuard v77
  (aBuild [(.p (.int .i64 0)), (.full [])] [] fun v78 =>
  aStore 2 v4 v78 h76 fun _ h80 =>
  aLoad true 2 v4 h80 fun v81 =>
  K (.tup [v81, v75]) h80)
  (aFieldAddr 1 v0 fun v82 =>
  aLoad true 5 v82 h76 fun v83 =>
  aCall Tryz.prog (.p (.func runnelref6_TypeOf_i [])) [v83] h76 fun v84 h85 =>
  aStore 2 v4 v84 h85 fun _ h87 =>
  aLoad true 2 v4 h87 fun v88 =>
  K (.tup [v88, (.p (.int .i64 0))]) h87))
  (aFieldAddr 0 v0 fun v89 =>
  aLoad false 1 v89 h9 fun v90 =>
  aBin false false .eql v90 (.p (.str [120])) fun v91 =>
  aGuard v91
  (aLoad true 2 v2 h9 fun v92 =>
  aStore 2 v4 v92 h9 fun _ h94 =>
  aLoad true 2 v4 h94 fun v95 =>
  K (.tup [v95, (.p (.int .i64 0))]) h94)
  (aLoopN 2 [(.full []), (.p (.int .i64 0))] h9 fun xs H B1 => runnelref6_check_L1 x2 v0 v2 v4 (xs.getD 0 .top) (xs.getD 1 .top) H B1 K))))))

def runnelref6_check_ann : Nat → List Nat := fun k => match k with | 19 => [10, 11] | _ => []

theorem runnelref6_check_eq (x0 x1 x2 : AV) (H : List Ob) (r : AV) (Ho : List Ob) : aBody Tryz.prog runnelref6_check_ann Tryz.f62 H [x0, x1, x2] r Ho = runnelref6_check x0 x1 x2 H (fun v H' => Gives H.length v H' r Ho) := by kernel_rfl

theorem runnelref6_check_fnH {x0 x1 x2 : AV} {Hin : List Ob} {r : AV} {Ho : List Ob} (h : runnelref6_check x0 x1 x2 Hin (fun v H' => Gives Hin.length v H' r Ho)) : Abs.Fn Tryz.prog runnelref6_check_i Hin [x0, x1, x2] r Ho :=
  fn_intro mixed runnelref6_check_ann (fn := Tryz.f62) (by kernel_rfl) (by kernel_rfl) (by rw [runnelref6_check_eq]; exact h)

theorem runnelref6_check_fn {x0 x1 x2 : AV} {r : AV} {Ho : List Ob} (h : runnelref6_check x0 x1 x2 [] (fun v H' => Gives 0 v H' r Ho)) : Abs.Fn Tryz.prog runnelref6_check_i [] [x0, x1, x2] r Ho := runnelref6_check_fnH (Hin := []) h

/- runnel/runnelref6.Arity -/
def runnelref6_Arity (x0 : AV) (H : List Ob) (K : AV → List Ob → Prop) : Prop :=
  aBin false false .eql x0 (.p (.str [108, 105, 116])) fun v0 =>
  aMerge false v0 (fun Q1 =>
  aBin false false .eql x0 (.p (.str [120])) fun v2 =>
  (H = H ∧ Q1 v2)) fun v3 =>
  aGuard v3
  (K (.p (.int .i64 0)) H)
  (aBin false false .eql x0 (.p (.str [97, 116])) fun v4 =>
  aMerge false v4 (fun Q5 =>
  aBin false false .eql x0 (.p (.str [110, 101, 103])) fun v6 =>
  aMerge false v6 (fun Q7 =>
  aBin false false .eql x0 (.p (.str [110, 111, 116])) fun v8 =>
  aMerge false v8 (fun Q9 =>
  aBin false false .eql x0 (.p (.str [108, 101, 110])) fun v10 =>
  (H = H ∧ Q9 v10)) fun v11 =>
  (H = H ∧ Q7 v11)) fun v12 =>
  (H = H ∧ Q5 v12)) fun v13 =>
  aGuard v13
  (K (.p (.int .i64 1)) H)
  (aBin false false .eql x0 (.p (.str [97, 100, 100])) fun v14 =>
  aMerge false v14 (fun Q15 =>
  aBin false false .eql x0 (.p (.str [115, 117, 98])) fun v16 =>
  aMerge false v16 (fun Q17 =>
  aBin false false .eql x0 (.p (.str [109, 117, 108])) fun v18 =>
  aMerge false v18 (fun Q19 =>
  aBin false false .eql x0 (.p (.str [100, 105, 118])) fun v20 =>
  aMerge false v20 (fun Q21 =>
  aBin false false .eql x0 (.p (.str [114, 101, 109])) fun v22 =>
  aMerge false v22 (fun Q23 =>
  aBin false false .eql x0 (.p (.str [101, 113])) fun v24 =>
  aMerge false v24 (fun Q25 =>
  aBin false false .eql x0 (.p (.str [108, 116])) fun v26 =>
  aMerge false v26 (fun Q27 =>
  aBin false false .eql x0 (.p (.str [97, 110, 100])) fun v28 =>
  aMerge false v28 (fun Q29 =>
  aBin false false .eql x0 (.p (.str [111, 114])) fun v30 =>
  aMerge false v30 (fun Q31 =>
  aBin false false .eql x0 (.p (.str [99, 97, 116])) fun v32 =>
  (H = H ∧ Q31 v32)) fun v33 =>
  (H = H ∧ Q29 v33)) fun v34 =>
  (H = H ∧ Q27 v34)) fun v35 =>
  (H = H ∧ Q25 v35)) fun v36 =>
  (H = H ∧ Q23 v36)) fun v37 =>
  (H = H ∧ Q21 v37)) fun v38 =>
  (H = H ∧ Q19 v38)) fun v39 =>
  (H = H ∧ Q17 v39)) fun v40 =>
  (H = H ∧ Q15 v40)) fun v41 =>
  aGuard v41
  (K (.p (.int .i64 2)) H)
  (aBin false false .eql x0 (.p (.str [105, 102])) fun v42 =>
  aGuard v42
  (K (.p (.int .i64 3)) H)
  (aBin false false .eql x0 (.p (.str [116, 117, 112])) fun v43 =>
  aGuard v43
  (K (.p (.int .i64 (-1))) H)
  (K (.p (.int .i64 (-2))) H)))))

def runnelref6_Arity_ann : Nat → List Nat := fun k => match k with | 1000003 => [1] | 1000008 => [1] | 1000007 => [1] | 1000006 => [1] | 1000019 => [1] | 1000018 => [1] | 1000017 => [1] | 1000016 => [1] | 1000015 => [1] | 1000014 => [1] | 1000013 => [1] | 1000012 => [1] | 1000011 => [1] | _ => []

theorem runnelref6_Arity_eq (x0 : AV) (H : List Ob) (r : AV) (Ho : List Ob) : aBody Tryz.prog runnelref6_Arity_ann Tryz.f96 H [x0] r Ho = runnelref6_Arity x0 H (fun v H' => Gives H.length v H' r Ho) := by kernel_rfl

theorem runnelref6_Arity_fnH {x0 : AV} {Hin : List Ob} {r : AV} {Ho : List Ob} (h : runnelref6_Arity x0 Hin (fun v H' => Gives Hin.length v H' r Ho)) : Abs.Fn Tryz.prog runnelref6_Arity_i Hin [x0] r Ho :=
  fn_intro mixed runnelref6_Arity_ann (fn := Tryz.f96) (by kernel_rfl) (by kernel_rfl) (by rw [runnelref6_Arity_eq]; exact h)

theorem runnelref6_Arity_fn {x0 : AV} {r : AV} {Ho : List Ob} (h : runnelref6_Arity x0 [] (fun v H' => Gives 0 v H' r Ho)) : Abs.Fn Tryz.prog runnelref6_Arity_i [] [x0] r Ho := runnelref6_Arity_fnH (Hin := []) h

/- runnel/runnelref6.nought -/
def runnelref6_nought (x0 : AV) (H : List Ob) (K : AV → List Ob → Prop) : Prop :=
  aBox x0 H fun v0 h1 =>
  aFieldAddr 0 v0 fun v2 =>
  aLoad false 1 v2 h1 fun v3 =>
  aBin false false .eql v3 (.p (.int .i64 0)) fun v4 =>
  aMerge true v4 (fun Q5 =>
  aFieldAddr 1 v0 fun v6 =>
  aLoad false 1 v6 h1 fun v7 =>
  aBin false false .eql v7 (.p (.int .i64 0)) fun v8 =>
  (h1 = h1 ∧ Q5 v8)) fun v9 =>
  aMerge true v9 (fun Q10 =>
  aFieldAddr 2 v0 fun v11 =>
  aLoad false 1 v11 h1 fun v12 =>
  aUn .not v12 fun v13 =>
  (h1 = h1 ∧ Q10 v13)) fun v14 =>
  aMerge true v14 (fun Q15 =>
  aFieldAddr 3 v0 fun v16 =>
  aLoad false 1 v16 h1 fun v17 =>
  aBin false false .eql v17 (.p (.str [])) fun v18 =>
  (h1 = h1 ∧ Q15 v18)) fun v19 =>
  aMerge true v19 (fun Q20 =>
  aFieldAddr 4 v0 fun v21 =>
  aLoad false 1 v21 h1 fun v22 =>
  aLenS false v22 fun v23 =>
  aBin false false .eql v23 (.p (.int .i64 0)) fun v24 =>
  (h1 = h1 ∧ Q20 v24)) fun v25 =>
  K v25 h1

def runnelref6_nought_ann : Nat → List Nat := fun _ => []

theorem runnelref6_nought_eq (x0 : AV) (H : List Ob) (r : AV) (Ho : List Ob) : aBody Tryz.prog runnelref6_nought_ann Tryz.f97 H [x0] r Ho = runnelref6_nought x0 H (fun v H' => Gives H.length v H' r Ho) := by kernel_rfl

theorem runnelref6_nought_fnH {x0 : AV} {Hin : List Ob} {r : AV} {Ho : List Ob} (h : runnelref6_nought x0 Hin (fun v H' => Gives Hin.length v H' r Ho)) : Abs.Fn Tryz.prog runnelref6_nought_i Hin [x0] r Ho :=
  fn_intro mixed runnelref6_nought_ann (fn := Tryz.f97) (by kernel_rfl) (by kernel_rfl) (by rw [runnelref6_nought_eq]; exact h)

theorem runnelref6_nought_fn {x0 : AV} {r : AV} {Ho : List Ob} (h : runnelref6_nought x0 [] (fun v H' => Gives 0 v H' r Ho)) : Abs.Fn Tryz.prog runnelref6_nought_i [] [x0] r Ho := runnelref6_nought_fnH (Hin := []) h

/- runnel/runnelref6.OpType -/
def runnelref6_OpType_L1 (q1s2 q1s6 q1s8 q1s9 y0 : AV) (H : List Ob) (B1 : List AV → List Ob → Prop) (K : AV → List Ob → Prop) : Prop :=
  aLen false false q1s2 fun v2 =>
  aBin false false .lss y0 v2 fun v3 =>
  aGuard v3
  (aIndexAddr 2 q1s2 y0 fun v4 =>
  aFieldAddr 0 v4 fun v5 =>
  aLoad false 1 v5 H fun v6 =>
  aBin false false .neq v6 q1s8 fun v7 =>
  aGuard v7
  (aBuild [(.p (.int .i64 0)), (.full [])] [] fun v8 =>
  aStore 2 q1s6 v8 H fun _ h10 =>
  aLoad true 2 q1s6 h10 fun v11 =>
  K (.tup [v11, (.p (.int .i64 5))]) h10)
  (aBin false false .add y0 (.p (.int .i64 1)) fun v12 =>
  B1 [v12] H))
  (aCall Tryz.prog (.p (.func runnelref6_Plain_i [])) [q1s9] H fun v13 h14 =>
  aStore 2 q1s6 v13 h14 fun _ h16 =>
  aLoad true 2 q1s6 h16 fun v17 =>
  K (.tup [v17, (.p (.int .i64 0))]) h16)

def runnelref6_OpType_J1 (j1s2 j1s6 j1s8 j1s9 : AV) (H : List Ob) (K : AV → List Ob → Prop) : Prop :=
  aLoopN 1 [(.p (.int .i64 0))] H fun xs H B1 => runnelref6_OpType_L1 j1s2 j1s6 j1s8 j1s9 (xs.getD 0 .top) H B1 K

def runnelref6_OpType (x0 x1 x2 : AV) (H : List Ob) (K : AV → List Ob → Prop) : Prop :=
  aAlloc [(.p (.int .i64 0)), (.full [])] H fun v0 h1 =>
  aBin false false .eql x0 (.p (.str [97, 116])) fun v18 =>
  aGuard v18
  (aIndexAddr 2 x2 (.p (.int .i64 0)) fun v19 =>
  aFieldAddr 0 v19 fun v20 =>
  aLoad false 1 v20 h1 fun v21 =>
  aBin false false .neq v21 (.p (.int .i64 4)) fun v22 =>
  aGuard v22
  (aBuild [(.p (.int .i64 0)), (.full [])] [] fun v23 =>
  aStore 2 v0 v23 h1 fun _ h25 =>
  aLoad true 2 v0 h25 fun v26 =>
  K (.tup [v26, (.p (.int .i64 5))]) h25)
  (aBin false false .lss x1 (.p (.int .i64 0)) fun v27 =>
  aMerge false v27 (fun Q28 =>
  aIndexAddr 2 x2 (.p (.int .i64 0)) fun v29 =>
  aFieldAddr 1 v29 fun v30 =>
  aLoad false 1 v30 h1 fun v31 =>
  aLenS false v31 fun v32 =>
  aBin false false .geq x1 v32 fun v33 =>
  (h1 = h1 ∧ Q28 v33)) fun v34 =>
  aGuard v34
  (aBuild [(.p (.int .i64 0)), (.full [])] [] fun v35 =>
  aStore 2 v0 v35 h1 fun _ h37 =>
  aLoad true 2 v0 h37 fun v38 =>
  K (.tup [v38, (.p (.int .i64 1))]) h37)
  (aIndexAddr 2 x2 (.p (.int .i64 0)) fun v39 =>
  aFieldAddr 1 v39 fun v40 =>
  aLoad false 1 v40 h1 fun v41 =>
  aIndexAddr 2 v41 x1 fun v42 =>
  aLoad true 2 v42 h1 fun v43 =>
  aStore 2 v0 v43 h1 fun _ h45 =>
  aLoad true 2 v0 h45 fun v46 =>
  K (.tup [v46, (.p (.int .i64 0))]) h45)))
  (aBin false false .eql x0 (.p (.str [116, 117, 112])) fun v47 =>
  aGuard v47
  (aBuild [(.p (.int .i64 0)), (.full [])] [(0, 1, (.p (.int .i64 4))), (1, 1, x2)] fun v48 =>
  aAlloc [(.p (.int .i64 0)), (.full [])] h1 fun v49 h50 =>
  aStore 2 v49 v48 h50 fun _ h52 =>
  aLoad true 2 v49 h52 fun v53 =>
  aCall Tryz.prog (.p (.func runnelref6_CheckType_i [])) [v53] h52 fun v54 h55 =>
  aBin false false .neq v54 (.p (.int .i64 0)) fun v56 =>
  aGuard v56
  (aBuild [(.p (.int .i64 0)), (.full [])] [] fun v57 =>
  aStore 2 v0 v57 h55 fun _ h59 =>
  aLoad true 2 v0 h59 fun v60 =>
  K (.tup [v60, (.p (.int .i64 9))]) h59)
  (aLoad true 2 v49 h55 fun v61 =>
  aStore 2 v0 v61 h55 fun _ h63 =>
  aLoad true 2 v0 h63 fun v64 =>
  K (.tup [v64, (.p (.int .i64 0))]) h63))
  (aBin false false .eql x0 (.p (.str [101, 113])) fun v65 =>
  aMerge false v65 (fun Q66 =>
  aBin false false .eql x0 (.p (.str [108, 116])) fun v67 =>
  (h1 = h1 ∧ Q66 v67)) fun v68 =>
  aGuard v68
  (aIndexAddr 2 x2 (.p (.int .i64 0)) fun v69 =>
  aLoad true 2 v69 h1 fun v70 =>
  aIndexAddr 2 x2 (.p (.int .i64 1)) fun v71 =>
  aLoad true 2 v71 h1 fun v72 =>
  aCallT Tryz.prog (.p (.func runnelref6_SameType_i [])) [v70, v72] fun v73 =>
  aUn .not v73 fun v74 =>
  aGuard v74
  (aBuild [(.p (.int .i64 0)), (.full [])] [] fun v75 =>
  aStore 2 v0 v75 h1 fun _ h77 =>
  aLoad true 2 v0 h77 fun v78 =>
  K (.tup [v78, (.p (.int .i64 5))]) h77)
  (aCall Tryz.prog (.p (.func runnelref6_Plain_i [])) [(.p (.int .i64 2))] h1 fun v79 h80 =>
  aStore 2 v0 v79 h80 fun _ h82 =>
  aLoad true 2 v0 h82 fun v83 =>
  K (.tup [v83, (.p (.int .i64 0))]) h82))
  (aBin false false .eql x0 (.p (.str [105, 102])) fun v84 =>
  aGuard v84
  (aIndexAddr 2 x2 (.p (.int .i64 0)) fun v85 =>
  aFieldAddr 0 v85 fun v86 =>
  aLoad false 1 v86 h1 fun v87 =>
  aBin false false .neq v87 (.p (.int .i64 2)) fun v88 =>
  aGuard v88
  (aBuild [(.p (.int .i64 0)), (.full [])] [] fun v89 =>
  aStore 2 v0 v89 h1 fun _ h91 =>
  aLoad true 2 v0 h91 fun v92 =>
  K (.tup [v92, (.p (.int .i64 5))]) h91)
  (aIndexAddr 2 x2 (.p (.int .i64 1)) fun v93 =>
  aLoad true 2 v93 h1 fun v94 =>
  aIndexAddr 2 x2 (.p (.int .i64 2)) fun v95 =>
  aLoad true 2 v95 h1 fun v96 =>
  aCallT Tryz.prog (.p (.func runnelref6_SameType_i [])) [v94, v96] fun v97 =>
  aUn .not v97 fun v98 =>
  aGuard v98
  (aBuild [(.p (.int .i64 0)), (.full [])] [] fun v99 =>
  aStore 2 v0 v99 h1 fun _ h101 =>
  aLoad true 2 v0 h101 fun v102 =>
  K (.tup [v102, (.p (.int .i64 5))]) h101)
  (aIndexAddr 2 x2 (.p (.int .i64 1)) fun v103 =>
  aLoad true 2 v103 h1 fun v104 =>
  aStore 2 v0 v104 h1 fun _ h106 =>
  aLoad true 2 v0 h106 fun v107 =>
  K (.tup [v107, (.p (.int .i64 0))]) h106)))
  (aBin false false .eql x0 (.p (.str [110, 101, 103])) fun v108 =>
  aMerge false v108 (fun Q109 =>
  aBin false false .eql x0 (.p (.str [97, 100, 100])) fun v110 =>
  aMerge false v110 (fun Q111 =>
  aBin false false .eql x0 (.p (.str [115, 117, 98])) fun v112 =>
  aMerge false v112 (fun Q113 =>
  aBin false false .eql x0 (.p (.str [109, 117, 108])) fun v114 =>
  aMerge false v114 (fun Q115 =>
  aBin false false .eql x0 (.p (.str [100, 105, 118])) fun v116 =>
  aMerge false v116 (fun Q117 =>
  aBin false false .eql x0 (.p (.str [114, 101, 109])) fun v118 =>
  (h1 = h1 ∧ Q117 v118)) fun v119 =>
  (h1 = h1 ∧ Q115 v119)) fun v120 =>
  (h1 = h1 ∧ Q113 v120)) fun v121 =>
  (h1 = h1 ∧ Q111 v121)) fun v122 =>
  (h1 = h1 ∧ Q109 v122)) fun v123 =>
  aGuard v123
  (runnelref6_OpType_J1 x2 v0 (.p (.int .i64 1)) (.p (.int .i64 1)) h1 K)
  (aBin false false .eql x0 (.p (.str [110, 111, 116])) fun v124 =>
  aMerge false v124 (fun Q125 =>
  aBin false false .eql x0 (.p (.str [97, 110, 100])) fun v126 =>
  aMerge false v126 (fun Q127 =>
  aBin false false .eql x0 (.p (.str [111, 114])) fun v128 =>
  (h1 = h1 ∧ Q127 v128)) fun v129 =>
  (h1 = h1 ∧ Q125 v129)) fun v130 =>
  aGuard v130
  (runnelref6_OpType_J1 x2 v0 (.p (.int .i64 2)) (.p (.int .i64 2)) h1 K)
  (aBin false false .eql x0 (.p (.str [99, 97, 116])) fun v131 =>
  aGuard v131
  (runnelref6_OpType_J1 x2 v0 (.p (.int .i64 3)) (.p (.int .i64 3)) h1 K)
  (aBin false false .eql x0 (.p (.str [108, 101, 110])) fun v132 =>
  aGuard v132
  (runnelref6_OpType_J1 x2 v0 (.p (.int .i64 3)) (.p (.int .i64 1)) h1 K)
  (runnelref6_OpType_J1 x2 v0 (.p (.int .i64 0)) (.p (.int .i64 0)) h1 K))))))))

def runnelref6_OpType_ann : Nat → List Nat := fun k => match k with | 44 => [11] | 1000016 => [1] | 1000029 => [1] | 1000028 => [1] | 1000027 => [1] | 1000026 => [1] | 1000025 => [1] | 1000034 => [1] | 1000033 => [1] | _ => []

theorem runnelref6_OpType_eq (x0 x1 x2 : AV) (H : List Ob) (r : AV) (Ho : List Ob) : aBody Tryz.prog runnelref6_OpType_ann Tryz.f99 H [x0, x1, x2] r Ho = runnelref6_OpType x0 x1 x2 H (fun v H' => Gives H.length v H' r Ho) := by kernel_rfl

theorem runnelref6_OpType_fnH {x0 x1 x2 : AV} {Hin : List Ob} {r : AV} {Ho : List Ob} (h : runnelref6_OpType x0 x1 x2 Hin (fun v H' => Gives Hin.length v H' r Ho)) : Abs.Fn Tryz.prog runnelref6_OpType_i Hin [x0, x1, x2] r Ho :=
  fn_intro mixed runnelref6_OpType_ann (fn := Tryz.f99) (by kernel_rfl) (by kernel_rfl) (by rw [runnelref6_OpType_eq]; exact h)

theorem runnelref6_OpType_fn {x0 x1 x2 : AV} {r : AV} {Ho : List Ob} (h : runnelref6_OpType x0 x1 x2 [] (fun v H' => Gives 0 v H' r Ho)) : Abs.Fn Tryz.prog runnelref6_OpType_i [] [x0, x1, x2] r Ho := runnelref6_OpType_fnH (Hin := []) h

/- runnel/expr.Types -/
def expr_Types (x0 x1 x2 : AV) (H : List Ob) (K : AV → List Ob → Prop) : Prop :=
  aAlloc [(.p (.int .i64 0)), (.full [])] H fun v0 h1 =>
  aCall Tryz.prog (.p (.func expr_shapes_i [])) [] h1 fun v2 h3 =>
  aCall Tryz.prog (.p (.func expr_find_string_expr_shape_i [])) [v2, x0] h3 fun v4 h5 =>
  aExtract v4 0 fun v6 =>
  aExtract v4 1 fun v7 =>
  aAlloc [(.p (.int .i64 0)), (.p (.int .i64 0)), (.full []), (.p (.bool false)), (.p (.int .i64 0))] h5 fun v8 h9 =>
  aStore 5 v8 v6 h9 fun _ h11 =>
  aUn .not v7 fun v12 =>
  aGuard v12
  (aBuild [(.p (.int .i64 0)), (.full [])] [] fun v13 =>
  aStore 2 v0 v13 h11 fun _ h15 =>
  aLoad true 2 v0 h15 fun v16 =>
  K (.tup [v16, (.p (.int .i64 6))]) h15)
  (aLoad true 5 v8 h11 fun v17 =>
  aCall Tryz.prog (.p (.func expr_fits_i [])) [v17, x2] h11 fun v18 h19 =>
  aUn .not v18 fun v20 =>
  aGuard v20
  (aBuild [(.p (.int .i64 0)), (.full [])] [] fun v21 =>
  aStore 2 v0 v21 h19 fun _ h23 =>
  aLoad true 2 v0 h23 fun v24 =>
  K (.tup [v24, (.p (.int .i64 5))]) h23)
  (aBuild [(.p (.str [])), (.p (.int .i64 0)), (.p (.int .i64 0)), (.p (.bool false)), (.p (.str [])), (.full []), (.p (.int .i64 0)), (.full [])] [(0, 1, x0), (6, 1, x1)] fun v25 =>
  aLoad true 5 v8 h19 fun v26 =>
  aCallT Tryz.prog (.p (.func slices_Clip_typ_Type_typ_Type_i [])) [x2] fun v27 =>
  aBuild [(.p (.int .i64 0)), (.full [])] [] fun v28 =>
  aCallT Tryz.prog (.p (.func expr_Expr_comes_i [])) [v25, v26, v27, v28] fun v29 =>
  aExtract v29 0 fun v30 =>
  aExtract v29 1 fun v31 =>
  aStore 2 v0 v30 h19 fun _ h33 =>
  aLoad true 2 v0 h33 fun v34 =>
  K (.tup [v34, v31]) h33))

def expr_Types_ann : Nat → List Nat := fun _ => []

theorem expr_Types_eq (x0 x1 x2 : AV) (H : List Ob) (r : AV) (Ho : List Ob) : aBody Tryz.prog expr_Types_ann Tryz.f109 H [x0, x1, x2] r Ho = expr_Types x0 x1 x2 H (fun v H' => Gives H.length v H' r Ho) := by kernel_rfl

theorem expr_Types_fnH {x0 x1 x2 : AV} {Hin : List Ob} {r : AV} {Ho : List Ob} (h : expr_Types x0 x1 x2 Hin (fun v H' => Gives Hin.length v H' r Ho)) : Abs.Fn Tryz.prog expr_Types_i Hin [x0, x1, x2] r Ho :=
  fn_intro mixed expr_Types_ann (fn := Tryz.f109) (by kernel_rfl) (by kernel_rfl) (by rw [expr_Types_eq]; exact h)

theorem expr_Types_fn {x0 x1 x2 : AV} {r : AV} {Ho : List Ob} (h : expr_Types x0 x1 x2 [] (fun v H' => Gives 0 v H' r Ho)) : Abs.Fn Tryz.prog expr_Types_i [] [x0, x1, x2] r Ho := expr_Types_fnH (Hin := []) h

/- runnel/expr.Known -/
def expr_Known (x0 : AV) (H : List Ob) (K : AV → List Ob → Prop) : Prop :=
  aCall Tryz.prog (.p (.func expr_shapes_i [])) [] H fun v0 h1 =>
  aCall Tryz.prog (.p (.func expr_find_string_expr_shape_i [])) [v0, x0] h1 fun v2 h3 =>
  aExtract v2 0 fun v4 =>
  aExtract v2 1 fun v5 =>
  aAlloc [(.p (.int .i64 0)), (.p (.int .i64 0)), (.full []), (.p (.bool false)), (.p (.int .i64 0))] h3 fun v6 h7 =>
  aStore 5 v6 v4 h7 fun _ h9 =>
  K v5 h9

def expr_Known_ann : Nat → List Nat := fun _ => []

theorem expr_Known_eq (x0 : AV) (H : List Ob) (r : AV) (Ho : List Ob) : aBody Tryz.prog expr_Known_ann Tryz.f122 H [x0] r Ho = expr_Known x0 H (fun v H' => Gives H.length v H' r Ho) := by kernel_rfl

theorem expr_Known_fnH {x0 : AV} {Hin : List Ob} {r : AV} {Ho : List Ob} (h : expr_Known x0 Hin (fun v H' => Gives Hin.length v H' r Ho)) : Abs.Fn Tryz.prog expr_Known_i Hin [x0] r Ho :=
  fn_intro mixed expr_Known_ann (fn := Tryz.f122) (by kernel_rfl) (by kernel_rfl) (by rw [expr_Known_eq]; exact h)

theorem expr_Known_fn {x0 : AV} {r : AV} {Ho : List Ob} (h : expr_Known x0 [] (fun v H' => Gives 0 v H' r Ho)) : Abs.Fn Tryz.prog expr_Known_i [] [x0] r Ho := expr_Known_fnH (Hin := []) h

/- runnel/expr.find[string,runnel/expr.shape] -/
def expr_find_string_expr_shape_L1 (q1s1 q1s4 q1s9 q1s10 y0 : AV) (H : List Ob) (B1 : List AV → List Ob → Prop) (K : AV → List Ob → Prop) : Prop :=
  aBin false false .lss y0 q1s10 fun v3 =>
  aGuard v3
  (aIndexAddr 6 q1s9 y0 fun v4 =>
  aLoad true 6 v4 H fun v5 =>
  aAlloc [(.p (.str [])), (.p (.int .i64 0)), (.p (.int .i64 0)), (.full []), (.p (.bool false)), (.p (.int .i64 0))] H fun v6 h7 =>
  aStore 6 v6 v5 h7 fun _ h9 =>
  aFieldAddr 0 v6 fun v10 =>
  aLoad false 1 v10 h9 fun v11 =>
  aBin false false .eql v11 q1s1 fun v12 =>
  aGuard v12
  (aFieldAddr 1 v6 fun v13 =>
  aLoad true 5 v13 h9 fun v14 =>
  aStore 5 q1s4 v14 h9 fun _ h16 =>
  aLoad true 5 q1s4 h16 fun v17 =>
  K (.tup [v17, (.p (.bool true))]) h16)
  (aBin false false .add y0 (.p (.int .i64 1)) fun v18 =>
  B1 [v18] h9))
  (aAlloc [(.p (.int .i64 0)), (.p (.int .i64 0)), (.full []), (.p (.bool false)), (.p (.int .i64 0))] H fun v19 h20 =>
  aLoad true 5 v19 h20 fun v21 =>
  aStore 5 q1s4 v21 h20 fun _ h23 =>
  aLoad true 5 q1s4 h23 fun v24 =>
  K (.tup [v24, (.p (.bool false))]) h23)

def expr_find_string_expr_shape (x0 x1 : AV) (H : List Ob) (K : AV → List Ob → Prop) : Prop :=
  aAlloc [(.p (.int .i64 0)), (.p (.int .i64 0)), (.full []), (.p (.bool false)), (.p (.int .i64 0))] H fun v0 h1 =>
  aLen false false x0 fun v2 =>
  aLoopN 1 [(.p (.int .i64 0))] h1 fun xs H B1 => expr_find_string_expr_shape_L1 x1 v0 x0 v2 (xs.getD 0 .top) H B1 K

def expr_find_string_expr_shape_ann : Nat → List Nat := fun k => match k with | 2 => [11] | _ => []

theorem expr_find_string_expr_shape_eq (x0 x1 : AV) (H : List Ob) (r : AV) (Ho : List Ob) : aBody Tryz.prog expr_find_string_expr_shape_ann Tryz.f142 H [x0, x1] r Ho = expr_find_string_expr_shape x0 x1 H (fun v H' => Gives H.length v H' r Ho) := by kernel_rfl

theorem expr_find_string_expr_shape_fnH {x0 x1 : AV} {Hin : List Ob} {r : AV} {Ho : List Ob} (h : expr_find_string_expr_shape x0 x1 Hin (fun v H' => Gives Hin.length v H' r Ho)) : Abs.Fn Tryz.prog expr_find_string_expr_shape_i Hin [x0, x1] r Ho :=
  fn_intro mixed expr_find_string_expr_shape_ann (fn := Tryz.f142) (by kernel_rfl) (by kernel_rfl) (by rw [expr_find_string_expr_shape_eq]; exact h)

theorem expr_find_string_expr_shape_fn {x0 x1 : AV} {r : AV} {Ho : List Ob} (h : expr_find_string_expr_shape x0 x1 [] (fun v H' => Gives 0 v H' r Ho)) : Abs.Fn Tryz.prog expr_find_string_expr_shape_i [] [x0, x1] r Ho := expr_find_string_expr_shape_fnH (Hin := []) h

/- runnel/expr.shapes -/
def expr_shapes (H : List Ob) (K : AV → List Ob → Prop) : Prop :=
  aBuildSlice 1 [(.p (.int .i64 1)), (.p (.int .i64 1))] fun v0 =>
  aBuild [(.p (.int .i64 0)), (.p (.int .i64 0)), (.full []), (.p (.bool false)), (.p (.int .i64 0))] [(0, 1, (.p (.int .i64 2))), (1, 1, (.p (.int .i64 2))), (2, 1, v0), (3, 1, (.p (.bool false))), (4, 1, (.p (.int .i64 1)))] fun v1 =>
  aAlloc [(.p (.int .i64 0)), (.p (.int .i64 0)), (.full []), (.p (.bool false)), (.p (.int .i64 0))] H fun v2 h3 =>
  aStore 5 v2 v1 h3 fun _ h5 =>
  aBuildSlice 1 [(.p (.int .i64 0)), (.p (.int .i64 0))] fun v6 =>
  aBuild [(.p (.int .i64 0)), (.p (.int .i64 0)), (.full []), (.p (.bool false)), (.p (.int .i64 0))] [(0, 1, (.p (.int .i64 2))), (1, 1, (.p (.int .i64 2))), (2, 1, v6), (3, 1, (.p (.bool true))), (4, 1, (.p (.int .i64 2)))] fun v7 =>
  aAlloc [(.p (.int .i64 0)), (.p (.int .i64 0)), (.full []), (.p (.bool false)), (.p (.int .i64 0))] h5 fun v8 h9 =>
  aStore 5 v8 v7 h9 fun _ h11 =>
  aBuildSlice 1 [(.p (.int .i64 2)), (.p (.int .i64 2))] fun v12 =>
  aBuild [(.p (.int .i64 0)), (.p (.int .i64 0)), (.full []), (.p (.bool false)), (.p (.int .i64 0))] [(0, 1, (.p (.int .i64 2))), (1, 1, (.p (.int .i64 2))), (2, 1, v12), (3, 1, (.p (.bool false))), (4, 1, (.p (.int .i64 2)))] fun v13 =>
  aAlloc [(.p (.int .i64 0)), (.p (.int .i64 0)), (.full []), (.p (.bool false)), (.p (.int .i64 0))] h11 fun v14 h15 =>
  aStore 5 v14 v13 h15 fun _ h17 =>
  aBuild [(.p (.int .i64 0)), (.p (.int .i64 0)), (.full []), (.p (.bool false)), (.p (.int .i64 0))] [] fun v18 =>
  aBuild [(.p (.str [])), (.p (.int .i64 0)), (.p (.int .i64 0)), (.full []), (.p (.bool false)), (.p (.int .i64 0))] [(0, 1, (.p (.str [108, 105, 116]))), (1, 5, v18)] fun v19 =>
  aBuild [(.p (.int .i64 0)), (.p (.int .i64 0)), (.full []), (.p (.bool false)), (.p (.int .i64 0))] [] fun v20 =>
  aBuild [(.p (.str [])), (.p (.int .i64 0)), (.p (.int .i64 0)), (.full []), (.p (.bool false)), (.p (.int .i64 0))] [(0, 1, (.p (.str [120]))), (1, 5, v20)] fun v21 =>
  aBuildSlice 1 [(.p (.int .i64 4))] fun v22 =>
  aBuild [(.p (.int .i64 0)), (.p (.int .i64 0)), (.full []), (.p (.bool false)), (.p (.int .i64 0))] [(0, 1, (.p (.int .i64 1))), (1, 1, (.p (.int .i64 1))), (2, 1, v22), (3, 1, (.p (.bool false))), (4, 1, (.p (.int .i64 0)))] fun v23 =>
  aBuild [(.p (.str [])), (.p (.int .i64 0)), (.p (.int .i64 0)), (.full []), (.p (.bool false)), (.p (.int .i64 0))] [(0, 1, (.p (.str [97, 116]))), (1, 5, v23)] fun v24 =>
  aBuild [(.p (.int .i64 0)), (.p (.int .i64 0)), (.full []), (.p (.bool false)), (.p (.int .i64 0))] [(0, 1, (.p (.int .i64 1))), (1, 1, (.p (.int .i64 8))), (2, 1, (.full [])), (3, 1, (.p (.bool false))), (4, 1, (.p (.int .i64 4)))] fun v25 =>
  aBuild [(.p (.str [])), (.p (.int .i64 0)), (.p (.int .i64 0)), (.full []), (.p (.bool false)), (.p (.int .i64 0))] [(0, 1, (.p (.str [116, 117, 112]))), (1, 5, v25)] fun v26 =>
  aBuildSlice 1 [(.p (.int .i64 1))] fun v27 =>
  aBuild [(.p (.int .i64 0)), (.p (.int .i64 0)), (.full []), (.p (.bool false)), (.p (.int .i64 0))] [(0, 1, (.p (.int .i64 1))), (1, 1, (.p (.int .i64 1))), (2, 1, v27), (3, 1, (.p (.bool false))), (4, 1, (.p (.int .i64 1)))] fun v28 =>
  aBuild [(.p (.str [])), (.p (.int .i64 0)), (.p (.int .i64 0)), (.full []), (.p (.bool false)), (.p (.int .i64 0))] [(0, 1, (.p (.str [110, 101, 103]))), (1, 5, v28)] fun v29 =>
  aBuildSlice 1 [(.p (.int .i64 2))] fun v30 =>
  aBuild [(.p (.int .i64 0)), (.p (.int .i64 0)), (.full []), (.p (.bool false)), (.p (.int .i64 0))] [(0, 1, (.p (.int .i64 1))), (1, 1, (.p (.int .i64 1))), (2, 1, v30), (3, 1, (.p (.bool false))), (4, 1, (.p (.int .i64 2)))] fun v31 =>
  aBuild [(.p (.str [])), (.p (.int .i64 0)), (.p (.int .i64 0)), (.full []), (.p (.bool false)), (.p (.int .i64 0))] [(0, 1, (.p (.str [110, 111, 116]))), (1, 5, v31)] fun v32 =>
  aBuildSlice 1 [(.p (.int .i64 3))] fun v33 =>
  aBuild [(.p (.int .i64 0)), (.p (.int .i64 0)), (.full []), (.p (.bool false)), (.p (.int .i64 0))] [(0, 1, (.p (.int .i64 1))), (1, 1, (.p (.int .i64 1))), (2, 1, v33), (3, 1, (.p (.bool false))), (4, 1, (.p (.int .i64 1)))] fun v34 =>
  aBuild [(.p (.str [])), (.p (.int .i64 0)), (.p (.int .i64 0)), (.full []), (.p (.bool false)), (.p (.int .i64 0))] [(0, 1, (.p (.str [108, 101, 110]))), (1, 5, v34)] fun v35 =>
  aLoad true 5 v2 h17 fun v36 =>
  aBuild [(.p (.str [])), (.p (.int .i64 0)), (.p (.int .i64 0)), (.full []), (.p (.bool false)), (.p (.int .i64 0))] [(0, 1, (.p (.str [97, 100, 100]))), (1, 5, v36)] fun v37 =>
  aLoad true 5 v2 h17 fun v38 =>
  aBuild [(.p (.str [])), (.p (.int .i64 0)), (.p (.int .i64 0)), (.full []), (.p (.bool false)), (.p (.int .i64 0))] [(0, 1, (.p (.str [115, 117, 98]))), (1, 5, v38)] fun v39 =>
  aLoad true 5 v2 h17 fun v40 =>
  aBuild [(.p (.str [])), (.p (.int .i64 0)), (.p (.int .i64 0)), (.full []), (.p (.bool false)), (.p (.int .i64 0))] [(0, 1, (.p (.str [109, 117, 108]))), (1, 5, v40)] fun v41 =>
  aLoad true 5 v2 h17 fun v42 =>
  aBuild [(.p (.str [])), (.p (.int .i64 0)), (.p (.int .i64 0)), (.full []), (.p (.bool false)), (.p (.int .i64 0))] [(0, 1, (.p (.str [100, 105, 118]))), (1, 5, v42)] fun v43 =>
  aLoad true 5 v2 h17 fun v44 =>
  aBuild [(.p (.str [])), (.p (.int .i64 0)), (.p (.int .i64 0)), (.full []), (.p (.bool false)), (.p (.int .i64 0))] [(0, 1, (.p (.str [114, 101, 109]))), (1, 5, v44)] fun v45 =>
  aLoad true 5 v8 h17 fun v46 =>
  aBuild [(.p (.str [])), (.p (.int .i64 0)), (.p (.int .i64 0)), (.full []), (.p (.bool false)), (.p (.int .i64 0))] [(0, 1, (.p (.str [101, 113]))), (1, 5, v46)] fun v47 =>
  aLoad true 5 v8 h17 fun v48 =>
  aBuild [(.p (.str [])), (.p (.int .i64 0)), (.p (.int .i64 0)), (.full []), (.p (.bool false)), (.p (.int .i64 0))] [(0, 1, (.p (.str [108, 116]))), (1, 5, v48)] fun v49 =>
  aLoad true 5 v14 h17 fun v50 =>
  aBuild [(.p (.str [])), (.p (.int .i64 0)), (.p (.int .i64 0)), (.full []), (.p (.bool false)), (.p (.int .i64 0))] [(0, 1, (.p (.str [97, 110, 100]))), (1, 5, v50)] fun v51 =>
  aLoad true 5 v14 h17 fun v52 =>
  aBuild [(.p (.str [])), (.p (.int .i64 0)), (.p (.int .i64 0)), (.full []), (.p (.bool false)), (.p (.int .i64 0))] [(0, 1, (.p (.str [111, 114]))), (1, 5, v52)] fun v53 =>
  aBuildSlice 1 [(.p (.int .i64 3)), (.p (.int .i64 3))] fun v54 =>
  aBuild [(.p (.int .i64 0)), (.p (.int .i64 0)), (.full []), (.p (.bool false)), (.p (.int .i64 0))] [(0, 1, (.p (.int .i64 2))), (1, 1, (.p (.int .i64 2))), (2, 1, v54), (3, 1, (.p (.bool false))), (4, 1, (.p (.int .i64 3)))] fun v55 =>
  aBuild [(.p (.str [])), (.p (.int .i64 0)), (.p (.int .i64 0)), (.full []), (.p (.bool false)), (.p (.int .i64 0))] [(0, 1, (.p (.str [99, 97, 116]))), (1, 5, v55)] fun v56 =>
  aBuildSlice 1 [(.p (.int .i64 2)), (.p (.int .i64 0)), (.p (.int .i64 0))] fun v57 =>
  aBuild [(.p (.int .i64 0)), (.p (.int .i64 0)), (.full []), (.p (.bool false)), (.p (.int .i64 0))] [(0, 1, (.p (.int .i64 3))), (1, 1, (.p (.int .i64 3))), (2, 1, v57), (3, 1, (.p (.bool true))), (4, 1, (.p (.int .i64 0)))] fun v58 =>
  aBuild [(.p (.str [])), (.p (.int .i64 0)), (.p (.int .i64 0)), (.full []), (.p (.bool false)), (.p (.int .i64 0))] [(0, 1, (.p (.str [105, 102]))), (1, 5, v58)] fun v59 =>
  aBuildSlice 6 [v19, v21, v24, v26, v29, v32, v35, v37, v39, v41, v43, v45, v47, v49, v51, v53, v56, v59] fun v60 =>
  K v60 h17

def expr_shapes_ann : Nat → List Nat := fun _ => []

theorem expr_shapes_eq (H : List Ob) (r : AV) (Ho : List Ob) : aBody Tryz.prog expr_shapes_ann Tryz.f143 H [] r Ho = expr_shapes H (fun v H' => Gives H.length v H' r Ho) := by kernel_rfl

theorem expr_shapes_fnH {Hin : List Ob} {r : AV} {Ho : List Ob} (h : expr_shapes Hin (fun v H' => Gives Hin.length v H' r Ho)) : Abs.Fn Tryz.prog expr_shapes_i Hin [] r Ho :=
  fn_intro mixed expr_shapes_ann (fn := Tryz.f143) (by kernel_rfl) (by kernel_rfl) (by rw [expr_shapes_eq]; exact h)

theorem expr_shapes_fn {r : AV} {Ho : List Ob} (h : expr_shapes [] (fun v H' => Gives 0 v H' r Ho)) : Abs.Fn Tryz.prog expr_shapes_i [] [] r Ho := expr_shapes_fnH (Hin := []) h

/- runnel/expr.fits -/
def expr_fits_L1 (q1s1 q1s2 q1s8 q1s9 y0 : AV) (H : List Ob) (B1 : List AV → List Ob → Prop) (K : AV → List Ob → Prop) : Prop :=
  aBin false false .lss y0 q1s9 fun v5 =>
  aGuard v5
  (aIndexAddr 1 q1s8 y0 fun v6 =>
  aLoad false 1 v6 H fun v7 =>
  aBin false false .neq v7 (.p (.int .i64 0)) fun v8 =>
  aMerge true v8 (fun Q9 =>
  aIndexAddr 2 q1s1 y0 fun v10 =>
  aFieldAddr 0 v10 fun v11 =>
  aLoad false 1 v11 H fun v12 =>
  aBin false false .neq v12 v7 fun v13 =>
  (H = H ∧ Q9 v13)) fun v14 =>
  aGuard v14
  (K (.p (.bool false)) H)
  (aBin false false .add y0 (.p (.int .i64 1)) fun v15 =>
  B1 [v15] H))
  (aFieldAddr 3 q1s2 fun v16 =>
  aLoad false 1 v16 H fun v17 =>
  aUn .not v17 fun v18 =>
  aGuard v18
  (K (.p (.bool true)) H)
  (aLen true false q1s1 fun v19 =>
  aBin false false .sub v19 (.p (.int .i64 1)) fun v20 =>
  aIndexAddr 2 q1s1 v20 fun v21 =>
  aLoad true 2 v21 H fun v22 =>
  aLen true false q1s1 fun v23 =>
  aBin false false .sub v23 (.p (.int .i64 2)) fun v24 =>
  aIndexAddr 2 q1s1 v24 fun v25 =>
  aLoad true 2 v25 H fun v26 =>
  aCallT Tryz.prog (.p (.func typ_Same_i [])) [v22, v26] fun v27 =>
  K v27 H))

def expr_fits (x0 x1 : AV) (H : List Ob) (K : AV → List Ob → Prop) : Prop :=
  aBox x0 H fun v0 h1 =>
  aFieldAddr 2 v0 fun v2 =>
  aLoad false 1 v2 h1 fun v3 =>
  aLen false false v3 fun v4 =>
  aLoopN 1 [(.p (.int .i64 0))] h1 fun xs H B1 => expr_fits_L1 x1 v0 v3 v4 (xs.getD 0 .top) H B1 K

def expr_fits_ann : Nat → List Nat := fun k => match k with | 2 => [10] | _ => []

theorem expr_fits_eq (x0 x1 : AV) (H : List Ob) (r : AV) (Ho : List Ob) : aBody Tryz.prog expr_fits_ann Tryz.f144 H [x0, x1] r Ho = expr_fits x0 x1 H (fun v H' => Gives H.length v H' r Ho) := by kernel_rfl

theorem expr_fits_fnH {x0 x1 : AV} {Hin : List Ob} {r : AV} {Ho : List Ob} (h : expr_fits x0 x1 Hin (fun v H' => Gives Hin.length v H' r Ho)) : Abs.Fn Tryz.prog expr_fits_i Hin [x0, x1] r Ho :=
  fn_intro mixed expr_fits_ann (fn := Tryz.f144) (by kernel_rfl) (by kernel_rfl) (by rw [expr_fits_eq]; exact h)

theorem expr_fits_fn {x0 x1 : AV} {r : AV} {Ho : List Ob} (h : expr_fits x0 x1 [] (fun v H' => Gives 0 v H' r Ho)) : Abs.Fn Tryz.prog expr_fits_i [] [x0, x1] r Ho := expr_fits_fnH (Hin := []) h

/- (runnel/expr.Expr).comes -/
def expr_Expr_comes (x0 x1 x2 x3 : AV) (H : List Ob) (K : AV → List Ob → Prop) : Prop :=
  aBox x0 H fun v0 h1 =>
  aBox x1 h1 fun v2 h3 =>
  aBox x3 h3 fun v4 h5 =>
  aAlloc [(.p (.int .i64 0)), (.full [])] h5 fun v6 h7 =>
  aFieldAddr 0 v0 fun v8 =>
  aLoad false 1 v8 h7 fun v9 =>
  aBin false false .eql v9 (.p (.str [108, 105, 116])) fun v10 =>
  aGuard v10
  (aFieldAddr 1 v0 fun v11 =>
  aLoad true 5 v11 h7 fun v12 =>
  aCall Tryz.prog (.p (.func val_TypeOf_i [])) [v12] h7 fun v13 h14 =>
  aStore 2 v6 v13 h14 fun _ h16 =>
  aLoad true 2 v6 h16 fun v17 =>
  K (.tup [v17, (.p (.int .i64 0))]) h16)
  (aBin false false .eql v9 (.p (.str [120])) fun v18 =>
  aGuard v18
  (aLoad true 2 v4 h7 fun v19 =>
  aStore 2 v6 v19 h7 fun _ h21 =>
  aLoad true 2 v6 h21 fun v22 =>
  K (.tup [v22, (.p (.int .i64 0))]) h21)
  (aBin false false .eql v9 (.p (.str [97, 116])) fun v23 =>
  aGuard v23
  (aFieldAddr 6 v0 fun v24 =>
  aLoad false 1 v24 h7 fun v25 =>
  aBin false false .lss v25 (.p (.int .i64 0)) fun v26 =>
  aGuard v26
  (aBuild [(.p (.int .i64 0)), (.full [])] [] fun v27 =>
  aStore 2 v6 v27 h7 fun _ h29 =>
  aLoad true 2 v6 h29 fun v30 =>
  K (.tup [v30, (.p (.int .i64 1))]) h29)
  (aFieldAddr 6 v0 fun v31 =>
  aLoad false 1 v31 h7 fun v32 =>
  aIndexAddr 2 x2 (.p (.int .i64 0)) fun v33 =>
  aFieldAddr 1 v33 fun v34 =>
  aLoad false 1 v34 h7 fun v35 =>
  aLen true false v35 fun v36 =>
  aBin false false .geq v32 v36 fun v37 =>
  aGuard v37
  (aBuild [(.p (.int .i64 0)), (.full [])] [] fun v38 =>
  aStore 2 v6 v38 h7 fun _ h40 =>
  aLoad true 2 v6 h40 fun v41 =>
  K (.tup [v41, (.p (.int .i64 1))]) h40)
  (aIndexAddr 2 x2 (.p (.int .i64 0)) fun v42 =>
  aFieldAddr 1 v42 fun v43 =>
  aLoad false 1 v43 h7 fun v44 =>
  aFieldAddr 6 v0 fun v45 =>
  aLoad false 1 v45 h7 fun v46 =>
  aIndexAddr 2 v44 v46 fun v47 =>
  aLoad true 2 v47 h7 fun v48 =>
  aStore 2 v6 v48 h7 fun _ h50 =>
  aLoad true 2 v6 h50 fun v51 =>
  K (.tup [v51, (.p (.int .i64 0))]) h50)))
  (aBin false false .eql v9 (.p (.str [116, 117, 112])) fun v52 =>
  aGuard v52
  (aBuild [(.p (.int .i64 0)), (.full [])] [(0, 1, (.p (.int .i64 4))), (1, 1, x2)] fun v53 =>
  aAlloc [(.p (.int .i64 0)), (.full [])] h7 fun v54 h55 =>
  aStore 2 v54 v53 h55 fun _ h57 =>
  aLoad true 2 v54 h57 fun v58 =>
  aCall Tryz.prog (.p (.func typ_Check_i [])) [v58] h57 fun v59 h60 =>
  aBin false false .neq v59 (.p (.int .i64 0)) fun v61 =>
  aGuard v61
  (aBuild [(.p (.int .i64 0)), (.full [])] [] fun v62 =>
  aStore 2 v6 v62 h60 fun _ h64 =>
  aLoad true 2 v6 h64 fun v65 =>
  K (.tup [v65, v59]) h64)
  (aLoad true 2 v54 h60 fun v66 =>
  aStore 2 v6 v66 h60 fun _ h68 =>
  aLoad true 2 v6 h68 fun v69 =>
  K (.tup [v69, (.p (.int .i64 0))]) h68))
  (aBin false false .eql v9 (.p (.str [105, 102])) fun v70 =>
  aGuard v70
  (aIndexAddr 2 x2 (.p (.int .i64 1)) fun v71 =>
  aLoad true 2 v71 h7 fun v72 =>
  aStore 2 v6 v72 h7 fun _ h74 =>
  aLoad true 2 v6 h74 fun v75 =>
  K (.tup [v75, (.p (.int .i64 0))]) h74)
  (aFieldAddr 4 v2 fun v76 =>
  aLoad false 1 v76 h7 fun v77 =>
  aBuild [(.p (.int .i64 0)), (.full [])] [(0, 1, v77)] fun v78 =>
  aStore 2 v6 v78 h7 fun _ h80 =>
  aLoad true 2 v6 h80 fun v81 =>
  K (.tup [v81, (.p (.int .i64 0))]) h80)))))

def expr_Expr_comes_ann : Nat → List Nat := fun _ => []

theorem expr_Expr_comes_eq (x0 x1 x2 x3 : AV) (H : List Ob) (r : AV) (Ho : List Ob) : aBody Tryz.prog expr_Expr_comes_ann Tryz.f145 H [x0, x1, x2, x3] r Ho = expr_Expr_comes x0 x1 x2 x3 H (fun v H' => Gives H.length v H' r Ho) := by kernel_rfl

theorem expr_Expr_comes_fnH {x0 x1 x2 x3 : AV} {Hin : List Ob} {r : AV} {Ho : List Ob} (h : expr_Expr_comes x0 x1 x2 x3 Hin (fun v H' => Gives Hin.length v H' r Ho)) : Abs.Fn Tryz.prog expr_Expr_comes_i Hin [x0, x1, x2, x3] r Ho :=
  fn_intro mixed expr_Expr_comes_ann (fn := Tryz.f145) (by kernel_rfl) (by kernel_rfl) (by rw [expr_Expr_comes_eq]; exact h)

theorem expr_Expr_comes_fn {x0 x1 x2 x3 : AV} {r : AV} {Ho : List Ob} (h : expr_Expr_comes x0 x1 x2 x3 [] (fun v H' => Gives 0 v H' r Ho)) : Abs.Fn Tryz.prog expr_Expr_comes_i [] [x0, x1, x2, x3] r Ho := expr_Expr_comes_fnH (Hin := []) h

end Go.Proofs.YtgfnodmghaghpaaGreatDoor
end

section
/- Made by program (Gen.lean): functions of the dump, over trees. -/
set_option maxRecDepth 4000
set_option linter.unusedVariables false
namespace Go.Proofs.YtgfnodmghaghpaaGreatDoor
open Go Go.Abs

/- runnel/runnellaw5.right -/
def runnellaw5_right (x0 x1 : AV) (H : List Ob) (K : AV → List Ob → Prop) : Prop :=
  aBox x0 H fun v0 h1 =>
  aBox x1 h1 fun v2 h3 =>
  aFieldAddr 0 v2 fun v4 =>
  aLoad false 1 v4 h3 fun v5 =>
  aFieldAddr 1 v2 fun v6 =>
  aLoad false 1 v6 h3 fun v7 =>
  aFieldAddr 2 v2 fun v8 =>
  aLoad false 1 v8 h3 fun v9 =>
  aFieldAddr 3 v2 fun v10 =>
  aLoad false 1 v10 h3 fun v11 =>
  aBuild [(.p (.int .i64 0)), (.p (.int .i64 0)), (.p (.bool false)), (.p (.str [])), (.full [])] [(0, 1, v5), (1, 1, v7), (2, 1, v9), (3, 1, v11)] fun v12 =>
  aAlloc [(.p (.int .i64 0)), (.p (.int .i64 0)), (.p (.bool false)), (.p (.str [])), (.full [])] h3 fun v13 h14 =>
  aStore 5 v13 v12 h14 fun _ h16 =>
  aAlloc [(.p (.int .i64 0)), (.full [])] h16 fun v17 h18 =>
  aLoad true 8 v0 h18 fun v19 =>
  aLoad true 5 v13 h18 fun v20 =>
  aCallT Tryz.prog (.p (.func runnelref6_TypeOf_i [])) [v20] fun v21 =>
  aCallT Tryz.prog (.p (.func runnelref6_CheckExpr_i [])) [v19, v21] fun v22 =>
  aExtract v22 0 fun v23 =>
  aExtract v22 1 fun v24 =>
  aStore 2 v17 v23 h18 fun _ h26 =>
  aAlloc [(.p (.int .i64 0)), (.full [])] h26 fun v27 h28 =>
  aLoad true 8 v0 h28 fun v29 =>
  aCallT Tryz.prog (.p (.func runnelref6_Plain_i [])) [(.p (.int .i64 1))] fun v30 =>
  aCallT Tryz.prog (.p (.func runnelref6_CheckExpr_i [])) [v29, v30] fun v31 =>
  aExtract v31 0 fun v32 =>
  aExtract v31 1 fun v33 =>
  aStore 2 v27 v32 h28 fun _ h35 =>
  aBin false false .eql v24 (.p (.int .i64 0)) fun v36 =>
  aMerge false v36 (fun Q37 =>
  aBin false false .eql v33 (.p (.int .i64 0)) fun v38 =>
  (h35 = h35 ∧ Q37 v38)) fun v39 =>
  K v39 h35

def runnellaw5_right_ann : Nat → List Nat := fun _ => []

theorem runnellaw5_right_eq (x0 x1 : AV) (H : List Ob) (r : AV) (Ho : List Ob) : aBody Tryz.prog runnellaw5_right_ann Tryz.f19 H [x0, x1] r Ho = runnellaw5_right x0 x1 H (fun v H' => Gives H.length v H' r Ho) := by kernel_rfl

theorem runnellaw5_right_fnH {x0 x1 : AV} {Hin : List Ob} {r : AV} {Ho : List Ob} (h : runnellaw5_right x0 x1 Hin (fun v H' => Gives Hin.length v H' r Ho)) : Abs.Fn Tryz.prog runnellaw5_right_i Hin [x0, x1] r Ho :=
  fn_intro mixed runnellaw5_right_ann (fn := Tryz.f19) (by kernel_rfl) (by kernel_rfl) (by rw [runnellaw5_right_eq]; exact h)

theorem runnellaw5_right_fn {x0 x1 : AV} {r : AV} {Ho : List Ob} (h : runnellaw5_right x0 x1 [] (fun v H' => Gives 0 v H' r Ho)) : Abs.Fn Tryz.prog runnellaw5_right_i [] [x0, x1] r Ho := runnellaw5_right_fnH (Hin := []) h

/- runnel/parse.Text -/
def parse_Text_L1 (q1s45 q1s46 y0 y1 : AV) (H : List Ob) (B1 : List AV → List Ob → Prop) (K : AV → List Ob → Prop) : Prop :=
  aBin false false .lss y1 q1s46 fun v33 =>
  aGuard v33
  (aIndexAddr 8 q1s45 y1 fun v34 =>
  aLoad true 8 v34 H fun v35 =>
  aAlloc [(.p (.str [])), (.p (.int .i64 0)), (.p (.int .i64 0)), (.p (.bool false)), (.p (.str [])), (.full []), (.p (.int .i64 0)), (.full [])] H fun v36 h37 =>
  aStore 8 v36 v35 h37 fun _ h39 =>
  aLoad true 8 v36 h39 fun v40 =>
  aCall Tryz.prog (.p (.func parse_Text_i [])) [v40] h39 fun v41 h42 =>
  aBuildSlice 1 [v41] fun v43 =>
  aAppend false 1 16 y0 v43 h42 fun v44 h45 =>
  aBin false false .add y1 (.p (.int .i64 1)) fun v46 =>
  B1 [v44, v46] h45)
  (aCall Tryz.prog (.p (.func strings_Join_i [])) [y0, (.p (.str [32]))] H fun v47 h48 =>
  aBin false false .add (.p (.str [40])) v47 fun v49 =>
  aBin false false .add v49 (.p (.str [41])) fun v50 =>
  K v50 h48)

def parse_Text_J1 (j1s1 j1s3 : AV) (H : List Ob) (K : AV → List Ob → Prop) : Prop :=
  aFieldAddr 7 j1s1 fun v30 =>
  aLoad false 1 v30 H fun v31 =>
  aLen false false v31 fun v32 =>
  aLoopN 2 [j1s3, (.p (.int .i64 0))] H fun xs H B1 => parse_Text_L1 v31 v32 (xs.getD 0 .top) (xs.getD 1 .top) H B1 K

def parse_Text (x0 : AV) (H : List Ob) (K : AV → List Ob → Prop) : Prop :=
  aBox x0 H fun v0 h1 =>
  aFieldAddr 0 v0 fun v2 =>
  aLoad false 1 v2 h1 fun v3 =>
  aBin false false .eql v3 (.p (.str [120])) fun v4 =>
  aGuard v4
  (K (.p (.str [120])) h1)
  (aFieldAddr 0 v0 fun v5 =>
  aLoad false 1 v5 h1 fun v6 =>
  aBin false false .eql v6 (.p (.str [108, 105, 116])) fun v7 =>
  aMerge true v7 (fun Q8 =>
  aFieldAddr 1 v0 fun v9 =>
  aFieldAddr 0 v9 fun v10 =>
  aLoad false 1 v10 h1 fun v11 =>
  aBin false false .eql v11 (.p (.int .i64 4)) fun v12 =>
  (h1 = h1 ∧ Q8 v12)) fun v13 =>
  aGuard v13
  (aFieldAddr 1 v0 fun v14 =>
  aLoad true 5 v14 h1 fun v15 =>
  aCall Tryz.prog (.p (.func val_Text_i [])) [v15] h1 fun v16 h17 =>
  aBin false false .add (.p (.str [40, 108, 105, 116, 32])) v16 fun v18 =>
  aBin false false .add v18 (.p (.str [41])) fun v19 =>
  K v19 h17)
  (aFieldAddr 0 v0 fun v20 =>
  aLoad false 1 v20 h1 fun v21 =>
  aBin false false .eql v21 (.p (.str [108, 105, 116])) fun v22 =>
  aGuard v22
  (aFieldAddr 1 v0 fun v23 =>
  aLoad true 5 v23 h1 fun v24 =>
  aCall Tryz.prog (.p (.func val_Text_i [])) [v24] h1 fun v25 h26 =>
  K v25 h26)
  (aFieldAddr 0 v0 fun v27 =>
  aLoad false 1 v27 h1 fun v28 =>
  aBuildSlice 1 [v28] fun v29 =>
  aFieldAddr 0 v0 fun v51 =>
  aLoad false 1 v51 h1 fun v52 =>
  aBin false false .eql v52 (.p (.str [97, 116])) fun v53 =>
  aGuard v53
  (aFieldAddr 6 v0 fun v54 =>
  aLoad false 1 v54 h1 fun v55 =>
  aCall Tryz.prog (.p (.func strconv_Itoa_i [])) [v55] h1 fun v56 h57 =>
  aBuildSlice 1 [v56] fun v58 =>
  aAppend false 1 16 v29 v58 h57 fun v59 h60 =>
  parse_Text_J1 v0 v59 h60 K)
  (parse_Text_J1 v0 v29 h1 K))))

def parse_Text_ann : Nat → List Nat := fun k => match k with | 11 => [3, 47] | _ => []

theorem parse_Text_eq (x0 : AV) (H : List Ob) (r : AV) (Ho : List Ob) : aBody Tryz.prog parse_Text_ann Tryz.f20 H [x0] r Ho = parse_Text x0 H (fun v H' => Gives H.length v H' r Ho) := by kernel_rfl

theorem parse_Text_fnH {x0 : AV} {Hin : List Ob} {r : AV} {Ho : List Ob} (h : parse_Text x0 Hin (fun v H' => Gives Hin.length v H' r Ho)) : Abs.Fn Tryz.prog parse_Text_i Hin [x0] r Ho :=
  fn_intro mixed parse_Text_ann (fn := Tryz.f20) (by kernel_rfl) (by kernel_rfl) (by rw [parse_Text_eq]; exact h)

theorem parse_Text_fn {x0 : AV} {r : AV} {Ho : List Ob} (h : parse_Text x0 [] (fun v H' => Gives 0 v H' r Ho)) : Abs.Fn Tryz.prog parse_Text_i [] [x0] r Ho := parse_Text_fnH (Hin := []) h

/- runnel/parse.Parse -/
def parse_Parse_J1 (j1s2 j1s5 j1s6 : AV) (H : List Ob) (K : AV → List Ob → Prop) : Prop :=
  aNilCheck j1s5 fun v11 =>
  aFieldAddr 2 v11 fun v12 =>
  aLoad false 1 v12 H fun v13 =>
  aBin false false .neq v13 (.p (.int .i64 0)) fun v14 =>
  aGuard v14
  (aNilCheck j1s5 fun v15 =>
  aFieldAddr 3 v15 fun v16 =>
  aNilCheck j1s5 fun v17 =>
  aFieldAddr 2 v17 fun v18 =>
  (aBuild [(.p (.str [])), (.p (.int .i64 0)), (.p (.int .i64 0)), (.p (.bool false)), (.p (.str [])), (.full []), (.p (.int .i64 0)), (.full [])] [] fun v19 =>
  (aLoad false 1 v16 H fun v20 =>
  (aLoad false 1 v18 H fun v21 =>
  aStore 8 j1s2 v19 H fun _ h23 =>
  aLoad true 8 j1s2 h23 fun v24 =>
  K (.tup [v24, v20, v21]) h23) ∧
  (aStore 8 j1s2 v19 H fun _ h26 =>
  aLoad false 1 v18 h26 fun v27 =>
  aLoad true 8 j1s2 h26 fun v28 =>
  K (.tup [v28, v20, v27]) h26)) ∧
  (aLoad false 1 v18 H fun v29 =>
  (aLoad false 1 v16 H fun v30 =>
  aStore 8 j1s2 v19 H fun _ h32 =>
  aLoad true 8 j1s2 h32 fun v33 =>
  K (.tup [v33, v30, v29]) h32) ∧
  (aStore 8 j1s2 v19 H fun _ h35 =>
  aLoad false 1 v16 h35 fun v36 =>
  aLoad true 8 j1s2 h35 fun v37 =>
  K (.tup [v37, v36, v29]) h35)) ∧
  (aStore 8 j1s2 v19 H fun _ h39 =>
  (aLoad false 1 v16 h39 fun v40 =>
  aLoad false 1 v18 h39 fun v41 =>
  aLoad true 8 j1s2 h39 fun v42 =>
  K (.tup [v42, v40, v41]) h39) ∧
  (aLoad false 1 v18 h39 fun v43 =>
  aLoad false 1 v16 h39 fun v44 =>
  aLoad true 8 j1s2 h39 fun v45 =>
  K (.tup [v45, v44, v43]) h39))) ∧
  (aLoad false 1 v16 H fun v46 =>
  (aBuild [(.p (.str [])), (.p (.int .i64 0)), (.p (.int .i64 0)), (.p (.bool false)), (.p (.str [])), (.full []), (.p (.int .i64 0)), (.full [])] [] fun v47 =>
  (aLoad false 1 v18 H fun v48 =>
  aStore 8 j1s2 v47 H fun _ h50 =>
  aLoad true 8 j1s2 h50 fun v51 =>
  K (.tup [v51, v46, v48]) h50) ∧
  (aStore 8 j1s2 v47 H fun _ h53 =>
  aLoad false 1 v18 h53 fun v54 =>
  aLoad true 8 j1s2 h53 fun v55 =>
  K (.tup [v55, v46, v54]) h53)) ∧
  (aLoad false 1 v18 H fun v56 =>
  aBuild [(.p (.str [])), (.p (.int .i64 0)), (.p (.int .i64 0)), (.p (.bool false)), (.p (.str [])), (.full []), (.p (.int .i64 0)), (.full [])] [] fun v57 =>
  aStore 8 j1s2 v57 H fun _ h59 =>
  aLoad true 8 j1s2 h59 fun v60 =>
  K (.tup [v60, v46, v56]) h59)) ∧
  (aLoad false 1 v18 H fun v61 =>
  (aBuild [(.p (.str [])), (.p (.int .i64 0)), (.p (.int .i64 0)), (.p (.bool false)), (.p (.str [])), (.full []), (.p (.int .i64 0)), (.full [])] [] fun v62 =>
  (aLoad false 1 v16 H fun v63 =>
  aStore 8 j1s2 v62 H fun _ h65 =>
  aLoad true 8 j1s2 h65 fun v66 =>
  K (.tup [v66, v63, v61]) h65) ∧
  (aStore 8 j1s2 v62 H fun _ h68 =>
  aLoad false 1 v16 h68 fun v69 =>
  aLoad true 8 j1s2 h68 fun v70 =>
  K (.tup [v70, v69, v61]) h68)) ∧
  (aLoad false 1 v16 H fun v71 =>
  aBuild [(.p (.str [])), (.p (.int .i64 0)), (.p (.int .i64 0)), (.p (.bool false)), (.p (.str [])), (.full []), (.p (.int .i64 0)), (.full [])] [] fun v72 =>
  aStore 8 j1s2 v72 H fun _ h74 =>
  aLoad true 8 j1s2 h74 fun v75 =>
  K (.tup [v75, v71, v61]) h74)))
  (aLoad true 8 j1s6 H fun v76 =>
  aStore 8 j1s2 v76 H fun _ h78 =>
  aLoad true 8 j1s2 h78 fun v79 =>
  K (.tup [v79, (.p (.int .i64 0)), (.p (.int .i64 0))]) h78)

def parse_Parse (x0 : AV) (H : List Ob) (K : AV → List Ob → Prop) : Prop :=
  aAlloc [(.p (.str [])), (.p (.int .i64 0)), (.p (.int .i64 0)), (.p (.bool false)), (.p (.str [])), (.full []), (.p (.int .i64 0)), (.full [])] H fun v0 h1 =>
  aBuild [(.p (.str [])), (.p (.int .i64 0)), (.p (.int .i64 0)), (.p (.int .i64 0))] [(0, 1, x0)] fun v2 =>
  aBox v2 h1 fun v3 h4 =>
  aCall Tryz.prog (.p (.func parse_reader_expr_i [])) [v3, (.p (.int .i64 0))] h4 fun v5 h6 =>
  aAlloc [(.p (.str [])), (.p (.int .i64 0)), (.p (.int .i64 0)), (.p (.bool false)), (.p (.str [])), (.full []), (.p (.int .i64 0)), (.full [])] h6 fun v7 h8 =>
  aStore 8 v7 v5 h8 fun _ h10 =>
  aNilCheck v3 fun v80 =>
  aFieldAddr 1 v80 fun v81 =>
  aLoad false 1 v81 h10 fun v82 =>
  aLen false true x0 fun v83 =>
  aBin false false .lss v82 v83 fun v84 =>
  aGuard v84
  (aNilCheck v3 fun v85 =>
  aFieldAddr 1 v85 fun v86 =>
  aLoad false 1 v86 h10 fun v87 =>
  aCall Tryz.prog (.p (.func parse_reader_fail_i [])) [v3, v87, (.p (.int .i64 2))] h10 fun _ h89 =>
  parse_Parse_J1 v0 v3 v7 h89 K)
  (parse_Parse_J1 v0 v3 v7 h10 K)

def parse_Parse_ann : Nat → List Nat := fun k => match k with | 3000006 => [1000] | _ => []

theorem parse_Parse_eq (x0 : AV) (H : List Ob) (r : AV) (Ho : List Ob) : aBody Tryz.prog parse_Parse_ann Tryz.f21 H [x0] r Ho = parse_Parse x0 H (fun v H' => Gives H.length v H' r Ho) := by kernel_rfl

theorem parse_Parse_fnH {x0 : AV} {Hin : List Ob} {r : AV} {Ho : List Ob} (h : parse_Parse x0 Hin (fun v H' => Gives Hin.length v H' r Ho)) : Abs.Fn Tryz.prog parse_Parse_i Hin [x0] r Ho :=
  fn_intro mixed parse_Parse_ann (fn := Tryz.f21) (by kernel_rfl) (by kernel_rfl) (by rw [parse_Parse_eq]; exact h)

theorem parse_Parse_fn {x0 : AV} {r : AV} {Ho : List Ob} (h : parse_Parse x0 [] (fun v H' => Gives 0 v H' r Ho)) : Abs.Fn Tryz.prog parse_Parse_i [] [x0] r Ho := parse_Parse_fnH (Hin := []) h

/- runnel/runnelref6.ExprText -/
def runnelref6_ExprText_L1 (q1s1 y0 y1 : AV) (H : List Ob) (B1 : List AV → List Ob → Prop) (K : AV → List Ob → Prop) : Prop :=
  aFieldAddr 7 q1s1 fun v30 =>
  aLoad false 1 v30 H fun v31 =>
  aLen false false v31 fun v32 =>
  aBin false false .lss y1 v32 fun v33 =>
  aGuard v33
  (aBin false false .add y0 (.p (.str [32])) fun v34 =>
  aFieldAddr 7 q1s1 fun v35 =>
  aLoad false 1 v35 H fun v36 =>
  aIndexAddr 8 v36 y1 fun v37 =>
  aLoad true 8 v37 H fun v38 =>
  aCall Tryz.prog (.p (.func runnelref6_ExprText_i [])) [v38] H fun v39 h40 =>
  aBin false false .add v34 v39 fun v41 =>
  aBin false false .add y1 (.p (.int .i64 1)) fun v42 =>
  B1 [v41, v42] h40)
  (aBin false false .add y0 (.p (.str [41])) fun v43 =>
  K v43 H)

def runnelref6_ExprText_J1 (j1s1 j1s3 : AV) (H : List Ob) (K : AV → List Ob → Prop) : Prop :=
  aLoopN 2 [j1s3, (.p (.int .i64 0))] H fun xs H B1 => runnelref6_ExprText_L1 j1s1 (xs.getD 0 .top) (xs.getD 1 .top) H B1 K

def runnelref6_ExprText (x0 : AV) (H : List Ob) (K : AV → List Ob → Prop) : Prop :=
  aBox x0 H fun v0 h1 =>
  aFieldAddr 0 v0 fun v2 =>
  aLoad false 1 v2 h1 fun v3 =>
  aBin false false .eql v3 (.p (.str [120])) fun v4 =>
  aGuard v4
  (K (.p (.str [120])) h1)
  (aFieldAddr 0 v0 fun v5 =>
  aLoad false 1 v5 h1 fun v6 =>
  aBin false false .eql v6 (.p (.str [108, 105, 116])) fun v7 =>
  aMerge true v7 (fun Q8 =>
  aFieldAddr 1 v0 fun v9 =>
  aFieldAddr 0 v9 fun v10 =>
  aLoad false 1 v10 h1 fun v11 =>
  aBin false false .eql v11 (.p (.int .i64 4)) fun v12 =>
  (h1 = h1 ∧ Q8 v12)) fun v13 =>
  aGuard v13
  (aFieldAddr 1 v0 fun v14 =>
  aLoad true 5 v14 h1 fun v15 =>
  aCall Tryz.prog (.p (.func runnelref6_ValueText_i [])) [v15] h1 fun v16 h17 =>
  aBin false false .add (.p (.str [40, 108, 105, 116, 32])) v16 fun v18 =>
  aBin false false .add v18 (.p (.str [41])) fun v19 =>
  K v19 h17)
  (aFieldAddr 0 v0 fun v20 =>
  aLoad false 1 v20 h1 fun v21 =>
  aBin false false .eql v21 (.p (.str [108, 105, 116])) fun v22 =>
  aGuard v22
  (aFieldAddr 1 v0 fun v23 =>
  aLoad true 5 v23 h1 fun v24 =>
  aCall Tryz.prog (.p (.func runnelref6_ValueText_i [])) [v24] h1 fun v25 h26 =>
  K v25 h26)
  (aFieldAddr 0 v0 fun v27 =>
  aLoad false 1 v27 h1 fun v28 =>
  aBin false false .add (.p (.str [40])) v28 fun v29 =>
  aFieldAddr 0 v0 fun v44 =>
  aLoad false 1 v44 h1 fun v45 =>
  aBin false false .eql v45 (.p (.str [97, 116])) fun v46 =>
  aGuard v46
  (aBin false false .add v29 (.p (.str [32])) fun v47 =>
  aFieldAddr 6 v0 fun v48 =>
  aLoad false 1 v48 h1 fun v49 =>
  aCall Tryz.prog (.p (.func runnelref6_Decimal_i [])) [v49] h1 fun v50 h51 =>
  aBin false false .add v47 v50 fun v52 =>
  runnelref6_ExprText_J1 v0 v52 h51 K)
  (runnelref6_ExprText_J1 v0 v29 h1 K))))

def runnelref6_ExprText_ann : Nat → List Nat := fun k => match k with | 11 => [3, 4] | _ => []

theorem runnelref6_ExprText_eq (x0 : AV) (H : List Ob) (r : AV) (Ho : List Ob) : aBody Tryz.prog runnelref6_ExprText_ann Tryz.f22 H [x0] r Ho = runnelref6_ExprText x0 H (fun v H' => Gives H.length v H' r Ho) := by kernel_rfl

theorem runnelref6_ExprText_fnH {x0 : AV} {Hin : List Ob} {r : AV} {Ho : List Ob} (h : runnelref6_ExprText x0 Hin (fun v H' => Gives Hin.length v H' r Ho)) : Abs.Fn Tryz.prog runnelref6_ExprText_i Hin [x0] r Ho :=
  fn_intro mixed runnelref6_ExprText_ann (fn := Tryz.f22) (by kernel_rfl) (by kernel_rfl) (by rw [runnelref6_ExprText_eq]; exact h)

theorem runnelref6_ExprText_fn {x0 : AV} {r : AV} {Ho : List Ob} (h : runnelref6_ExprText x0 [] (fun v H' => Gives 0 v H' r Ho)) : Abs.Fn Tryz.prog runnelref6_ExprText_i [] [x0] r Ho := runnelref6_ExprText_fnH (Hin := []) h

/- runnel/runnellaw5.SameExpr -/
def runnellaw5_SameExpr_L1 (q1s2 q1s3 y0 : AV) (H : List Ob) (B1 : List AV → List Ob → Prop) (K : AV → List Ob → Prop) : Prop :=
  aFieldAddr 7 q1s2 fun v34 =>
  aLoad false 1 v34 H fun v35 =>
  aLen false false v35 fun v36 =>
  aBin false false .lss y0 v36 fun v37 =>
  aGuard v37
  (aFieldAddr 7 q1s2 fun v38 =>
  aLoad false 1 v38 H fun v39 =>
  aIndexAddr 8 v39 y0 fun v40 =>
  aLoad true 8 v40 H fun v41 =>
  aFieldAddr 7 q1s3 fun v42 =>
  aLoad false 1 v42 H fun v43 =>
  aIndexAddr 8 v43 y0 fun v44 =>
  aLoad true 8 v44 H fun v45 =>
  aCallT Tryz.prog (.p (.func runnellaw5_SameExpr_i [])) [v41, v45] fun v46 =>
  aUn .not v46 fun v47 =>
  aGuard v47
  (K (.p (.bool false)) H)
  (aBin false false .add y0 (.p (.int .i64 1)) fun v48 =>
  B1 [v48] H))
  (K (.p (.bool true)) H)

def runnellaw5_SameExpr (x0 x1 : AV) (H : List Ob) (K : AV → List Ob → Prop) : Prop :=
  aBox x0 H fun v0 h1 =>
  aBox x1 h1 fun v2 h3 =>
  aFieldAddr 0 v0 fun v4 =>
  aLoad false 1 v4 h3 fun v5 =>
  aFieldAddr 0 v2 fun v6 =>
  aLoad false 1 v6 h3 fun v7 =>
  aBin false false .neq v5 v7 fun v8 =>
  aMerge false v8 (fun Q9 =>
  aFieldAddr 6 v0 fun v10 =>
  aLoad false 1 v10 h3 fun v11 =>
  aFieldAddr 6 v2 fun v12 =>
  aLoad false 1 v12 h3 fun v13 =>
  aBin false false .neq v11 v13 fun v14 =>
  (h3 = h3 ∧ Q9 v14)) fun v15 =>
  aMerge false v15 (fun Q16 =>
  aFieldAddr 1 v0 fun v17 =>
  aLoad true 5 v17 h3 fun v18 =>
  aFieldAddr 1 v2 fun v19 =>
  aLoad true 5 v19 h3 fun v20 =>
  aCall Tryz.prog (.p (.func runnelref6_Same_i [])) [v18, v20] h3 fun v21 h22 =>
  aUn .not v21 fun v23 =>
  (h22 = h3 ∧ Q16 v23)) fun v24 =>
  aMerge false v24 (fun Q25 =>
  aFieldAddr 7 v0 fun v26 =>
  aLoad false 1 v26 h3 fun v27 =>
  aLenS false v27 fun v28 =>
  aFieldAddr 7 v2 fun v29 =>
  aLoad false 1 v29 h3 fun v30 =>
  aLenS false v30 fun v31 =>
  aBin false false .neq v28 v31 fun v32 =>
  (h3 = h3 ∧ Q25 v32)) fun v33 =>
  aGuard v33
  (K (.p (.bool false)) h3)
  (aLoopN 1 [(.p (.int .i64 0))] h3 fun xs H B1 => runnellaw5_SameExpr_L1 v0 v2 (xs.getD 0 .top) H B1 K)

def runnellaw5_SameExpr_ann : Nat → List Nat := fun k => match k with | 4 => [5] | _ => []

theorem runnellaw5_SameExpr_eq (x0 x1 : AV) (H : List Ob) (r : AV) (Ho : List Ob) : aBody Tryz.prog runnellaw5_SameExpr_ann Tryz.f23 H [x0, x1] r Ho = runnellaw5_SameExpr x0 x1 H (fun v H' => Gives H.length v H' r Ho) := by kernel_rfl

theorem runnellaw5_SameExpr_fnH {x0 x1 : AV} {Hin : List Ob} {r : AV} {Ho : List Ob} (h : runnellaw5_SameExpr x0 x1 Hin (fun v H' => Gives Hin.length v H' r Ho)) : Abs.Fn Tryz.prog runnellaw5_SameExpr_i Hin [x0, x1] r Ho :=
  fn_intro mixed runnellaw5_SameExpr_ann (fn := Tryz.f23) (by kernel_rfl) (by kernel_rfl) (by rw [runnellaw5_SameExpr_eq]; exact h)

theorem runnellaw5_SameExpr_fn {x0 x1 : AV} {r : AV} {Ho : List Ob} (h : runnellaw5_SameExpr x0 x1 [] (fun v H' => Gives 0 v H' r Ho)) : Abs.Fn Tryz.prog runnellaw5_SameExpr_i [] [x0, x1] r Ho := runnellaw5_SameExpr_fnH (Hin := []) h

/- runnel/runnellaw5.valGood -/
def runnellaw5_valGood_L1 (q1s1 y0 : AV) (H : List Ob) (B1 : List AV → List Ob → Prop) (K : AV → List Ob → Prop) : Prop :=
  aFieldAddr 4 q1s1 fun v12 =>
  aLoad false 1 v12 H fun v13 =>
  aLen false false v13 fun v14 =>
  aBin false false .lss y0 v14 fun v15 =>
  aGuard v15
  (aFieldAddr 4 q1s1 fun v16 =>
  aLoad false 1 v16 H fun v17 =>
  aIndexAddr 5 v17 y0 fun v18 =>
  aFieldAddr 4 v18 fun v19 =>
  aLoad false 1 v19 H fun v20 =>
  aLen false false v20 fun v21 =>
  aBin false false .gtr v21 (.p (.int .i64 0)) fun v22 =>
  aMerge false v22 (fun Q23 =>
  aFieldAddr 4 q1s1 fun v24 =>
  aLoad false 1 v24 H fun v25 =>
  aIndexAddr 5 v25 y0 fun v26 =>
  aFieldAddr 3 v26 fun v27 =>
  aLoad false 1 v27 H fun v28 =>
  aLenS true v28 fun v29 =>
  aBin false false .gtr v29 (.p (.int .i64 300)) fun v30 =>
  (H = H ∧ Q23 v30)) fun v31 =>
  aGuard v31
  (K (.p (.bool false)) H)
  (aBin false false .add y0 (.p (.int .i64 1)) fun v32 =>
  B1 [v32] H))
  (aLoad true 5 q1s1 H fun v33 =>
  aCall Tryz.prog (.p (.func val_Check_i [])) [v33] H fun v34 h35 =>
  aBin false false .eql v34 (.p (.int .i64 0)) fun v36 =>
  K v36 h35)

def runnellaw5_valGood (x0 : AV) (H : List Ob) (K : AV → List Ob → Prop) : Prop :=
  aBox x0 H fun v0 h1 =>
  aFieldAddr 4 v0 fun v2 =>
  aLoad false 1 v2 h1 fun v3 =>
  aLen false false v3 fun v4 =>
  aBin false false .gtr v4 (.p (.int .i64 10)) fun v5 =>
  aMerge false v5 (fun Q6 =>
  aFieldAddr 3 v0 fun v7 =>
  aLoad false 1 v7 h1 fun v8 =>
  aLenS true v8 fun v9 =>
  aBin false false .gtr v9 (.p (.int .i64 300)) fun v10 =>
  (h1 = h1 ∧ Q6 v10)) fun v11 =>
  aGuard v11
  (K (.p (.bool false)) h1)
  (aLoopN 1 [(.p (.int .i64 0))] h1 fun xs H B1 => runnellaw5_valGood_L1 v0 (xs.getD 0 .top) H B1 K)

def runnellaw5_valGood_ann : Nat → List Nat := fun k => match k with | 4 => [3] | _ => []

theorem runnellaw5_valGood_eq (x0 : AV) (H : List Ob) (r : AV) (Ho : List Ob) : aBody Tryz.prog runnellaw5_valGood_ann Tryz.f24 H [x0] r Ho = runnellaw5_valGood x0 H (fun v H' => Gives H.length v H' r Ho) := by kernel_rfl

theorem runnellaw5_valGood_fnH {x0 : AV} {Hin : List Ob} {r : AV} {Ho : List Ob} (h : runnellaw5_valGood x0 Hin (fun v H' => Gives Hin.length v H' r Ho)) : Abs.Fn Tryz.prog runnellaw5_valGood_i Hin [x0] r Ho :=
  fn_intro mixed runnellaw5_valGood_ann (fn := Tryz.f24) (by kernel_rfl) (by kernel_rfl) (by rw [runnellaw5_valGood_eq]; exact h)

theorem runnellaw5_valGood_fn {x0 : AV} {r : AV} {Ho : List Ob} (h : runnellaw5_valGood x0 [] (fun v H' => Gives 0 v H' r Ho)) : Abs.Fn Tryz.prog runnellaw5_valGood_i [] [x0] r Ho := runnellaw5_valGood_fnH (Hin := []) h

/- (*runnel/parse.reader).expr -/
def parse_reader_expr_L1 (q1s0 q1s1 q1s4 q1s5 : AV) (H : List Ob) (B1 : List AV → List Ob → Prop) (K : AV → List Ob → Prop) : Prop :=
  aCall Tryz.prog (.p (.func parse_reader_takes_i [])) [q1s0, (.p (.int .u8 32))] H fun v43 h44 =>
  aGuard v43
  (aFieldAddr 7 q1s5 fun v45 =>
  (aLoad false 1 v45 h44 fun v46 =>
  aBin false false .add q1s1 (.p (.int .i64 1)) fun v47 =>
  aCall Tryz.prog (.p (.func parse_reader_expr_i [])) [q1s0, v47] h44 fun v48 h49 =>
  aBuildSlice 8 [v48] fun v50 =>
  aAppend false 8 112 v46 v50 h49 fun v51 h52 =>
  aFieldAddr 7 q1s5 fun v53 =>
  aStore 1 v53 v51 h52 fun _ h55 =>
  B1 [] h55) ∧
  (aBin false false .add q1s1 (.p (.int .i64 1)) fun v56 =>
  (aLoad false 1 v45 h44 fun v57 =>
  aCall Tryz.prog (.p (.func parse_reader_expr_i [])) [q1s0, v56] h44 fun v58 h59 =>
  aBuildSlice 8 [v58] fun v60 =>
  aAppend false 8 112 v57 v60 h59 fun v61 h62 =>
  aFieldAddr 7 q1s5 fun v63 =>
  aStore 1 v63 v61 h62 fun _ h65 =>
  B1 [] h65) ∧
  (aCall Tryz.prog (.p (.func parse_reader_expr_i [])) [q1s0, v56] h44 fun v66 h67 =>
  (aLoad false 1 v45 h67 fun v68 =>
  aBuildSlice 8 [v66] fun v69 =>
  aAppend false 8 112 v68 v69 h67 fun v70 h71 =>
  aFieldAddr 7 q1s5 fun v72 =>
  aStore 1 v72 v70 h71 fun _ h74 =>
  B1 [] h74) ∧
  (aBuildSlice 8 [v66] fun v75 =>
  aLoad false 1 v45 h67 fun v76 =>
  aAppend false 8 112 v76 v75 h67 fun v77 h78 =>
  aFieldAddr 7 q1s5 fun v79 =>
  aStore 1 v79 v77 h78 fun _ h81 =>
  B1 [] h81))))
  (aCall Tryz.prog (.p (.func parse_reader_must_i [])) [q1s0, (.p (.int .u8 41))] h44 fun _ h83 =>
  aLoad true 8 q1s5 h83 fun v84 =>
  aStore 8 q1s4 v84 h83 fun _ h86 =>
  aLoad true 8 q1s4 h86 fun v87 =>
  K v87 h86)

def parse_reader_expr_J1 (j1s0 j1s1 j1s4 : AV) (H : List Ob) (K : AV → List Ob → Prop) : Prop :=
  aNilCheck j1s0 fun v2 =>
  aFieldAddr 2 v2 fun v3 =>
  aLoad false 1 v3 H fun v4 =>
  aBin false false .neq v4 (.p (.int .i64 0)) fun v5 =>
  aGuard v5
  (aBuild [(.p (.str [])), (.p (.int .i64 0)), (.p (.int .i64 0)), (.p (.bool false)), (.p (.str [])), (.full []), (.p (.int .i64 0)), (.full [])] [] fun v6 =>
  aStore 8 j1s4 v6 H fun _ h8 =>
  aLoad true 8 j1s4 h8 fun v9 =>
  K v9 h8)
  (aCall Tryz.prog (.p (.func parse_reader_takes_i [])) [j1s0, (.p (.int .u8 40))] H fun v10 h11 =>
  aUn .not v10 fun v12 =>
  aGuard v12
  (aCall Tryz.prog (.p (.func parse_reader_bare_i [])) [j1s0] h11 fun v13 h14 =>
  aStore 8 j1s4 v13 h14 fun _ h16 =>
  aLoad true 8 j1s4 h16 fun v17 =>
  K v17 h16)
  (aCall Tryz.prog (.p (.func parse_reader_op_i [])) [j1s0] h11 fun v18 h19 =>
  aAlloc [(.p (.str [])), (.p (.int .i64 0)), (.p (.int .i64 0)), (.p (.bool false)), (.p (.str [])), (.full []), (.p (.int .i64 0)), (.full [])] h19 fun v20 h21 =>
  aStore 8 v20 v18 h21 fun _ h23 =>
  aNilCheck j1s0 fun v24 =>
  aFieldAddr 2 v24 fun v25 =>
  aLoad false 1 v25 h23 fun v26 =>
  aBin false false .eql v26 (.p (.int .i64 0)) fun v27 =>
  aMerge true v27 (fun Q28 =>
  aFieldAddr 0 v20 fun v29 =>
  aLoad false 1 v29 h23 fun v30 =>
  aBin false false .eql v30 (.p (.str [108, 105, 116])) fun v31 =>
  (h23 = h23 ∧ Q28 v31)) fun v32 =>
  aGuard v32
  (aCall Tryz.prog (.p (.func parse_reader_lit_i [])) [j1s0] h23 fun v33 h34 =>
  aStore 8 v20 v33 h34 fun _ h36 =>
  aCall Tryz.prog (.p (.func parse_reader_must_i [])) [j1s0, (.p (.int .u8 41))] h36 fun _ h38 =>
  aLoad true 8 v20 h38 fun v39 =>
  aStore 8 j1s4 v39 h38 fun _ h41 =>
  aLoad true 8 j1s4 h41 fun v42 =>
  K v42 h41)
  (aLoopN 0 [] h23 fun xs H B1 => parse_reader_expr_L1 j1s0 j1s1 j1s4 v20 H B1 K)))

def parse_reader_expr (x0 x1 : AV) (H : List Ob) (K : AV → List Ob → Prop) : Prop :=
  aAlloc [(.p (.str [])), (.p (.int .i64 0)), (.p (.int .i64 0)), (.p (.bool false)), (.p (.str [])), (.full []), (.p (.int .i64 0)), (.full [])] H fun v0 h1 =>
  aBin false false .gtr x1 (.p (.int .i64 12)) fun v88 =>
  aGuard v88
  (aNilCheck x0 fun v89 =>
  aFieldAddr 1 v89 fun v90 =>
  aLoad false 1 v90 h1 fun v91 =>
  aCall Tryz.prog (.p (.func parse_reader_fail_i [])) [x0, v91, (.p (.int .i64 9))] h1 fun _ h93 =>
  parse_reader_expr_J1 x0 x1 v0 h93 K)
  (parse_reader_expr_J1 x0 x1 v0 h1 K)

def parse_reader_expr_ann : Nat → List Nat := fun k => match k with | 12 => [] | 3000013 => [1000] | _ => []

theorem parse_reader_expr_eq (x0 x1 : AV) (H : List Ob) (r : AV) (Ho : List Ob) : aBody Tryz.prog parse_reader_expr_ann Tryz.f49 H [x0, x1] r Ho = parse_reader_expr x0 x1 H (fun v H' => Gives H.length v H' r Ho) := by kernel_rfl

theorem parse_reader_expr_fnH {x0 x1 : AV} {Hin : List Ob} {r : AV} {Ho : List Ob} (h : parse_reader_expr x0 x1 Hin (fun v H' => Gives Hin.length v H' r Ho)) : Abs.Fn Tryz.prog parse_reader_expr_i Hin [x0, x1] r Ho :=
  fn_intro mixed parse_reader_expr_ann (fn := Tryz.f49) (by kernel_rfl) (by kernel_rfl) (by rw [parse_reader_expr_eq]; exact h)

theorem parse_reader_expr_fn {x0 x1 : AV} {r : AV} {Ho : List Ob} (h : parse_reader_expr x0 x1 [] (fun v H' => Gives 0 v H' r Ho)) : Abs.Fn Tryz.prog parse_reader_expr_i [] [x0, x1] r Ho := parse_reader_expr_fnH (Hin := []) h

/- (*runnel/parse.reader).fail -/
def parse_reader_fail (x0 x1 x2 : AV) (H : List Ob) (K : AV → List Ob → Prop) : Prop :=
  aNilCheck x0 fun v0 =>
  aFieldAddr 2 v0 fun v1 =>
  aLoad false 1 v1 H fun v2 =>
  aBin false false .eql v2 (.p (.int .i64 0)) fun v3 =>
  aGuard v3
  (aNilCheck x0 fun v4 =>
  aFieldAddr 2 v4 fun v5 =>
  aStore 1 v5 x2 H fun _ h7 =>
  aNilCheck x0 fun v8 =>
  aFieldAddr 3 v8 fun v9 =>
  aStore 1 v9 x1 h7 fun _ h11 =>
  K (.tup []) h11)
  (K (.tup []) H)

def parse_reader_fail_ann : Nat → List Nat := fun _ => []

theorem parse_reader_fail_eq (x0 x1 x2 : AV) (H : List Ob) (r : AV) (Ho : List Ob) : aBody Tryz.prog parse_reader_fail_ann Tryz.f50 H [x0, x1, x2] r Ho = parse_reader_fail x0 x1 x2 H (fun v H' => Gives H.length v H' r Ho) := by kernel_rfl

theorem parse_reader_fail_fnH {x0 x1 x2 : AV} {Hin : List Ob} {r : AV} {Ho : List Ob} (h : parse_reader_fail x0 x1 x2 Hin (fun v H' => Gives Hin.length v H' r Ho)) : Abs.Fn Tryz.prog parse_reader_fail_i Hin [x0, x1, x2] r Ho :=
  fn_intro mixed parse_reader_fail_ann (fn := Tryz.f50) (by kernel_rfl) (by kernel_rfl) (by rw [parse_reader_fail_eq]; exact h)

theorem parse_reader_fail_fn {x0 x1 x2 : AV} {r : AV} {Ho : List Ob} (h : parse_reader_fail x0 x1 x2 [] (fun v H' => Gives 0 v H' r Ho)) : Abs.Fn Tryz.prog parse_reader_fail_i [] [x0, x1, x2] r Ho := parse_reader_fail_fnH (Hin := []) h

/- (*runnel/parse.reader).takes -/
def parse_reader_takes (x0 x1 : AV) (H : List Ob) (K : AV → List Ob → Prop) : Prop :=
  aCall Tryz.prog (.p (.func parse_reader_next_i [])) [x0, x1] H fun v0 h1 =>
  aGuard v0
  (aNilCheck x0 fun v2 =>
  aFieldAddr 1 v2 fun v3 =>
  aLoad false 1 v3 h1 fun v4 =>
  aBin false false .add v4 (.p (.int .i64 1)) fun v5 =>
  aNilCheck x0 fun v6 =>
  aFieldAddr 1 v6 fun v7 =>
  aStore 1 v7 v5 h1 fun _ h9 =>
  K v0 h9)
  (K v0 h1)

def parse_reader_takes_ann : Nat → List Nat := fun _ => []

theorem parse_reader_takes_eq (x0 x1 : AV) (H : List Ob) (r : AV) (Ho : List Ob) : aBody Tryz.prog parse_reader_takes_ann Tryz.f80 H [x0, x1] r Ho = parse_reader_takes x0 x1 H (fun v H' => Gives H.length v H' r Ho) := by kernel_rfl

theorem parse_reader_takes_fnH {x0 x1 : AV} {Hin : List Ob} {r : AV} {Ho : List Ob} (h : parse_reader_takes x0 x1 Hin (fun v H' => Gives Hin.length v H' r Ho)) : Abs.Fn Tryz.prog parse_reader_takes_i Hin [x0, x1] r Ho :=
  fn_intro mixed parse_reader_takes_ann (fn := Tryz.f80) (by kernel_rfl) (by kernel_rfl) (by rw [parse_reader_takes_eq]; exact h)

theorem parse_reader_takes_fn {x0 x1 : AV} {r : AV} {Ho : List Ob} (h : parse_reader_takes x0 x1 [] (fun v H' => Gives 0 v H' r Ho)) : Abs.Fn Tryz.prog parse_reader_takes_i [] [x0, x1] r Ho := parse_reader_takes_fnH (Hin := []) h

/- (*runnel/parse.reader).bare -/
def parse_reader_bare (x0 : AV) (H : List Ob) (K : AV → List Ob → Prop) : Prop :=
  aAlloc [(.p (.str [])), (.p (.int .i64 0)), (.p (.int .i64 0)), (.p (.bool false)), (.p (.str [])), (.full []), (.p (.int .i64 0)), (.full [])] H fun v0 h1 =>
  aNilCheck x0 fun v2 =>
  aFieldAddr 1 v2 fun v3 =>
  aLoad false 1 v3 h1 fun v4 =>
  aCall Tryz.prog (.p (.func parse_reader_simple_i [])) [x0] h1 fun v5 h6 =>
  aExtract v5 0 fun v7 =>
  aExtract v5 1 fun v8 =>
  aAlloc [(.p (.int .i64 0)), (.p (.int .i64 0)), (.p (.bool false)), (.p (.str [])), (.full [])] h6 fun v9 h10 =>
  aStore 5 v9 v7 h10 fun _ h12 =>
  aGuard v8
  (aLoad true 5 v9 h12 fun v13 =>
  aBuild [(.p (.str [])), (.p (.int .i64 0)), (.p (.int .i64 0)), (.p (.bool false)), (.p (.str [])), (.full []), (.p (.int .i64 0)), (.full [])] [(0, 1, (.p (.str [108, 105, 116]))), (1, 5, v13)] fun v14 =>
  aStore 8 v0 v14 h12 fun _ h16 =>
  aLoad true 8 v0 h16 fun v17 =>
  K v17 h16)
  (aCall Tryz.prog (.p (.func parse_reader_while_i [])) [x0, (.p (.func parse_letter_i []))] h12 fun v18 h19 =>
  aBin false false .neq v18 (.p (.str [120])) fun v20 =>
  aGuard v20
  (aCall Tryz.prog (.p (.func parse_reader_fail_i [])) [x0, v4, (.p (.int .i64 2))] h19 fun _ h22 =>
  aBuild [(.p (.str [])), (.p (.int .i64 0)), (.p (.int .i64 0)), (.p (.bool false)), (.p (.str [])), (.full []), (.p (.int .i64 0)), (.full [])] [(0, 1, (.p (.str [120])))] fun v23 =>
  aStore 8 v0 v23 h22 fun _ h25 =>
  aLoad true 8 v0 h25 fun v26 =>
  K v26 h25)
  (aBuild [(.p (.str [])), (.p (.int .i64 0)), (.p (.int .i64 0)), (.p (.bool false)), (.p (.str [])), (.full []), (.p (.int .i64 0)), (.full [])] [(0, 1, (.p (.str [120])))] fun v27 =>
  aStore 8 v0 v27 h19 fun _ h29 =>
  aLoad true 8 v0 h29 fun v30 =>
  K v30 h29))

def parse_reader_bare_ann : Nat → List Nat := fun _ => []

theorem parse_reader_bare_eq (x0 : AV) (H : List Ob) (r : AV) (Ho : List Ob) : aBody Tryz.prog parse_reader_bare_ann Tryz.f81 H [x0] r Ho = parse_reader_bare x0 H (fun v H' => Gives H.length v H' r Ho) := by kernel_rfl

theorem parse_reader_bare_fnH {x0 : AV} {Hin : List Ob} {r : AV} {Ho : List Ob} (h : parse_reader_bare x0 Hin (fun v H' => Gives Hin.length v H' r Ho)) : Abs.Fn Tryz.prog parse_reader_bare_i Hin [x0] r Ho :=
  fn_intro mixed parse_reader_bare_ann (fn := Tryz.f81) (by kernel_rfl) (by kernel_rfl) (by rw [parse_reader_bare_eq]; exact h)

theorem parse_reader_bare_fn {x0 : AV} {r : AV} {Ho : List Ob} (h : parse_reader_bare x0 [] (fun v H' => Gives 0 v H' r Ho)) : Abs.Fn Tryz.prog parse_reader_bare_i [] [x0] r Ho := parse_reader_bare_fnH (Hin := []) h

/- (*runnel/parse.reader).op -/
def parse_reader_op (x0 : AV) (H : List Ob) (K : AV → List Ob → Prop) : Prop :=
  aBox x0 H fun v0 h1 =>
  aAlloc [(.p (.str [])), (.p (.int .i64 0)), (.p (.int .i64 0)), (.p (.bool false)), (.p (.str [])), (.full []), (.p (.int .i64 0)), (.full [])] h1 fun v2 h3 =>
  aBuild [(.p (.str [])), (.p (.int .i64 0)), (.p (.int .i64 0)), (.p (.bool false)), (.p (.str [])), (.full []), (.p (.int .i64 0)), (.full [])] [] fun v4 =>
  aAlloc [(.p (.str [])), (.p (.int .i64 0)), (.p (.int .i64 0)), (.p (.bool false)), (.p (.str [])), (.full []), (.p (.int .i64 0)), (.full [])] h3 fun v5 h6 =>
  aStore 8 v5 v4 h6 fun _ h8 =>
  aLoad false 1 v0 h8 fun v9 =>
  aMakeFunc parse_reader_op_1_i [v0] h8 fun v10 h11 =>
  aCall Tryz.prog (.p (.func parse_some_string_i [])) [v9, v10] h11 fun v12 h13 =>
  aFieldAddr 0 v5 fun v14 =>
  aStore 1 v14 v12 h13 fun _ h16 =>
  aFieldAddr 0 v5 fun v17 =>
  aLoad false 1 v17 h16 fun v18 =>
  aBin false false .eql v18 (.p (.str [97, 116])) fun v19 =>
  aMerge true v19 (fun Q20 =>
  aLoad false 1 v0 h16 fun v21 =>
  aNilCheck v21 fun v22 =>
  aFieldAddr 2 v22 fun v23 =>
  aLoad false 1 v23 h16 fun v24 =>
  aBin false false .eql v24 (.p (.int .i64 0)) fun v25 =>
  (h16 = h16 ∧ Q20 v25)) fun v26 =>
  aGuard v26
  (aLoad false 1 v0 h16 fun v27 =>
  aCall Tryz.prog (.p (.func parse_reader_must_i [])) [v27, (.p (.int .u8 32))] h16 fun _ h29 =>
  aLoad false 1 v0 h29 fun v30 =>
  aMakeFunc parse_reader_op_2_i [v0] h29 fun v31 h32 =>
  aCall Tryz.prog (.p (.func parse_some_int_i [])) [v30, v31] h32 fun v33 h34 =>
  aFieldAddr 6 v5 fun v35 =>
  aStore 1 v35 v33 h34 fun _ h37 =>
  aLoad true 8 v5 h37 fun v38 =>
  aStore 8 v2 v38 h37 fun _ h40 =>
  aLoad true 8 v2 h40 fun v41 =>
  K v41 h40)
  (aLoad true 8 v5 h16 fun v42 =>
  aStore 8 v2 v42 h16 fun _ h44 =>
  aLoad true 8 v2 h44 fun v45 =>
  K v45 h44)

def parse_reader_op_ann : Nat → List Nat := fun _ => []

theorem parse_reader_op_eq (x0 : AV) (H : List Ob) (r : AV) (Ho : List Ob) : aBody Tryz.prog parse_reader_op_ann Tryz.f82 H [x0] r Ho = parse_reader_op x0 H (fun v H' => Gives H.length v H' r Ho) := by kernel_rfl

theorem parse_reader_op_fnH {x0 : AV} {Hin : List Ob} {r : AV} {Ho : List Ob} (h : parse_reader_op x0 Hin (fun v H' => Gives Hin.length v H' r Ho)) : Abs.Fn Tryz.prog parse_reader_op_i Hin [x0] r Ho :=
  fn_intro mixed parse_reader_op_ann (fn := Tryz.f82) (by kernel_rfl) (by kernel_rfl) (by rw [parse_reader_op_eq]; exact h)

theorem parse_reader_op_fn {x0 : AV} {r : AV} {Ho : List Ob} (h : parse_reader_op x0 [] (fun v H' => Gives 0 v H' r Ho)) : Abs.Fn Tryz.prog parse_reader_op_i [] [x0] r Ho := parse_reader_op_fnH (Hin := []) h

/- (*runnel/parse.reader).lit -/
def parse_reader_lit (x0 : AV) (H : List Ob) (K : AV → List Ob → Prop) : Prop :=
  aAlloc [(.p (.str [])), (.p (.int .i64 0)), (.p (.int .i64 0)), (.p (.bool false)), (.p (.str [])), (.full []), (.p (.int .i64 0)), (.full [])] H fun v0 h1 =>
  aCall Tryz.prog (.p (.func parse_reader_must_i [])) [x0, (.p (.int .u8 32))] h1 fun _ h3 =>
  aNilCheck x0 fun v4 =>
  aFieldAddr 1 v4 fun v5 =>
  aLoad false 1 v5 h3 fun v6 =>
  aCall Tryz.prog (.p (.func parse_reader_next_i [])) [x0, (.p (.int .u8 40))] h3 fun v7 h8 =>
  aUn .not v7 fun v9 =>
  aGuard v9
  (aCall Tryz.prog (.p (.func parse_reader_fail_i [])) [x0, v6, (.p (.int .i64 2))] h8 fun _ h11 =>
  aBuild [(.p (.str [])), (.p (.int .i64 0)), (.p (.int .i64 0)), (.p (.bool false)), (.p (.str [])), (.full []), (.p (.int .i64 0)), (.full [])] [] fun v12 =>
  aStore 8 v0 v12 h11 fun _ h14 =>
  aLoad true 8 v0 h14 fun v15 =>
  K v15 h14)
  (aCall Tryz.prog (.p (.func parse_reader_value_i [])) [x0] h8 fun v16 h17 =>
  aAlloc [(.p (.int .i64 0)), (.p (.int .i64 0)), (.p (.bool false)), (.p (.str [])), (.full [])] h17 fun v18 h19 =>
  aStore 5 v18 v16 h19 fun _ h21 =>
  aNilCheck x0 fun v22 =>
  aFieldAddr 2 v22 fun v23 =>
  aLoad false 1 v23 h21 fun v24 =>
  aBin false false .eql v24 (.p (.int .i64 0)) fun v25 =>
  aGuard v25
  (aLoad true 5 v18 h21 fun v26 =>
  aCall Tryz.prog (.p (.func val_Check_i [])) [v26] h21 fun v27 h28 =>
  aBin false false .neq v27 (.p (.int .i64 0)) fun v29 =>
  aGuard v29
  (aCall Tryz.prog (.p (.func parse_reader_fail_i [])) [x0, v6, v27] h28 fun _ h31 =>
  aLoad true 5 v18 h31 fun v32 =>
  aBuild [(.p (.str [])), (.p (.int .i64 0)), (.p (.int .i64 0)), (.p (.bool false)), (.p (.str [])), (.full []), (.p (.int .i64 0)), (.full [])] [(0, 1, (.p (.str [108, 105, 116]))), (1, 5, v32)] fun v33 =>
  aStore 8 v0 v33 h31 fun _ h35 =>
  aLoad true 8 v0 h35 fun v36 =>
  K v36 h35)
  (aLoad true 5 v18 h28 fun v37 =>
  aBuild [(.p (.str [])), (.p (.int .i64 0)), (.p (.int .i64 0)), (.p (.bool false)), (.p (.str [])), (.full []), (.p (.int .i64 0)), (.full [])] [(0, 1, (.p (.str [108, 105, 116]))), (1, 5, v37)] fun v38 =>
  aStore 8 v0 v38 h28 fun _ h40 =>
  aLoad true 8 v0 h40 fun v41 =>
  K v41 h40))
  (aLoad true 5 v18 h21 fun v42 =>
  aBuild [(.p (.str [])), (.p (.int .i64 0)), (.p (.int .i64 0)), (.p (.bool false)), (.p (.str [])), (.full []), (.p (.int .i64 0)), (.full [])] [(0, 1, (.p (.str [108, 105, 116]))), (1, 5, v42)] fun v43 =>
  aStore 8 v0 v43 h21 fun _ h45 =>
  aLoad true 8 v0 h45 fun v46 =>
  K v46 h45))

def parse_reader_lit_ann : Nat → List Nat := fun _ => []

theorem parse_reader_lit_eq (x0 : AV) (H : List Ob) (r : AV) (Ho : List Ob) : aBody Tryz.prog parse_reader_lit_ann Tryz.f83 H [x0] r Ho = parse_reader_lit x0 H (fun v H' => Gives H.length v H' r Ho) := by kernel_rfl

theorem parse_reader_lit_fnH {x0 : AV} {Hin : List Ob} {r : AV} {Ho : List Ob} (h : parse_reader_lit x0 Hin (fun v H' => Gives Hin.length v H' r Ho)) : Abs.Fn Tryz.prog parse_reader_lit_i Hin [x0] r Ho :=
  fn_intro mixed parse_reader_lit_ann (fn := Tryz.f83) (by kernel_rfl) (by kernel_rfl) (by rw [parse_reader_lit_eq]; exact h)

theorem parse_reader_lit_fn {x0 : AV} {r : AV} {Ho : List Ob} (h : parse_reader_lit x0 [] (fun v H' => Gives 0 v H' r Ho)) : Abs.Fn Tryz.prog parse_reader_lit_i [] [x0] r Ho := parse_reader_lit_fnH (Hin := []) h

/- (*runnel/parse.reader).must -/
def parse_reader_must (x0 x1 : AV) (H : List Ob) (K : AV → List Ob → Prop) : Prop :=
  aCall Tryz.prog (.p (.func parse_reader_takes_i [])) [x0, x1] H fun v0 h1 =>
  aUn .not v0 fun v2 =>
  aGuard v2
  (aNilCheck x0 fun v3 =>
  aFieldAddr 1 v3 fun v4 =>
  aLoad false 1 v4 h1 fun v5 =>
  aCall Tryz.prog (.p (.func parse_reader_fail_i [])) [x0, v5, (.p (.int .i64 2))] h1 fun _ h7 =>
  K (.tup []) h7)
  (K (.tup []) h1)

def parse_reader_must_ann : Nat → List Nat := fun _ => []

theorem parse_reader_must_eq (x0 x1 : AV) (H : List Ob) (r : AV) (Ho : List Ob) : aBody Tryz.prog parse_reader_must_ann Tryz.f84 H [x0, x1] r Ho = parse_reader_must x0 x1 H (fun v H' => Gives H.length v H' r Ho) := by kernel_rfl

theorem parse_reader_must_fnH {x0 x1 : AV} {Hin : List Ob} {r : AV} {Ho : List Ob} (h : parse_reader_must x0 x1 Hin (fun v H' => Gives Hin.length v H' r Ho)) : Abs.Fn Tryz.prog parse_reader_must_i Hin [x0, x1] r Ho :=
  fn_intro mixed parse_reader_must_ann (fn := Tryz.f84) (by kernel_rfl) (by kernel_rfl) (by rw [parse_reader_must_eq]; exact h)

theorem parse_reader_must_fn {x0 x1 : AV} {r : AV} {Ho : List Ob} (h : parse_reader_must x0 x1 [] (fun v H' => Gives 0 v H' r Ho)) : Abs.Fn Tryz.prog parse_reader_must_i [] [x0, x1] r Ho := parse_reader_must_fnH (Hin := []) h

/- (*runnel/parse.reader).next -/
def parse_reader_next (x0 x1 : AV) (H : List Ob) (K : AV → List Ob → Prop) : Prop :=
  aNilCheck x0 fun v0 =>
  aFieldAddr 2 v0 fun v1 =>
  aLoad false 1 v1 H fun v2 =>
  aBin false false .eql v2 (.p (.int .i64 0)) fun v3 =>
  aGuard v3
  (aNilCheck x0 fun v4 =>
  aFieldAddr 1 v4 fun v5 =>
  aLoad false 1 v5 H fun v6 =>
  aNilCheck x0 fun v7 =>
  aFieldAddr 0 v7 fun v8 =>
  aLoad false 1 v8 H fun v9 =>
  aLen true true v9 fun v10 =>
  aBin false false .lss v6 v10 fun v11 =>
  aGuard v11
  (aNilCheck x0 fun v12 =>
  aFieldAddr 0 v12 fun v13 =>
  aLoad false 1 v13 H fun v14 =>
  aNilCheck x0 fun v15 =>
  aFieldAddr 1 v15 fun v16 =>
  aLoad false 1 v16 H fun v17 =>
  aIndex v14 v17 fun v18 =>
  aBin false false .eql v18 x1 fun v19 =>
  K v19 H)
  (K (.p (.bool false)) H))
  (K (.p (.bool false)) H)

def parse_reader_next_ann : Nat → List Nat := fun _ => []

theorem parse_reader_next_eq (x0 x1 : AV) (H : List Ob) (r : AV) (Ho : List Ob) : aBody Tryz.prog parse_reader_next_ann Tryz.f116 H [x0, x1] r Ho = parse_reader_next x0 x1 H (fun v H' => Gives H.length v H' r Ho) := by kernel_rfl

theorem parse_reader_next_fnH {x0 x1 : AV} {Hin : List Ob} {r : AV} {Ho : List Ob} (h : parse_reader_next x0 x1 Hin (fun v H' => Gives Hin.length v H' r Ho)) : Abs.Fn Tryz.prog parse_reader_next_i Hin [x0, x1] r Ho :=
  fn_intro mixed parse_reader_next_ann (fn := Tryz.f116) (by kernel_rfl) (by kernel_rfl) (by rw [parse_reader_next_eq]; exact h)

theorem parse_reader_next_fn {x0 x1 : AV} {r : AV} {Ho : List Ob} (h : parse_reader_next x0 x1 [] (fun v H' => Gives 0 v H' r Ho)) : Abs.Fn Tryz.prog parse_reader_next_i [] [x0, x1] r Ho := parse_reader_next_fnH (Hin := []) h

/- (*runnel/parse.reader).simple -/
def parse_reader_simple_J1 (j1s1 j1s2 j1s4 : AV) (H : List Ob) (K : AV → List Ob → Prop) : Prop :=
  aLoad false 1 j1s1 H fun v12 =>
  aCall Tryz.prog (.p (.func parse_reader_while_i [])) [v12, (.p (.func parse_letter_i []))] H fun v13 h14 =>
  aBin false false .neq v13 (.p (.str [116, 114, 117, 101])) fun v15 =>
  aMerge true v15 (fun Q16 =>
  aBin false false .neq v13 (.p (.str [102, 97, 108, 115, 101])) fun v17 =>
  (h14 = h14 ∧ Q16 v17)) fun v18 =>
  aGuard v18
  (aLoad false 1 j1s1 h14 fun v19 =>
  aLoad false 1 j1s4 h14 fun v20 =>
  aNilCheck v19 fun v21 =>
  aFieldAddr 1 v21 fun v22 =>
  aStore 1 v22 v20 h14 fun _ h24 =>
  aBuild [(.p (.int .i64 0)), (.p (.int .i64 0)), (.p (.bool false)), (.p (.str [])), (.full [])] [] fun v25 =>
  aStore 5 j1s2 v25 h24 fun _ h27 =>
  aLoad true 5 j1s2 h27 fun v28 =>
  K (.tup [v28, (.p (.bool false))]) h27)
  (aBin false false .eql v13 (.p (.str [116, 114, 117, 101])) fun v29 =>
  aCall Tryz.prog (.p (.func val_Bool_i [])) [v29] h14 fun v30 h31 =>
  aStore 5 j1s2 v30 h31 fun _ h33 =>
  aLoad true 5 j1s2 h33 fun v34 =>
  K (.tup [v34, (.p (.bool true))]) h33)

def parse_reader_simple (x0 : AV) (H : List Ob) (K : AV → List Ob → Prop) : Prop :=
  aBox x0 H fun v0 h1 =>
  aAlloc [(.p (.int .i64 0)), (.p (.int .i64 0)), (.p (.bool false)), (.p (.str [])), (.full [])] h1 fun v2 h3 =>
  aLoad false 1 v0 h3 fun v4 =>
  aNilCheck v4 fun v5 =>
  aFieldAddr 1 v5 fun v6 =>
  aLoad false 1 v6 h3 fun v7 =>
  aAlloc [(.p (.int .i64 0))] h3 fun v8 h9 =>
  aStore 1 v8 v7 h9 fun _ h11 =>
  aLoad false 1 v0 h11 fun v35 =>
  aCall Tryz.prog (.p (.func parse_reader_next_i [])) [v35, (.p (.int .u8 34))] h11 fun v36 h37 =>
  aGuard v36
  (aLoad false 1 v0 h37 fun v38 =>
  aMakeFunc parse_reader_simple_1_i [v0] h37 fun v39 h40 =>
  aCall Tryz.prog (.p (.func parse_some_string_i [])) [v38, v39] h40 fun v41 h42 =>
  aLen false true v41 fun v43 =>
  aBin false false .gtr v43 (.p (.int .i64 255)) fun v44 =>
  aGuard v44
  (aLoad false 1 v0 h42 fun v45 =>
  aLoad false 1 v8 h42 fun v46 =>
  aCall Tryz.prog (.p (.func parse_reader_fail_i [])) [v45, v46, (.p (.int .i64 4))] h42 fun _ h48 =>
  aCall Tryz.prog (.p (.func val_Str_i [])) [v41] h48 fun v49 h50 =>
  aStore 5 v2 v49 h50 fun _ h52 =>
  aLoad true 5 v2 h52 fun v53 =>
  K (.tup [v53, (.p (.bool true))]) h52)
  (aCall Tryz.prog (.p (.func val_Str_i [])) [v41] h42 fun v54 h55 =>
  aStore 5 v2 v54 h55 fun _ h57 =>
  aLoad true 5 v2 h57 fun v58 =>
  K (.tup [v58, (.p (.bool true))]) h57))
  (aLoad false 1 v0 h37 fun v59 =>
  aNilCheck v59 fun v60 =>
  aFieldAddr 1 v60 fun v61 =>
  aLoad false 1 v61 h37 fun v62 =>
  aLoad false 1 v0 h37 fun v63 =>
  aNilCheck v63 fun v64 =>
  aFieldAddr 0 v64 fun v65 =>
  aLoad false 1 v65 h37 fun v66 =>
  aLen true true v66 fun v67 =>
  aBin false false .lss v62 v67 fun v68 =>
  aGuard v68
  (aLoad false 1 v0 h37 fun v69 =>
  aNilCheck v69 fun v70 =>
  aFieldAddr 0 v70 fun v71 =>
  aLoad false 1 v71 h37 fun v72 =>
  aLoad false 1 v0 h37 fun v73 =>
  aNilCheck v73 fun v74 =>
  aFieldAddr 1 v74 fun v75 =>
  aLoad false 1 v75 h37 fun v76 =>
  aIndex v72 v76 fun v77 =>
  aBin false false .eql v77 (.p (.int .u8 45)) fun v78 =>
  aGuard v78
  (aLoad false 1 v0 h37 fun v79 =>
  aMakeFunc parse_reader_simple_2_i [v0, v8] h37 fun v80 h81 =>
  aCall Tryz.prog (.p (.func parse_some_int64_i [])) [v79, v80] h81 fun v82 h83 =>
  aCall Tryz.prog (.p (.func val_Int_i [])) [v82] h83 fun v84 h85 =>
  aStore 5 v2 v84 h85 fun _ h87 =>
  aLoad true 5 v2 h87 fun v88 =>
  K (.tup [v88, (.p (.bool true))]) h87)
  (aLoad false 1 v0 h37 fun v89 =>
  aNilCheck v89 fun v90 =>
  aFieldAddr 0 v90 fun v91 =>
  aLoad false 1 v91 h37 fun v92 =>
  aLoad false 1 v0 h37 fun v93 =>
  aNilCheck v93 fun v94 =>
  aFieldAddr 1 v94 fun v95 =>
  aLoad false 1 v95 h37 fun v96 =>
  aIndex v92 v96 fun v97 =>
  aCallT Tryz.prog (.p (.func parse_digit_i [])) [v97] fun v98 =>
  aGuard v98
  (aLoad false 1 v0 h37 fun v99 =>
  aMakeFunc parse_reader_simple_2_i [v0, v8] h37 fun v100 h101 =>
  aCall Tryz.prog (.p (.func parse_some_int64_i [])) [v99, v100] h101 fun v102 h103 =>
  aCall Tryz.prog (.p (.func val_Int_i [])) [v102] h103 fun v104 h105 =>
  aStore 5 v2 v104 h105 fun _ h107 =>
  aLoad true 5 v2 h107 fun v108 =>
  K (.tup [v108, (.p (.bool true))]) h107)
  (parse_reader_simple_J1 v0 v2 v8 h37 K)))
  (parse_reader_simple_J1 v0 v2 v8 h37 K))

def parse_reader_simple_ann : Nat → List Nat := fun _ => []

theorem parse_reader_simple_eq (x0 : AV) (H : List Ob) (r : AV) (Ho : List Ob) : aBody Tryz.prog parse_reader_simple_ann Tryz.f117 H [x0] r Ho = parse_reader_simple x0 H (fun v H' => Gives H.length v H' r Ho) := by kernel_rfl

theorem parse_reader_simple_fnH {x0 : AV} {Hin : List Ob} {r : AV} {Ho : List Ob} (h : parse_reader_simple x0 Hin (fun v H' => Gives Hin.length v H' r Ho)) : Abs.Fn Tryz.prog parse_reader_simple_i Hin [x0] r Ho :=
  fn_intro mixed parse_reader_simple_ann (fn := Tryz.f117) (by kernel_rfl) (by kernel_rfl) (by rw [parse_reader_simple_eq]; exact h)

theorem parse_reader_simple_fn {x0 : AV} {r : AV} {Ho : List Ob} (h : parse_reader_simple x0 [] (fun v H' => Gives 0 v H' r Ho)) : Abs.Fn Tryz.prog parse_reader_simple_i [] [x0] r Ho := parse_reader_simple_fnH (Hin := []) h

/- (*runnel/parse.reader).while -/
def parse_reader_while_L1 (q1s0 q1s1 q1s5 : AV) (H : List Ob) (B1 : List AV → List Ob → Prop) (K : AV → List Ob → Prop) : Prop :=
  aNilCheck q1s0 fun v3 =>
  aFieldAddr 1 v3 fun v4 =>
  aLoad false 1 v4 H fun v5 =>
  aNilCheck q1s0 fun v6 =>
  aFieldAddr 0 v6 fun v7 =>
  aLoad false 1 v7 H fun v8 =>
  aLen true true v8 fun v9 =>
  aBin false false .lss v5 v9 fun v10 =>
  aGuard v10
  (aNilCheck q1s0 fun v11 =>
  aFieldAddr 0 v11 fun v12 =>
  aLoad false 1 v12 H fun v13 =>
  aNilCheck q1s0 fun v14 =>
  aFieldAddr 1 v14 fun v15 =>
  aLoad false 1 v15 H fun v16 =>
  aIndex v13 v16 fun v17 =>
  aCallT Tryz.prog q1s1 [v17] fun v18 =>
  aGuard v18
  (aNilCheck q1s0 fun v19 =>
  aFieldAddr 1 v19 fun v20 =>
  aLoad false 1 v20 H fun v21 =>
  aBin false false .add v21 (.p (.int .i64 1)) fun v22 =>
  aNilCheck q1s0 fun v23 =>
  aFieldAddr 1 v23 fun v24 =>
  aStore 1 v24 v22 H fun _ h26 =>
  B1 [] h26)
  (aNilCheck q1s0 fun v27 =>
  aFieldAddr 0 v27 fun v28 =>
  aLoad false 1 v28 H fun v29 =>
  aNilCheck q1s0 fun v30 =>
  aFieldAddr 1 v30 fun v31 =>
  aLoad false 1 v31 H fun v32 =>
  aSlice true 0 v29 (some q1s5) (some v32) none fun v33 =>
  K v33 H))
  (aNilCheck q1s0 fun v34 =>
  aFieldAddr 0 v34 fun v35 =>
  aLoad false 1 v35 H fun v36 =>
  aNilCheck q1s0 fun v37 =>
  aFieldAddr 1 v37 fun v38 =>
  aLoad false 1 v38 H fun v39 =>
  aSlice true 0 v36 (some q1s5) (some v39) none fun v40 =>
  K v40 H)

def parse_reader_while (x0 x1 : AV) (H : List Ob) (K : AV → List Ob → Prop) : Prop :=
  aNilCheck x0 fun v0 =>
  aFieldAddr 1 v0 fun v1 =>
  aLoad false 1 v1 H fun v2 =>
  aLoopN 0 [] H fun xs H B1 => parse_reader_while_L1 x0 x1 v2 H B1 K

def parse_reader_while_ann : Nat → List Nat := fun k => match k with | 2 => [] | _ => []

theorem parse_reader_while_eq (x0 x1 : AV) (H : List Ob) (r : AV) (Ho : List Ob) : aBody Tryz.prog parse_reader_while_ann Tryz.f118 H [x0, x1] r Ho = parse_reader_while x0 x1 H (fun v H' => Gives H.length v H' r Ho) := by kernel_rfl

theorem parse_reader_while_fnH {x0 x1 : AV} {Hin : List Ob} {r : AV} {Ho : List Ob} (h : parse_reader_while x0 x1 Hin (fun v H' => Gives Hin.length v H' r Ho)) : Abs.Fn Tryz.prog parse_reader_while_i Hin [x0, x1] r Ho :=
  fn_intro mixed parse_reader_while_ann (fn := Tryz.f118) (by kernel_rfl) (by kernel_rfl) (by rw [parse_reader_while_eq]; exact h)

theorem parse_reader_while_fn {x0 x1 : AV} {r : AV} {Ho : List Ob} (h : parse_reader_while x0 x1 [] (fun v H' => Gives 0 v H' r Ho)) : Abs.Fn Tryz.prog parse_reader_while_i [] [x0, x1] r Ho := parse_reader_while_fnH (Hin := []) h

/- runnel/parse.letter -/
def parse_letter (x0 : AV) (H : List Ob) (K : AV → List Ob → Prop) : Prop :=
  aBin false false .geq x0 (.p (.int .u8 97)) fun v0 =>
  aMerge true v0 (fun Q1 =>
  aBin false false .leq x0 (.p (.int .u8 122)) fun v2 =>
  (H = H ∧ Q1 v2)) fun v3 =>
  K v3 H

def parse_letter_ann : Nat → List Nat := fun _ => []

theorem parse_letter_eq (x0 : AV) (H : List Ob) (r : AV) (Ho : List Ob) : aBody Tryz.prog parse_letter_ann Tryz.f119 H [x0] r Ho = parse_letter x0 H (fun v H' => Gives H.length v H' r Ho) := by kernel_rfl

theorem parse_letter_fnH {x0 : AV} {Hin : List Ob} {r : AV} {Ho : List Ob} (h : parse_letter x0 Hin (fun v H' => Gives Hin.length v H' r Ho)) : Abs.Fn Tryz.prog parse_letter_i Hin [x0] r Ho :=
  fn_intro mixed parse_letter_ann (fn := Tryz.f119) (by kernel_rfl) (by kernel_rfl) (by rw [parse_letter_eq]; exact h)

theorem parse_letter_fn {x0 : AV} {r : AV} {Ho : List Ob} (h : parse_letter x0 [] (fun v H' => Gives 0 v H' r Ho)) : Abs.Fn Tryz.prog parse_letter_i [] [x0] r Ho := parse_letter_fnH (Hin := []) h

/- runnel/parse.some[string] -/
def parse_some_string (x0 x1 : AV) (H : List Ob) (K : AV → List Ob → Prop) : Prop :=
  aNilCheck x0 fun v0 =>
  aFieldAddr 1 v0 fun v1 =>
  aLoad false 1 v1 H fun v2 =>
  aCall Tryz.prog x1 [] H fun v3 h4 =>
  aExtract v3 0 fun v5 =>
  aExtract v3 1 fun v6 =>
  aUn .not v6 fun v7 =>
  aGuard v7
  (aCall Tryz.prog (.p (.func parse_reader_fail_i [])) [x0, v2, (.p (.int .i64 2))] h4 fun _ h9 =>
  K v5 h9)
  (K v5 h4)

def parse_some_string_ann : Nat → List Nat := fun _ => []

theorem parse_some_string_eq (x0 x1 : AV) (H : List Ob) (r : AV) (Ho : List Ob) : aBody Tryz.prog parse_some_string_ann Tryz.f120 H [x0, x1] r Ho = parse_some_string x0 x1 H (fun v H' => Gives H.length v H' r Ho) := by kernel_rfl

theorem parse_some_string_fnH {x0 x1 : AV} {Hin : List Ob} {r : AV} {Ho : List Ob} (h : parse_some_string x0 x1 Hin (fun v H' => Gives Hin.length v H' r Ho)) : Abs.Fn Tryz.prog parse_some_string_i Hin [x0, x1] r Ho :=
  fn_intro mixed parse_some_string_ann (fn := Tryz.f120) (by kernel_rfl) (by kernel_rfl) (by rw [parse_some_string_eq]; exact h)

theorem parse_some_string_fn {x0 x1 : AV} {r : AV} {Ho : List Ob} (h : parse_some_string x0 x1 [] (fun v H' => Gives 0 v H' r Ho)) : Abs.Fn Tryz.prog parse_some_string_i [] [x0, x1] r Ho := parse_some_string_fnH (Hin := []) h

/- (*runnel/parse.reader).op$1 -/
def parse_reader_op_1 (x0 : AV) (H : List Ob) (K : AV → List Ob → Prop) : Prop :=
  aLoad false 1 x0 H fun v0 =>
  aCall Tryz.prog (.p (.func parse_reader_while_i [])) [v0, (.p (.func parse_letter_i []))] H fun v1 h2 =>
  aBin false false .neq v1 (.p (.str [120])) fun v3 =>
  aMerge true v3 (fun Q4 =>
  aCall Tryz.prog (.p (.func expr_Known_i [])) [v1] h2 fun v5 h6 =>
  (h6 = h2 ∧ Q4 v5)) fun v7 =>
  K (.tup [v1, v7]) h2

def parse_reader_op_1_ann : Nat → List Nat := fun _ => []

theorem parse_reader_op_1_eq (x0 : AV) (H : List Ob) (r : AV) (Ho : List Ob) : aBody Tryz.prog parse_reader_op_1_ann Tryz.f121 H [x0] r Ho = parse_reader_op_1 x0 H (fun v H' => Gives H.length v H' r Ho) := by kernel_rfl

theorem parse_reader_op_1_fnH {x0 : AV} {Hin : List Ob} {r : AV} {Ho : List Ob} (h : parse_reader_op_1 x0 Hin (fun v H' => Gives Hin.length v H' r Ho)) : Abs.Fn Tryz.prog parse_reader_op_1_i Hin [x0] r Ho :=
  fn_intro mixed parse_reader_op_1_ann (fn := Tryz.f121) (by kernel_rfl) (by kernel_rfl) (by rw [parse_reader_op_1_eq]; exact h)

theorem parse_reader_op_1_fn {x0 : AV} {r : AV} {Ho : List Ob} (h : parse_reader_op_1 x0 [] (fun v H' => Gives 0 v H' r Ho)) : Abs.Fn Tryz.prog parse_reader_op_1_i [] [x0] r Ho := parse_reader_op_1_fnH (Hin := []) h

/- runnel/parse.some[int] -/
def parse_some_int (x0 x1 : AV) (H : List Ob) (K : AV → List Ob → Prop) : Prop :=
  aNilCheck x0 fun v0 =>
  aFieldAddr 1 v0 fun v1 =>
  aLoad false 1 v1 H fun v2 =>
  aCall Tryz.prog x1 [] H fun v3 h4 =>
  aExtract v3 0 fun v5 =>
  aExtract v3 1 fun v6 =>
  aUn .not v6 fun v7 =>
  aGuard v7
  (aCall Tryz.prog (.p (.func parse_reader_fail_i [])) [x0, v2, (.p (.int .i64 2))] h4 fun _ h9 =>
  K v5 h9)
  (K v5 h4)

def parse_some_int_ann : Nat → List Nat := fun _ => []

theorem parse_some_int_eq (x0 x1 : AV) (H : List Ob) (r : AV) (Ho : List Ob) : aBody Tryz.prog parse_some_int_ann Tryz.f123 H [x0, x1] r Ho = parse_some_int x0 x1 H (fun v H' => Gives H.length v H' r Ho) := by kernel_rfl

theorem parse_some_int_fnH {x0 x1 : AV} {Hin : List Ob} {r : AV} {Ho : List Ob} (h : parse_some_int x0 x1 Hin (fun v H' => Gives Hin.length v H' r Ho)) : Abs.Fn Tryz.prog parse_some_int_i Hin [x0, x1] r Ho :=
  fn_intro mixed parse_some_int_ann (fn := Tryz.f123) (by kernel_rfl) (by kernel_rfl) (by rw [parse_some_int_eq]; exact h)

theorem parse_some_int_fn {x0 x1 : AV} {r : AV} {Ho : List Ob} (h : parse_some_int x0 x1 [] (fun v H' => Gives 0 v H' r Ho)) : Abs.Fn Tryz.prog parse_some_int_i [] [x0, x1] r Ho := parse_some_int_fnH (Hin := []) h

/- (*runnel/parse.reader).op$2 -/
def parse_reader_op_2 (x0 : AV) (H : List Ob) (K : AV → List Ob → Prop) : Prop :=
  aLoad false 1 x0 H fun v0 =>
  aNilCheck v0 fun v1 =>
  aFieldAddr 1 v1 fun v2 =>
  aLoad false 1 v2 H fun v3 =>
  aLoad false 1 x0 H fun v4 =>
  aCall Tryz.prog (.p (.func parse_reader_while_i [])) [v4, (.p (.func parse_digit_i []))] H fun _ h6 =>
  aLoad false 1 x0 h6 fun v7 =>
  aNilCheck v7 fun v8 =>
  aFieldAddr 0 v8 fun v9 =>
  aLoad false 1 v9 h6 fun v10 =>
  aLoad false 1 x0 h6 fun v11 =>
  aNilCheck v11 fun v12 =>
  aFieldAddr 1 v12 fun v13 =>
  aLoad false 1 v13 h6 fun v14 =>
  aSlice true 0 v10 (some v3) (some v14) none fun v15 =>
  aCallT Tryz.prog (.p (.func parse_number_i [])) [v15] fun v16 =>
  aExtract v16 0 fun v17 =>
  aExtract v16 1 fun v18 =>
  aMerge true v18 (fun Q19 =>
  aBin false false .leq v17 (.p (.int .i64 2147483647)) fun v20 =>
  (h6 = h6 ∧ Q19 v20)) fun v21 =>
  K (.tup [v17, v21]) h6

def parse_reader_op_2_ann : Nat → List Nat := fun _ => []

theorem parse_reader_op_2_eq (x0 : AV) (H : List Ob) (r : AV) (Ho : List Ob) : aBody Tryz.prog parse_reader_op_2_ann Tryz.f124 H [x0] r Ho = parse_reader_op_2 x0 H (fun v H' => Gives H.length v H' r Ho) := by kernel_rfl

theorem parse_reader_op_2_fnH {x0 : AV} {Hin : List Ob} {r : AV} {Ho : List Ob} (h : parse_reader_op_2 x0 Hin (fun v H' => Gives Hin.length v H' r Ho)) : Abs.Fn Tryz.prog parse_reader_op_2_i Hin [x0] r Ho :=
  fn_intro mixed parse_reader_op_2_ann (fn := Tryz.f124) (by kernel_rfl) (by kernel_rfl) (by rw [parse_reader_op_2_eq]; exact h)

theorem parse_reader_op_2_fn {x0 : AV} {r : AV} {Ho : List Ob} (h : parse_reader_op_2 x0 [] (fun v H' => Gives 0 v H' r Ho)) : Abs.Fn Tryz.prog parse_reader_op_2_i [] [x0] r Ho := parse_reader_op_2_fnH (Hin := []) h

/- runnel/parse.digit -/
def parse_digit (x0 : AV) (H : List Ob) (K : AV → List Ob → Prop) : Prop :=
  aBin false false .geq x0 (.p (.int .u8 48)) fun v0 =>
  aMerge true v0 (fun Q1 =>
  aBin false false .leq x0 (.p (.int .u8 57)) fun v2 =>
  (H = H ∧ Q1 v2)) fun v3 =>
  K v3 H

def parse_digit_ann : Nat → List Nat := fun _ => []

theorem parse_digit_eq (x0 : AV) (H : List Ob) (r : AV) (Ho : List Ob) : aBody Tryz.prog parse_digit_ann Tryz.f125 H [x0] r Ho = parse_digit x0 H (fun v H' => Gives H.length v H' r Ho) := by kernel_rfl

theorem parse_digit_fnH {x0 : AV} {Hin : List Ob} {r : AV} {Ho : List Ob} (h : parse_digit x0 Hin (fun v H' => Gives Hin.length v H' r Ho)) : Abs.Fn Tryz.prog parse_digit_i Hin [x0] r Ho :=
  fn_intro mixed parse_digit_ann (fn := Tryz.f125) (by kernel_rfl) (by kernel_rfl) (by rw [parse_digit_eq]; exact h)

theorem parse_digit_fn {x0 : AV} {r : AV} {Ho : List Ob} (h : parse_digit x0 [] (fun v H' => Gives 0 v H' r Ho)) : Abs.Fn Tryz.prog parse_digit_i [] [x0] r Ho := parse_digit_fnH (Hin := []) h

/- runnel/parse.number -/
def parse_number (x0 : AV) (H : List Ob) (K : AV → List Ob → Prop) : Prop :=
  aCall Tryz.prog (.p (.func strconv_ParseInt_i [])) [x0, (.p (.int .i64 10)), (.p (.int .i64 64))] H fun v0 h1 =>
  aExtract v0 0 fun v2 =>
  aExtract v0 1 fun v3 =>
  aNilI true .eql v3 fun v4 =>
  aMerge true v4 (fun Q5 =>
  aCall Tryz.prog (.p (.func strconv_FormatInt_i [])) [v2, (.p (.int .i64 10))] h1 fun v6 h7 =>
  aBin false false .eql v6 x0 fun v8 =>
  (h7 = h1 ∧ Q5 v8)) fun v9 =>
  K (.tup [v2, v9]) h1

def parse_number_ann : Nat → List Nat := fun _ => []

theorem parse_number_eq (x0 : AV) (H : List Ob) (r : AV) (Ho : List Ob) : aBody Tryz.prog parse_number_ann Tryz.f126 H [x0] r Ho = parse_number x0 H (fun v H' => Gives H.length v H' r Ho) := by kernel_rfl

theorem parse_number_fnH {x0 : AV} {Hin : List Ob} {r : AV} {Ho : List Ob} (h : parse_number x0 Hin (fun v H' => Gives Hin.length v H' r Ho)) : Abs.Fn Tryz.prog parse_number_i Hin [x0] r Ho :=
  fn_intro mixed parse_number_ann (fn := Tryz.f126) (by kernel_rfl) (by kernel_rfl) (by rw [parse_number_eq]; exact h)

theorem parse_number_fn {x0 : AV} {r : AV} {Ho : List Ob} (h : parse_number x0 [] (fun v H' => Gives 0 v H' r Ho)) : Abs.Fn Tryz.prog parse_number_i [] [x0] r Ho := parse_number_fnH (Hin := []) h

/- (*runnel/parse.reader).value -/
def parse_reader_value_L1 (q1s0 q1s2 q1s3 : AV) (H : List Ob) (B1 : List AV → List Ob → Prop) (K : AV → List Ob → Prop) : Prop :=
  aNilCheck q1s0 fun v17 =>
  aFieldAddr 2 v17 fun v18 =>
  aLoad false 1 v18 H fun v19 =>
  aBin false false .eql v19 (.p (.int .i64 0)) fun v20 =>
  aGuard v20
  (aFieldAddr 4 q1s3 fun v21 =>
  (aLoad false 1 v21 H fun v22 =>
  aCall Tryz.prog (.p (.func parse_reader_value_i [])) [q1s0] H fun v23 h24 =>
  aBuildSlice 5 [v23] fun v25 =>
  aAppend false 5 64 v22 v25 h24 fun v26 h27 =>
  aFieldAddr 4 q1s3 fun v28 =>
  aStore 1 v28 v26 h27 fun _ h30 =>
  aCall Tryz.prog (.p (.func parse_reader_takes_i [])) [q1s0, (.p (.int .u8 41))] h30 fun v31 h32 =>
  aGuard v31
  (aLoad true 5 q1s3 h32 fun v33 =>
  aStore 5 q1s2 v33 h32 fun _ h35 =>
  aLoad true 5 q1s2 h35 fun v36 =>
  K v36 h35)
  (aCall Tryz.prog (.p (.func parse_reader_must_i [])) [q1s0, (.p (.int .u8 44))] h32 fun _ h38 =>
  B1 [] h38)) ∧
  (aCall Tryz.prog (.p (.func parse_reader_value_i [])) [q1s0] H fun v39 h40 =>
  (aLoad false 1 v21 h40 fun v41 =>
  aBuildSlice 5 [v39] fun v42 =>
  aAppend false 5 64 v41 v42 h40 fun v43 h44 =>
  aFieldAddr 4 q1s3 fun v45 =>
  aStore 1 v45 v43 h44 fun _ h47 =>
  aCall Tryz.prog (.p (.func parse_reader_takes_i [])) [q1s0, (.p (.int .u8 41))] h47 fun v48 h49 =>
  aGuard v48
  (aLoad true 5 q1s3 h49 fun v50 =>
  aStore 5 q1s2 v50 h49 fun _ h52 =>
  aLoad true 5 q1s2 h52 fun v53 =>
  K v53 h52)
  (aCall Tryz.prog (.p (.func parse_reader_must_i [])) [q1s0, (.p (.int .u8 44))] h49 fun _ h55 =>
  B1 [] h55)) ∧
  (aBuildSlice 5 [v39] fun v56 =>
  aLoad false 1 v21 h40 fun v57 =>
  aAppend false 5 64 v57 v56 h40 fun v58 h59 =>
  aFieldAddr 4 q1s3 fun v60 =>
  aStore 1 v60 v58 h59 fun _ h62 =>
  aCall Tryz.prog (.p (.func parse_reader_takes_i [])) [q1s0, (.p (.int .u8 41))] h62 fun v63 h64 =>
  aGuard v63
  (aLoad true 5 q1s3 h64 fun v65 =>
  aStore 5 q1s2 v65 h64 fun _ h67 =>
  aLoad true 5 q1s2 h67 fun v68 =>
  K v68 h67)
  (aCall Tryz.prog (.p (.func parse_reader_must_i [])) [q1s0, (.p (.int .u8 44))] h64 fun _ h70 =>
  B1 [] h70))))
  (aLoad true 5 q1s3 H fun v71 =>
  aStore 5 q1s2 v71 H fun _ h73 =>
  aLoad true 5 q1s2 h73 fun v74 =>
  K v74 h73)

def parse_reader_value (x0 : AV) (H : List Ob) (K : AV → List Ob → Prop) : Prop :=
  aAlloc [(.p (.int .i64 0)), (.p (.int .i64 0)), (.p (.bool false)), (.p (.str [])), (.full [])] H fun v0 h1 =>
  aCall Tryz.prog (.p (.func parse_reader_takes_i [])) [x0, (.p (.int .u8 40))] h1 fun v2 h3 =>
  aUn .not v2 fun v4 =>
  aGuard v4
  (aBind parse_reader_simple_i x0 h3 fun v5 h6 =>
  aCall Tryz.prog (.p (.func parse_some_val_Value_i [])) [x0, v5] h6 fun v7 h8 =>
  aStore 5 v0 v7 h8 fun _ h10 =>
  aLoad true 5 v0 h10 fun v11 =>
  K v11 h10)
  (aBuild [(.p (.int .i64 0)), (.p (.int .i64 0)), (.p (.bool false)), (.p (.str [])), (.full [])] [(0, 1, (.p (.int .i64 4)))] fun v12 =>
  aAlloc [(.p (.int .i64 0)), (.p (.int .i64 0)), (.p (.bool false)), (.p (.str [])), (.full [])] h3 fun v13 h14 =>
  aStore 5 v13 v12 h14 fun _ h16 =>
  aLoopN 0 [] h16 fun xs H B1 => parse_reader_value_L1 x0 v0 v13 H B1 K)

def parse_reader_value_ann : Nat → List Nat := fun k => match k with | 4 => [] | 3000005 => [1000] | _ => []

theorem parse_reader_value_eq (x0 : AV) (H : List Ob) (r : AV) (Ho : List Ob) : aBody Tryz.prog parse_reader_value_ann Tryz.f127 H [x0] r Ho = parse_reader_value x0 H (fun v H' => Gives H.length v H' r Ho) := by kernel_rfl

theorem parse_reader_value_fnH {x0 : AV} {Hin : List Ob} {r : AV} {Ho : List Ob} (h : parse_reader_value x0 Hin (fun v H' => Gives Hin.length v H' r Ho)) : Abs.Fn Tryz.prog parse_reader_value_i Hin [x0] r Ho :=
  fn_intro mixed parse_reader_value_ann (fn := Tryz.f127) (by kernel_rfl) (by kernel_rfl) (by rw [parse_reader_value_eq]; exact h)

theorem parse_reader_value_fn {x0 : AV} {r : AV} {Ho : List Ob} (h : parse_reader_value x0 [] (fun v H' => Gives 0 v H' r Ho)) : Abs.Fn Tryz.prog parse_reader_value_i [] [x0] r Ho := parse_reader_value_fnH (Hin := []) h

/- (*runnel/parse.reader).simple$1 -/
def parse_reader_simple_1 (x0 : AV) (H : List Ob) (K : AV → List Ob → Prop) : Prop :=
  aLoad false 1 x0 H fun v0 =>
  aNilCheck v0 fun v1 =>
  aFieldAddr 1 v1 fun v2 =>
  aLoad false 1 v2 H fun v3 =>
  aBin false false .add v3 (.p (.int .i64 1)) fun v4 =>
  aNilCheck v0 fun v5 =>
  aFieldAddr 1 v5 fun v6 =>
  aStore 1 v6 v4 H fun _ h8 =>
  aLoad false 1 x0 h8 fun v9 =>
  aCall Tryz.prog (.p (.func parse_reader_quoted_i [])) [v9] h8 fun v10 h11 =>
  aExtract v10 0 fun v12 =>
  aExtract v10 1 fun v13 =>
  K (.tup [v12, v13]) h11

def parse_reader_simple_1_ann : Nat → List Nat := fun _ => []

theorem parse_reader_simple_1_eq (x0 : AV) (H : List Ob) (r : AV) (Ho : List Ob) : aBody Tryz.prog parse_reader_simple_1_ann Tryz.f149 H [x0] r Ho = parse_reader_simple_1 x0 H (fun v H' => Gives H.length v H' r Ho) := by kernel_rfl

theorem parse_reader_simple_1_fnH {x0 : AV} {Hin : List Ob} {r : AV} {Ho : List Ob} (h : parse_reader_simple_1 x0 Hin (fun v H' => Gives Hin.length v H' r Ho)) : Abs.Fn Tryz.prog parse_reader_simple_1_i Hin [x0] r Ho :=
  fn_intro mixed parse_reader_simple_1_ann (fn := Tryz.f149) (by kernel_rfl) (by kernel_rfl) (by rw [parse_reader_simple_1_eq]; exact h)

theorem parse_reader_simple_1_fn {x0 : AV} {r : AV} {Ho : List Ob} (h : parse_reader_simple_1 x0 [] (fun v H' => Gives 0 v H' r Ho)) : Abs.Fn Tryz.prog parse_reader_simple_1_i [] [x0] r Ho := parse_reader_simple_1_fnH (Hin := []) h

/- (*runnel/parse.reader).quoted -/
def parse_reader_quoted_J1 (j1s0 j1s4 : AV) (H : List Ob) (B1 : List AV → List Ob → Prop) (K : AV → List Ob → Prop) : Prop :=
  aNilCheck j1s0 fun v23 =>
  aFieldAddr 0 v23 fun v24 =>
  aLoad false 1 v24 H fun v25 =>
  aNilCheck j1s0 fun v26 =>
  aFieldAddr 1 v26 fun v27 =>
  aLoad false 1 v27 H fun v28 =>
  aIndex v25 v28 fun v29 =>
  aCallT Tryz.prog (.p (.func parse_half_i [])) [v29] fun v30 =>
  aNilCheck j1s0 fun v31 =>
  aFieldAddr 0 v31 fun v32 =>
  aLoad false 1 v32 H fun v33 =>
  aNilCheck j1s0 fun v34 =>
  aFieldAddr 1 v34 fun v35 =>
  aLoad false 1 v35 H fun v36 =>
  aBin false false .add v36 (.p (.int .i64 1)) fun v37 =>
  aIndex v33 v37 fun v38 =>
  aCallT Tryz.prog (.p (.func parse_half_i [])) [v38] fun v39 =>
  aBin false false .lss v30 (.p (.int .i64 0)) fun v40 =>
  aMerge false v40 (fun Q41 =>
  aBin false false .lss v39 (.p (.int .i64 0)) fun v42 =>
  (H = H ∧ Q41 v42)) fun v43 =>
  aMerge false v43 (fun Q44 =>
  aBin false false .shl v30 (.p (.int .u64 4)) fun v45 =>
  aBin false false .or v45 v39 fun v46 =>
  aConvInt .u8 v46 fun v47 =>
  aCall Tryz.prog (.p (.func parse_plain_i [])) [v47] H fun v48 h49 =>
  (h49 = H ∧ Q44 v48)) fun v50 =>
  aGuard v50
  (K (.tup [(.p (.str [])), (.p (.bool false))]) H)
  (aBin false false .shl v30 (.p (.int .u64 4)) fun v51 =>
  aBin false false .or v51 v39 fun v52 =>
  aConvInt .u8 v52 fun v53 =>
  aBuildSlice 1 [v53] fun v54 =>
  aAppend false 1 1 j1s4 v54 H fun v55 h56 =>
  aNilCheck j1s0 fun v57 =>
  aFieldAddr 1 v57 fun v58 =>
  aLoad false 1 v58 h56 fun v59 =>
  aBin false false .add v59 (.p (.int .i64 2)) fun v60 =>
  aNilCheck j1s0 fun v61 =>
  aFieldAddr 1 v61 fun v62 =>
  aStore 1 v62 v60 h56 fun _ h64 =>
  B1 [v55] h64)

def parse_reader_quoted_L1 (q1s0 y0 : AV) (H : List Ob) (B1 : List AV → List Ob → Prop) (K : AV → List Ob → Prop) : Prop :=
  aNilCheck q1s0 fun v0 =>
  aFieldAddr 1 v0 fun v1 =>
  aLoad false 1 v1 H fun v2 =>
  aNilCheck q1s0 fun v3 =>
  aFieldAddr 0 v3 fun v4 =>
  aLoad false 1 v4 H fun v5 =>
  aLen true true v5 fun v6 =>
  aBin false false .lss v2 v6 fun v7 =>
  aGuard v7
  (aNilCheck q1s0 fun v8 =>
  aFieldAddr 0 v8 fun v9 =>
  aLoad false 1 v9 H fun v10 =>
  aNilCheck q1s0 fun v11 =>
  aFieldAddr 1 v11 fun v12 =>
  aLoad false 1 v12 H fun v13 =>
  aIndex v10 v13 fun v14 =>
  aNilCheck q1s0 fun v15 =>
  aFieldAddr 1 v15 fun v16 =>
  aLoad false 1 v16 H fun v17 =>
  aBin false false .add v17 (.p (.int .i64 1)) fun v18 =>
  aNilCheck q1s0 fun v19 =>
  aFieldAddr 1 v19 fun v20 =>
  aStore 1 v20 v18 H fun _ h22 =>
  aBin false false .eql v14 (.p (.int .u8 34)) fun v65 =>
  aGuard v65
  (aBytesStr y0 fun v66 =>
  K (.tup [v66, (.p (.bool true))]) h22)
  (aCall Tryz.prog (.p (.func parse_plain_i [])) [v14] h22 fun v67 h68 =>
  aGuard v67
  (aBuildSlice 1 [v14] fun v69 =>
  aAppend false 1 1 y0 v69 h68 fun v70 h71 =>
  B1 [v70] h71)
  (aBin false false .neq v14 (.p (.int .u8 92)) fun v72 =>
  aGuard v72
  (K (.tup [(.p (.str [])), (.p (.bool false))]) h68)
  (aNilCheck q1s0 fun v73 =>
  aFieldAddr 1 v73 fun v74 =>
  aLoad false 1 v74 h68 fun v75 =>
  aBin false false .add v75 (.p (.int .i64 2)) fun v76 =>
  aNilCheck q1s0 fun v77 =>
  aFieldAddr 0 v77 fun v78 =>
  aLoad false 1 v78 h68 fun v79 =>
  aLen true true v79 fun v80 =>
  aBin false false .gtr v76 v80 fun v81 =>
  aGuard v81
  (K (.tup [(.p (.str [])), (.p (.bool false))]) h68)
  (parse_reader_quoted_J1 q1s0 y0 h68 B1 K)))))
  (K (.tup [(.p (.str [])), (.p (.bool false))]) H)

def parse_reader_quoted (x0 : AV) (H : List Ob) (K : AV → List Ob → Prop) : Prop :=
  aLoopN 1 [(.full [])] H fun xs H B1 => parse_reader_quoted_L1 x0 (xs.getD 0 .top) H B1 K

def parse_reader_quoted_ann : Nat → List Nat := fun k => match k with | 2 => [4] | _ => []

theorem parse_reader_quoted_eq (x0 : AV) (H : List Ob) (r : AV) (Ho : List Ob) : aBody Tryz.prog parse_reader_quoted_ann Tryz.f150 H [x0] r Ho = parse_reader_quoted x0 H (fun v H' => Gives H.length v H' r Ho) := by kernel_rfl

theorem parse_reader_quoted_fnH {x0 : AV} {Hin : List Ob} {r : AV} {Ho : List Ob} (h : parse_reader_quoted x0 Hin (fun v H' => Gives Hin.length v H' r Ho)) : Abs.Fn Tryz.prog parse_reader_quoted_i Hin [x0] r Ho :=
  fn_intro mixed parse_reader_quoted_ann (fn := Tryz.f150) (by kernel_rfl) (by kernel_rfl) (by rw [parse_reader_quoted_eq]; exact h)

theorem parse_reader_quoted_fn {x0 : AV} {r : AV} {Ho : List Ob} (h : parse_reader_quoted x0 [] (fun v H' => Gives 0 v H' r Ho)) : Abs.Fn Tryz.prog parse_reader_quoted_i [] [x0] r Ho := parse_reader_quoted_fnH (Hin := []) h

/- runnel/parse.some[int64] -/
def parse_some_int64 (x0 x1 : AV) (H : List Ob) (K : AV → List Ob → Prop) : Prop :=
  aNilCheck x0 fun v0 =>
  aFieldAddr 1 v0 fun v1 =>
  aLoad false 1 v1 H fun v2 =>
  aCall Tryz.prog x1 [] H fun v3 h4 =>
  aExtract v3 0 fun v5 =>
  aExtract v3 1 fun v6 =>
  aUn .not v6 fun v7 =>
  aGuard v7
  (aCall Tryz.prog (.p (.func parse_reader_fail_i [])) [x0, v2, (.p (.int .i64 2))] h4 fun _ h9 =>
  K v5 h9)
  (K v5 h4)

def parse_some_int64_ann : Nat → List Nat := fun _ => []

theorem parse_some_int64_eq (x0 x1 : AV) (H : List Ob) (r : AV) (Ho : List Ob) : aBody Tryz.prog parse_some_int64_ann Tryz.f152 H [x0, x1] r Ho = parse_some_int64 x0 x1 H (fun v H' => Gives H.length v H' r Ho) := by kernel_rfl

theorem parse_some_int64_fnH {x0 x1 : AV} {Hin : List Ob} {r : AV} {Ho : List Ob} (h : parse_some_int64 x0 x1 Hin (fun v H' => Gives Hin.length v H' r Ho)) : Abs.Fn Tryz.prog parse_some_int64_i Hin [x0, x1] r Ho :=
  fn_intro mixed parse_some_int64_ann (fn := Tryz.f152) (by kernel_rfl) (by kernel_rfl) (by rw [parse_some_int64_eq]; exact h)

theorem parse_some_int64_fn {x0 x1 : AV} {r : AV} {Ho : List Ob} (h : parse_some_int64 x0 x1 [] (fun v H' => Gives 0 v H' r Ho)) : Abs.Fn Tryz.prog parse_some_int64_i [] [x0, x1] r Ho := parse_some_int64_fnH (Hin := []) h

/- (*runnel/parse.reader).simple$2 -/
def parse_reader_simple_2 (x0 x1 : AV) (H : List Ob) (K : AV → List Ob → Prop) : Prop :=
  aLoad false 1 x0 H fun v0 =>
  aCall Tryz.prog (.p (.func parse_reader_takes_i [])) [v0, (.p (.int .u8 45))] H fun _ h2 =>
  aLoad false 1 x0 h2 fun v3 =>
  aCall Tryz.prog (.p (.func parse_reader_while_i [])) [v3, (.p (.func parse_digit_i []))] h2 fun _ h5 =>
  aLoad false 1 x0 h5 fun v6 =>
  aNilCheck v6 fun v7 =>
  aFieldAddr 0 v7 fun v8 =>
  aLoad false 1 v8 h5 fun v9 =>
  aLoad false 1 x1 h5 fun v10 =>
  aLoad false 1 x0 h5 fun v11 =>
  aNilCheck v11 fun v12 =>
  aFieldAddr 1 v12 fun v13 =>
  aLoad false 1 v13 h5 fun v14 =>
  aSlice true 0 v9 (some v10) (some v14) none fun v15 =>
  aCallT Tryz.prog (.p (.func parse_number_i [])) [v15] fun v16 =>
  aExtract v16 0 fun v17 =>
  aExtract v16 1 fun v18 =>
  K (.tup [v17, v18]) h5

def parse_reader_simple_2_ann : Nat → List Nat := fun _ => []

theorem parse_reader_simple_2_eq (x0 x1 : AV) (H : List Ob) (r : AV) (Ho : List Ob) : aBody Tryz.prog parse_reader_simple_2_ann Tryz.f153 H [x0, x1] r Ho = parse_reader_simple_2 x0 x1 H (fun v H' => Gives H.length v H' r Ho) := by kernel_rfl

theorem parse_reader_simple_2_fnH {x0 x1 : AV} {Hin : List Ob} {r : AV} {Ho : List Ob} (h : parse_reader_simple_2 x0 x1 Hin (fun v H' => Gives Hin.length v H' r Ho)) : Abs.Fn Tryz.prog parse_reader_simple_2_i Hin [x0, x1] r Ho :=
  fn_intro mixed parse_reader_simple_2_ann (fn := Tryz.f153) (by kernel_rfl) (by kernel_rfl) (by rw [parse_reader_simple_2_eq]; exact h)

theorem parse_reader_simple_2_fn {x0 x1 : AV} {r : AV} {Ho : List Ob} (h : parse_reader_simple_2 x0 x1 [] (fun v H' => Gives 0 v H' r Ho)) : Abs.Fn Tryz.prog parse_reader_simple_2_i [] [x0, x1] r Ho := parse_reader_simple_2_fnH (Hin := []) h

/- runnel/parse.some[runnel/val.Value] -/
def parse_some_val_Value (x0 x1 : AV) (H : List Ob) (K : AV → List Ob → Prop) : Prop :=
  aAlloc [(.p (.int .i64 0)), (.p (.int .i64 0)), (.p (.bool false)), (.p (.str [])), (.full [])] H fun v0 h1 =>
  aNilCheck x0 fun v2 =>
  aFieldAddr 1 v2 fun v3 =>
  aLoad false 1 v3 h1 fun v4 =>
  aCall Tryz.prog x1 [] h1 fun v5 h6 =>
  aExtract v5 0 fun v7 =>
  aExtract v5 1 fun v8 =>
  aAlloc [(.p (.int .i64 0)), (.p (.int .i64 0)), (.p (.bool false)), (.p (.str [])), (.full [])] h6 fun v9 h10 =>
  aStore 5 v9 v7 h10 fun _ h12 =>
  aUn .not v8 fun v13 =>
  aGuard v13
  (aCall Tryz.prog (.p (.func parse_reader_fail_i [])) [x0, v4, (.p (.int .i64 2))] h12 fun _ h15 =>
  aLoad true 5 v9 h15 fun v16 =>
  aStore 5 v0 v16 h15 fun _ h18 =>
  aLoad true 5 v0 h18 fun v19 =>
  K v19 h18)
  (aLoad true 5 v9 h12 fun v20 =>
  aStore 5 v0 v20 h12 fun _ h22 =>
  aLoad true 5 v0 h22 fun v23 =>
  K v23 h22)

def parse_some_val_Value_ann : Nat → List Nat := fun _ => []

theorem parse_some_val_Value_eq (x0 x1 : AV) (H : List Ob) (r : AV) (Ho : List Ob) : aBody Tryz.prog parse_some_val_Value_ann Tryz.f156 H [x0, x1] r Ho = parse_some_val_Value x0 x1 H (fun v H' => Gives H.length v H' r Ho) := by kernel_rfl

theorem parse_some_val_Value_fnH {x0 x1 : AV} {Hin : List Ob} {r : AV} {Ho : List Ob} (h : parse_some_val_Value x0 x1 Hin (fun v H' => Gives Hin.length v H' r Ho)) : Abs.Fn Tryz.prog parse_some_val_Value_i Hin [x0, x1] r Ho :=
  fn_intro mixed parse_some_val_Value_ann (fn := Tryz.f156) (by kernel_rfl) (by kernel_rfl) (by rw [parse_some_val_Value_eq]; exact h)

theorem parse_some_val_Value_fn {x0 x1 : AV} {r : AV} {Ho : List Ob} (h : parse_some_val_Value x0 x1 [] (fun v H' => Gives 0 v H' r Ho)) : Abs.Fn Tryz.prog parse_some_val_Value_i [] [x0, x1] r Ho := parse_some_val_Value_fnH (Hin := []) h

/- runnel/parse.plain -/
def parse_plain (x0 : AV) (H : List Ob) (K : AV → List Ob → Prop) : Prop :=
  aBin false false .geq x0 (.p (.int .u8 32)) fun v0 =>
  aMerge true v0 (fun Q1 =>
  aBin false false .leq x0 (.p (.int .u8 126)) fun v2 =>
  (H = H ∧ Q1 v2)) fun v3 =>
  aMerge true v3 (fun Q4 =>
  aBin false false .neq x0 (.p (.int .u8 34)) fun v5 =>
  (H = H ∧ Q4 v5)) fun v6 =>
  aMerge true v6 (fun Q7 =>
  aBin false false .neq x0 (.p (.int .u8 92)) fun v8 =>
  (H = H ∧ Q7 v8)) fun v9 =>
  K v9 H

def parse_plain_ann : Nat → List Nat := fun _ => []

theorem parse_plain_eq (x0 : AV) (H : List Ob) (r : AV) (Ho : List Ob) : aBody Tryz.prog parse_plain_ann Tryz.f165 H [x0] r Ho = parse_plain x0 H (fun v H' => Gives H.length v H' r Ho) := by kernel_rfl

theorem parse_plain_fnH {x0 : AV} {Hin : List Ob} {r : AV} {Ho : List Ob} (h : parse_plain x0 Hin (fun v H' => Gives Hin.length v H' r Ho)) : Abs.Fn Tryz.prog parse_plain_i Hin [x0] r Ho :=
  fn_intro mixed parse_plain_ann (fn := Tryz.f165) (by kernel_rfl) (by kernel_rfl) (by rw [parse_plain_eq]; exact h)

theorem parse_plain_fn {x0 : AV} {r : AV} {Ho : List Ob} (h : parse_plain x0 [] (fun v H' => Gives 0 v H' r Ho)) : Abs.Fn Tryz.prog parse_plain_i [] [x0] r Ho := parse_plain_fnH (Hin := []) h

/- runnel/parse.half -/
def parse_half (x0 : AV) (H : List Ob) (K : AV → List Ob → Prop) : Prop :=
  aCall Tryz.prog (.p (.func strings_IndexByte_i [])) [(.p (.str [48, 49, 50, 51, 52, 53, 54, 55, 56, 57, 97, 98, 99, 100, 101, 102])), x0] H fun v0 h1 =>
  K v0 h1

def parse_half_ann : Nat → List Nat := fun _ => []

theorem parse_half_eq (x0 : AV) (H : List Ob) (r : AV) (Ho : List Ob) : aBody Tryz.prog parse_half_ann Tryz.f166 H [x0] r Ho = parse_half x0 H (fun v H' => Gives H.length v H' r Ho) := by kernel_rfl

theorem parse_half_fnH {x0 : AV} {Hin : List Ob} {r : AV} {Ho : List Ob} (h : parse_half x0 Hin (fun v H' => Gives Hin.length v H' r Ho)) : Abs.Fn Tryz.prog parse_half_i Hin [x0] r Ho :=
  fn_intro mixed parse_half_ann (fn := Tryz.f166) (by kernel_rfl) (by kernel_rfl) (by rw [parse_half_eq]; exact h)

theorem parse_half_fn {x0 : AV} {r : AV} {Ho : List Ob} (h : parse_half x0 [] (fun v H' => Gives 0 v H' r Ho)) : Abs.Fn Tryz.prog parse_half_i [] [x0] r Ho := parse_half_fnH (Hin := []) h

end Go.Proofs.YtgfnodmghaghpaaGreatDoor
end

section
/- Made by program (Gen.lean): functions of the dump, over trees. -/
set_option maxRecDepth 4000
set_option linter.unusedVariables false
namespace Go.Proofs.YtgfnodmghaghpaaGreatDoor
open Go Go.Abs

/- runnel/runnellaw5.ParseBack -/
def runnellaw5_ParseBack (x0 x1 : AV) (H : List Ob) (K : AV → List Ob → Prop) : Prop :=
  aBox x0 H fun v0 h1 =>
  aBox x1 h1 fun v2 h3 =>
  aCall Tryz.prog (.p (.func runnellaw5_known_i [])) [] h3 fun v4 h5 =>
  aUn .not v4 fun v6 =>
  aGuard v6
  (K (.p (.bool false)) h5)
  (aLoad true 8 v0 h5 fun v7 =>
  aCall Tryz.prog (.p (.func runnellaw4_Few_i [])) [v7] h5 fun v8 h9 =>
  aUn .not v8 fun v10 =>
  aGuard v10
  (K (.p (.bool true)) h9)
  (aLoad true 8 v0 h9 fun v11 =>
  aCall Tryz.prog (.p (.func runnellaw4_Of_i [])) [v11] h9 fun v12 h13 =>
  aAlloc [(.p (.str [])), (.p (.int .i64 0)), (.p (.int .i64 0)), (.p (.bool false)), (.p (.str [])), (.full []), (.p (.int .i64 0)), (.full [])] h13 fun v14 h15 =>
  aStore 8 v14 v12 h15 fun _ h17 =>
  aLoad true 8 v14 h17 fun v18 =>
  aLoad true 5 v2 h17 fun v19 =>
  aCall Tryz.prog (.p (.func runnellaw5_right_i [])) [v18, v19] h17 fun v20 h21 =>
  aUn .not v20 fun v22 =>
  aGuard v22
  (K (.p (.bool true)) h21)
  (aLoad true 8 v0 h21 fun v23 =>
  aCall Tryz.prog (.p (.func parse_Text_i [])) [v23] h21 fun v24 h25 =>
  aCall Tryz.prog (.p (.func parse_Parse_i [])) [v24] h25 fun v26 h27 =>
  aExtract v26 0 fun v28 =>
  aExtract v26 1 fun _ =>
  aExtract v26 2 fun v30 =>
  aAlloc [(.p (.str [])), (.p (.int .i64 0)), (.p (.int .i64 0)), (.p (.bool false)), (.p (.str [])), (.full []), (.p (.int .i64 0)), (.full [])] h27 fun v31 h32 =>
  aStore 8 v31 v28 h32 fun _ h34 =>
  aLoad true 8 v14 h34 fun v35 =>
  aCallT Tryz.prog (.p (.func runnelref6_ExprText_i [])) [v35] fun v36 =>
  aBin false false .eql v24 v36 fun v37 =>
  aGuard v37
  (aBin false false .eql v30 (.p (.int .i64 0)) fun v38 =>
  aGuard v38
  (aLoad true 8 v31 h34 fun v39 =>
  aCallT Tryz.prog (.p (.func runnellaw4_Of_i [])) [v39] fun v40 =>
  aLoad true 8 v14 h34 fun v41 =>
  aCallT Tryz.prog (.p (.func runnellaw5_SameExpr_i [])) [v40, v41] fun v42 =>
  K v42 h34)
  (K (.p (.bool false)) h34))
  (K (.p (.bool false)) h34))))

def runnellaw5_ParseBack_ann : Nat → List Nat := fun _ => []

theorem runnellaw5_ParseBack_eq (x0 x1 : AV) (H : List Ob) (r : AV) (Ho : List Ob) : aBody Tryz.prog runnellaw5_ParseBack_ann Tryz.f4 H [x0, x1] r Ho = runnellaw5_ParseBack x0 x1 H (fun v H' => Gives H.length v H' r Ho) := by kernel_rfl

theorem runnellaw5_ParseBack_fnH {x0 x1 : AV} {Hin : List Ob} {r : AV} {Ho : List Ob} (h : runnellaw5_ParseBack x0 x1 Hin (fun v H' => Gives Hin.length v H' r Ho)) : Abs.Fn Tryz.prog runnellaw5_ParseBack_i Hin [x0, x1] r Ho :=
  fn_intro mixed runnellaw5_ParseBack_ann (fn := Tryz.f4) (by kernel_rfl) (by kernel_rfl) (by rw [runnellaw5_ParseBack_eq]; exact h)

theorem runnellaw5_ParseBack_fn {x0 x1 : AV} {r : AV} {Ho : List Ob} (h : runnellaw5_ParseBack x0 x1 [] (fun v H' => Gives 0 v H' r Ho)) : Abs.Fn Tryz.prog runnellaw5_ParseBack_i [] [x0, x1] r Ho := runnellaw5_ParseBack_fnH (Hin := []) h

/- runnel/runnellaw5.ParseValues -/
def runnellaw5_ParseValues_J1 (j1s1 j1s2 j1s5 : AV) (H : List Ob) (K : AV → List Ob → Prop) : Prop :=
  aCall Tryz.prog (.p (.func parse_Parse_i [])) [j1s5] H fun v16 h17 =>
  aExtract v16 0 fun v18 =>
  aExtract v16 1 fun _ =>
  aExtract v16 2 fun v20 =>
  aAlloc [(.p (.str [])), (.p (.int .i64 0)), (.p (.int .i64 0)), (.p (.bool false)), (.p (.str [])), (.full []), (.p (.int .i64 0)), (.full [])] h17 fun v21 h22 =>
  aStore 8 v21 v18 h22 fun _ h24 =>
  aBin false false .neq v20 (.p (.int .i64 0)) fun v25 =>
  aMerge false v25 (fun Q26 =>
  aFieldAddr 0 v21 fun v27 =>
  aLoad false 1 v27 h24 fun v28 =>
  aBin false false .neq v28 (.p (.str [108, 105, 116])) fun v29 =>
  (h24 = h24 ∧ Q26 v29)) fun v30 =>
  aMerge false v30 (fun Q31 =>
  aFieldAddr 1 v21 fun v32 =>
  aLoad true 5 v32 h24 fun v33 =>
  aLoad true 5 j1s2 h24 fun v34 =>
  aCall Tryz.prog (.p (.func val_Same_i [])) [v33, v34] h24 fun v35 h36 =>
  aUn .not v35 fun v37 =>
  (h36 = h24 ∧ Q31 v37)) fun v38 =>
  aMerge false v38 (fun Q39 =>
  aLoad true 8 v21 h24 fun v40 =>
  aCall Tryz.prog (.p (.func parse_Text_i [])) [v40] h24 fun v41 h42 =>
  aBin false false .neq v41 j1s5 fun v43 =>
  (h42 = h24 ∧ Q39 v43)) fun v44 =>
  aGuard v44
  (K (.p (.bool false)) h24)
  (aBin false false .eql j1s1 (.p (.str [])) fun v45 =>
  aMerge false v45 (fun Q46 =>
  aFieldAddr 0 j1s2 fun v47 =>
  aLoad false 1 v47 h24 fun v48 =>
  aBin false false .eql v48 (.p (.int .i64 1)) fun v49 =>
  aMerge true v49 (fun Q50 =>
  aIndex j1s1 (.p (.int .i64 0)) fun v51 =>
  aBin false false .geq v51 (.p (.int .u8 48)) fun v52 =>
  (h24 = h24 ∧ Q50 v52)) fun v53 =>
  aMerge true v53 (fun Q54 =>
  aIndex j1s1 (.p (.int .i64 0)) fun v55 =>
  aBin false false .leq v55 (.p (.int .u8 57)) fun v56 =>
  (h24 = h24 ∧ Q54 v56)) fun v57 =>
  (h24 = h24 ∧ Q46 v57)) fun v58 =>
  aMerge false v58 (fun Q59 =>
  aFieldAddr 0 j1s2 fun v60 =>
  aLoad false 1 v60 h24 fun v61 =>
  aBin false false .eql v61 (.p (.int .i64 2)) fun v62 =>
  aMerge true v62 (fun Q63 =>
  aIndex j1s1 (.p (.int .i64 0)) fun v64 =>
  aBin false false .geq v64 (.p (.int .u8 97)) fun v65 =>
  (h24 = h24 ∧ Q63 v65)) fun v66 =>
  aMerge true v66 (fun Q67 =>
  aIndex j1s1 (.p (.int .i64 0)) fun v68 =>
  aBin false false .leq v68 (.p (.int .u8 122)) fun v69 =>
  (h24 = h24 ∧ Q67 v69)) fun v70 =>
  (h24 = h24 ∧ Q59 v70)) fun v71 =>
  aGuard v71
  (K (.p (.bool true)) h24)
  (aBin false false .add j1s5 j1s1 fun v72 =>
  aCall Tryz.prog (.p (.func parse_Parse_i [])) [v72] h24 fun v73 h74 =>
  aExtract v73 0 fun v75 =>
  aExtract v73 1 fun v76 =>
  aExtract v73 2 fun v77 =>
  aAlloc [(.p (.str [])), (.p (.int .i64 0)), (.p (.int .i64 0)), (.p (.bool false)), (.p (.str [])), (.full []), (.p (.int .i64 0)), (.full [])] h74 fun v78 h79 =>
  aStore 8 v78 v75 h79 fun _ h81 =>
  aBin false false .eql v77 (.p (.int .i64 2)) fun v82 =>
  aMerge true v82 (fun Q83 =>
  aLenS true j1s5 fun v84 =>
  aBin false false .eql v76 v84 fun v85 =>
  (h81 = h81 ∧ Q83 v85)) fun v86 =>
  K v86 h81))

def runnellaw5_ParseValues (x0 x1 : AV) (H : List Ob) (K : AV → List Ob → Prop) : Prop :=
  aBox x0 H fun v0 h1 =>
  aCall Tryz.prog (.p (.func runnellaw5_known_i [])) [] h1 fun v2 h3 =>
  aUn .not v2 fun v4 =>
  aGuard v4
  (K (.p (.bool false)) h3)
  (aLoad true 5 v0 h3 fun v5 =>
  aCall Tryz.prog (.p (.func runnellaw5_valGood_i [])) [v5] h3 fun v6 h7 =>
  aUn .not v6 fun v8 =>
  aMerge false v8 (fun Q9 =>
  aLenS true x1 fun v10 =>
  aBin false false .gtr v10 (.p (.int .i64 100)) fun v11 =>
  (h7 = h7 ∧ Q9 v11)) fun v12 =>
  aGuard v12
  (K (.p (.bool true)) h7)
  (aLoad true 5 v0 h7 fun v13 =>
  aCall Tryz.prog (.p (.func val_Text_i [])) [v13] h7 fun v14 h15 =>
  aFieldAddr 0 v0 fun v87 =>
  aLoad false 1 v87 h15 fun v88 =>
  aBin false false .eql v88 (.p (.int .i64 4)) fun v89 =>
  aGuard v89
  (aBin false false .add (.p (.str [40, 108, 105, 116, 32])) v14 fun v90 =>
  aBin false false .add v90 (.p (.str [41])) fun v91 =>
  runnellaw5_ParseValues_J1 x1 v0 v91 h15 K)
  (runnellaw5_ParseValues_J1 x1 v0 v14 h15 K)))

def runnellaw5_ParseValues_ann : Nat → List Nat := fun _ => []

theorem runnellaw5_ParseValues_eq (x0 x1 : AV) (H : List Ob) (r : AV) (Ho : List Ob) : aBody Tryz.prog runnellaw5_ParseValues_ann Tryz.f5 H [x0, x1] r Ho = runnellaw5_ParseValues x0 x1 H (fun v H' => Gives H.length v H' r Ho) := by kernel_rfl

theorem runnellaw5_ParseValues_fnH {x0 x1 : AV} {Hin : List Ob} {r : AV} {Ho : List Ob} (h : runnellaw5_ParseValues x0 x1 Hin (fun v H' => Gives Hin.length v H' r Ho)) : Abs.Fn Tryz.prog runnellaw5_ParseValues_i Hin [x0, x1] r Ho :=
  fn_intro mixed runnellaw5_ParseValues_ann (fn := Tryz.f5) (by kernel_rfl) (by kernel_rfl) (by rw [runnellaw5_ParseValues_eq]; exact h)

theorem runnellaw5_ParseValues_fn {x0 x1 : AV} {r : AV} {Ho : List Ob} (h : runnellaw5_ParseValues x0 x1 [] (fun v H' => Gives 0 v H' r Ho)) : Abs.Fn Tryz.prog runnellaw5_ParseValues_i [] [x0, x1] r Ho := runnellaw5_ParseValues_fnH (Hin := []) h

/- runnel/runnellaw5.known -/
def runnellaw5_known (H : List Ob) (K : AV → List Ob → Prop) : Prop :=
  aCall Tryz.prog (.p (.func parse_Parse_i [])) [(.p (.str [40, 105, 102, 32, 40, 108, 116, 32, 120, 32, 45, 53, 41, 32, 40, 99, 97, 116, 32, 34, 97, 92, 50, 50, 34, 32, 34, 98, 34, 41, 32, 40, 97, 116, 32, 49, 32, 40, 108, 105, 116, 32, 40, 49, 44, 34, 99, 34, 41, 41, 41, 41]))] H fun v0 h1 =>
  aExtract v0 0 fun v2 =>
  aExtract v0 1 fun _ =>
  aExtract v0 2 fun v4 =>
  aAlloc [(.p (.str [])), (.p (.int .i64 0)), (.p (.int .i64 0)), (.p (.bool false)), (.p (.str [])), (.full []), (.p (.int .i64 0)), (.full [])] h1 fun v5 h6 =>
  aStore 8 v5 v2 h6 fun _ h8 =>
  aCall Tryz.prog (.p (.func parse_Parse_i [])) [(.p (.str [40, 97, 100, 100, 32, 120, 32, 48, 53, 41]))] h8 fun v9 h10 =>
  aExtract v9 0 fun v11 =>
  aExtract v9 1 fun v12 =>
  aExtract v9 2 fun v13 =>
  aAlloc [(.p (.str [])), (.p (.int .i64 0)), (.p (.int .i64 0)), (.p (.bool false)), (.p (.str [])), (.full []), (.p (.int .i64 0)), (.full [])] h10 fun v14 h15 =>
  aStore 8 v14 v11 h15 fun _ h17 =>
  aCall Tryz.prog (.p (.func parse_Parse_i [])) [(.p (.str [120, 32, 120]))] h17 fun v18 h19 =>
  aExtract v18 0 fun v20 =>
  aExtract v18 1 fun v21 =>
  aExtract v18 2 fun v22 =>
  aAlloc [(.p (.str [])), (.p (.int .i64 0)), (.p (.int .i64 0)), (.p (.bool false)), (.p (.str [])), (.full []), (.p (.int .i64 0)), (.full [])] h19 fun v23 h24 =>
  aStore 8 v23 v20 h24 fun _ h26 =>
  aBin false false .eql v4 (.p (.int .i64 0)) fun v27 =>
  aMerge true v27 (fun Q28 =>
  aLoad true 8 v5 h26 fun v29 =>
  aCall Tryz.prog (.p (.func parse_Text_i [])) [v29] h26 fun v30 h31 =>
  aBin false false .eql v30 (.p (.str [40, 105, 102, 32, 40, 108, 116, 32, 120, 32, 45, 53, 41, 32, 40, 99, 97, 116, 32, 34, 97, 92, 50, 50, 34, 32, 34, 98, 34, 41, 32, 40, 97, 116, 32, 49, 32, 40, 108, 105, 116, 32, 40, 49, 44, 34, 99, 34, 41, 41, 41, 41])) fun v32 =>
  (h31 = h26 ∧ Q28 v32)) fun v33 =>
  aMerge true v33 (fun Q34 =>
  aFieldAddr 7 v5 fun v35 =>
  aLoad false 1 v35 h26 fun v36 =>
  aLenS false v36 fun v37 =>
  aBin false false .eql v37 (.p (.int .i64 3)) fun v38 =>
  (h26 = h26 ∧ Q34 v38)) fun v39 =>
  aMerge true v39 (fun Q40 =>
  aBin false false .eql v13 (.p (.int .i64 2)) fun v41 =>
  (h26 = h26 ∧ Q40 v41)) fun v42 =>
  aMerge true v42 (fun Q43 =>
  aBin false false .eql v12 (.p (.int .i64 7)) fun v44 =>
  (h26 = h26 ∧ Q43 v44)) fun v45 =>
  aMerge true v45 (fun Q46 =>
  aBin false false .eql v22 (.p (.int .i64 2)) fun v47 =>
  (h26 = h26 ∧ Q46 v47)) fun v48 =>
  aMerge true v48 (fun Q49 =>
  aBin false false .eql v21 (.p (.int .i64 1)) fun v50 =>
  (h26 = h26 ∧ Q49 v50)) fun v51 =>
  K v51 h26

def runnellaw5_known_ann : Nat → List Nat := fun _ => []

theorem runnellaw5_known_eq (H : List Ob) (r : AV) (Ho : List Ob) : aBody Tryz.prog runnellaw5_known_ann Tryz.f16 H [] r Ho = runnellaw5_known H (fun v H' => Gives H.length v H' r Ho) := by kernel_rfl

theorem runnellaw5_known_fnH {Hin : List Ob} {r : AV} {Ho : List Ob} (h : runnellaw5_known Hin (fun v H' => Gives Hin.length v H' r Ho)) : Abs.Fn Tryz.prog runnellaw5_known_i Hin [] r Ho :=
  fn_intro mixed runnellaw5_known_ann (fn := Tryz.f16) (by kernel_rfl) (by kernel_rfl) (by rw [runnellaw5_known_eq]; exact h)

theorem runnellaw5_known_fn {r : AV} {Ho : List Ob} (h : runnellaw5_known [] (fun v H' => Gives 0 v H' r Ho)) : Abs.Fn Tryz.prog runnellaw5_known_i [] [] r Ho := runnellaw5_known_fnH (Hin := []) h

end Go.Proofs.YtgfnodmghaghpaaGreatDoor
end
