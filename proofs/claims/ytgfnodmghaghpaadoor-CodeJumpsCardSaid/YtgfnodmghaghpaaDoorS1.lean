/- Made by program (Gen.lean): the functions' numbers. -/
import Derived.Test.YtgfnodmghaghpaaDoorProg
import Derived.KernelRfl
import Derived.Test.YtgfnodmghaghpaaDoorA3

section
/- Made by program (Gen.lean): the functions' numbers. -/
namespace Go.Proofs.YtgfnodmghaghpaaDoor
open Go Go.Abs

theorem mixed : Tryd.prog.follows .mixedOrders = true := by kernel_rfl

abbrev main_main_i : Nat := 0
abbrev gosem_cut_i : Nat := 1
abbrev gosem_cut_init_i : Nat := 2
abbrev runnellaw11_CodeJumps_i : Nat := 3
abbrev runnellaw11_CodePush_i : Nat := 4
abbrev runnellaw11_known_i : Nat := 5
abbrev code_Check_i : Nat := 6
abbrev val_Tup_i : Nat := 7
abbrev val_Int_i : Nat := 8
abbrev val_Str_i : Nat := 9
abbrev code_Encode_i : Nat := 10
abbrev code_Decode_i : Nat := 11
abbrev code_Text_i : Nat := 12
abbrev val_Same_i : Nat := 13
abbrev val_Text_i : Nat := 14
abbrev code_Inst_check_i : Nat := 15
abbrev slices_Clip_val_Value_val_Value_i : Nat := 16
abbrev slices_Clone_val_Value_val_Value_i : Nat := 17
abbrev code_ops_i : Nat := 18
abbrev wire_PutNum_i : Nat := 19
abbrev code_place_code_form_i : Nat := 20
abbrev wire_Put_i : Nat := 21
abbrev code_reader_num_i : Nat := 22
abbrev code_reader_inst_i : Nat := 23
abbrev strconv_Itoa_i : Nat := 24
abbrev val_Compare_i : Nat := 25
abbrev strconv_FormatInt_i : Nat := 26
abbrev strconv_FormatBool_i : Nat := 27
abbrev val_quote_i : Nat := 28
abbrev strings_Join_i : Nat := 29
abbrev val_Check_i : Nat := 30
abbrev code_Inst_right_i : Nat := 31
abbrev strings_Fields_i : Nat := 32
abbrev wire_PutText_i : Nat := 33
abbrev code_field_int_i : Nat := 34
abbrev code_reader_num_1_i : Nat := 35
abbrev wire_Reader_Uint_i : Nat := 36
abbrev wire_Reader_Fail_i : Nat := 37
abbrev code_reader_inst_1_i : Nat := 38
abbrev wire_Reader_Byte_i : Nat := 39
abbrev code_field_val_Value_i : Nat := 40
abbrev wire_Reader_Val_i : Nat := 41
abbrev internal_strconv_Itoa_i : Nat := 42
abbrev cmp_Or_int_i : Nat := 43
abbrev cmp_Compare_int_i : Nat := 44
abbrev cmp_Compare_int64_i : Nat := 45
abbrev val_truth_i : Nat := 46
abbrev strings_Compare_i : Nat := 47
abbrev val_rows_val_Value_i : Nat := 48
abbrev internal_strconv_FormatInt_i : Nat := 49
abbrev internal_strconv_FormatBool_i : Nat := 50
abbrev strings_Builder_Grow_i : Nat := 51
abbrev strings_Builder_WriteString_i : Nat := 52
abbrev strings_Builder_String_i : Nat := 53
abbrev val_check_i : Nat := 54
abbrev strings_FieldsFunc_i : Nat := 55
abbrev unicode_IsSpace_i : Nat := 56
abbrev wire_field_uint64_i : Nat := 57
abbrev wire_Num_i : Nat := 58
abbrev wire_field_byte_i : Nat := 59
abbrev wire_one_i : Nat := 60
abbrev wire_field_val_Value_i : Nat := 61
abbrev wire_Get_i : Nat := 62
abbrev cmp_isNaN_int_i : Nat := 63
abbrev cmp_isNaN_int64_i : Nat := 64
abbrev internal_bytealg_CompareString_i : Nat := 65
abbrev slices_CompareFunc_val_Value_val_Value_val_Value_val_Value_i : Nat := 66
abbrev internal_strconv_small_i : Nat := 67
abbrev internal_strconv_numDigits_i : Nat := 68
abbrev internal_strconv_formatBase10_i : Nat := 69
abbrev internal_strconv_formatBits_i : Nat := 70
abbrev strings_Builder_copyCheck_i : Nat := 71
abbrev strings_Builder_grow_i : Nat := 72
abbrev val_spare_i : Nat := 73
abbrev typ_Row_i : Nat := 74
abbrev unicode_isExcludingLatin_i : Nat := 75
abbrev wire_Reader_value_i : Nat := 76
abbrev internal_bytealg_abigen_runtime_cmpstring_i : Nat := 77
abbrev internal_strconv_log10Pow2_i : Nat := 78
abbrev math_bits_Len64_i : Nat := 79
abbrev internal_strconv_bool2_int_i : Nat := 80
abbrev internal_strconv_isPowerOfTwo_i : Nat := 81
abbrev math_bits_TrailingZeros_i : Nat := 82
abbrev internal_abi_NoEscape_i : Nat := 83
abbrev internal_bytealg_MakeNoZero_i : Nat := 84
abbrev unicode_is16_i : Nat := 85
abbrev unicode_is32_i : Nat := 86
abbrev val_Bool_i : Nat := 87
abbrev wire_field_string_i : Nat := 88
abbrev wire_text_i : Nat := 89
abbrev math_bits_TrailingZeros32_i : Nat := 90
abbrev math_bits_TrailingZeros64_i : Nat := 91
abbrev wire_text_1_i : Nat := 92
abbrev runtime_boundsError_Error_i : Nat := 93
abbrev runtime_boundsError_RuntimeError_i : Nat := 94
abbrev runtime_errorString_Error_i : Nat := 95
abbrev runtime_errorString_RuntimeError_i : Nat := 96
abbrev runtime_plainError_Error_i : Nat := 97
abbrev runtime_plainError_RuntimeError_i : Nat := 98
abbrev runtime_errorAddressString_Error_i : Nat := 99
abbrev runtime_errorAddressString_RuntimeError_i : Nat := 100
abbrev runtime_TypeAssertionError_Error_i : Nat := 101
abbrev runtime_TypeAssertionError_RuntimeError_i : Nat := 102
abbrev runtime_PanicNilError_Error_i : Nat := 103
abbrev runtime_PanicNilError_RuntimeError_i : Nat := 104
abbrev internal_abi_Type_Align_i : Nat := 105
abbrev internal_runtime_maps_unhashableTypeError_Error_i : Nat := 106
abbrev internal_runtime_maps_unhashableTypeError_RuntimeError_i : Nat := 107
abbrev api_Errno_Error_i : Nat := 108
abbrev strings_Builder_Reset_i : Nat := 109
abbrev internal_abi_Kind_String_i : Nat := 110
abbrev gosem_cut_vars_i : Nat := 121

end Go.Proofs.YtgfnodmghaghpaaDoor
end

section
/- Made by program (Gen.lean): functions of the dump, over trees. -/
set_option maxRecDepth 4000
set_option linter.unusedVariables false
namespace Go.Proofs.YtgfnodmghaghpaaDoor
open Go Go.Abs

/- runnel/typ.Row -/
def typ_Row (x0 x1 : AV) (H : List Ob) (K : AV → List Ob → Prop) : Prop :=
  aBin false false .eql x0 (.p (.int .i64 0)) fun v0 =>
  aGuard v0
  (K (.p (.int .i64 1)) H)
  (aBin false false .gtr x0 (.p (.int .i64 8)) fun v1 =>
  aGuard v1
  (K (.p (.int .i64 10)) H)
  (aBin false false .gtr x1 (.p (.int .i64 4)) fun v2 =>
  aGuard v2
  (K (.p (.int .i64 9)) H)
  (K (.p (.int .i64 0)) H)))

def typ_Row_ann : Nat → List Nat := fun _ => []

theorem typ_Row_eq (x0 x1 : AV) (H : List Ob) (r : AV) (Ho : List Ob) : aBody Tryd.prog typ_Row_ann Tryd.f74 H [x0, x1] r Ho = typ_Row x0 x1 H (fun v H' => Gives H.length v H' r Ho) := by kernel_rfl

theorem typ_Row_fnH {x0 x1 : AV} {Hin : List Ob} {r : AV} {Ho : List Ob} (h : typ_Row x0 x1 Hin (fun v H' => Gives Hin.length v H' r Ho)) : Abs.Fn Tryd.prog typ_Row_i Hin [x0, x1] r Ho :=
  fn_intro mixed typ_Row_ann (fn := Tryd.f74) (by kernel_rfl) (by kernel_rfl) (by rw [typ_Row_eq]; exact h)

theorem typ_Row_fn {x0 x1 : AV} {r : AV} {Ho : List Ob} (h : typ_Row x0 x1 [] (fun v H' => Gives 0 v H' r Ho)) : Abs.Fn Tryd.prog typ_Row_i [] [x0, x1] r Ho := typ_Row_fnH (Hin := []) h

end Go.Proofs.YtgfnodmghaghpaaDoor
end

section
/- Made by program (Gen.lean): functions of the dump, over trees. -/
set_option maxRecDepth 4000
set_option linter.unusedVariables false
namespace Go.Proofs.YtgfnodmghaghpaaDoor
open Go Go.Abs

/- runnel/val.Tup -/
def val_Tup (x0 : AV) (H : List Ob) (K : AV → List Ob → Prop) : Prop :=
  aAlloc [(.p (.int .i64 0)), (.p (.int .i64 0)), (.p (.bool false)), (.p (.str [])), (.full [])] H fun v0 h1 =>
  aCall Tryd.prog (.p (.func slices_Clone_val_Value_val_Value_i [])) [x0] h1 fun v2 h3 =>
  aCall Tryd.prog (.p (.func slices_Clip_val_Value_val_Value_i [])) [v2] h3 fun v4 h5 =>
  aBuild [(.p (.int .i64 0)), (.p (.int .i64 0)), (.p (.bool false)), (.p (.str [])), (.full [])] [(0, 1, (.p (.int .i64 4))), (4, 1, v4)] fun v6 =>
  aStore 5 v0 v6 h5 fun _ h8 =>
  aLoad true 5 v0 h8 fun v9 =>
  K v9 h8

def val_Tup_ann : Nat → List Nat := fun _ => []

theorem val_Tup_eq (x0 : AV) (H : List Ob) (r : AV) (Ho : List Ob) : aBody Tryd.prog val_Tup_ann Tryd.f7 H [x0] r Ho = val_Tup x0 H (fun v H' => Gives H.length v H' r Ho) := by kernel_rfl

theorem val_Tup_fnH {x0 : AV} {Hin : List Ob} {r : AV} {Ho : List Ob} (h : val_Tup x0 Hin (fun v H' => Gives Hin.length v H' r Ho)) : Abs.Fn Tryd.prog val_Tup_i Hin [x0] r Ho :=
  fn_intro mixed val_Tup_ann (fn := Tryd.f7) (by kernel_rfl) (by kernel_rfl) (by rw [val_Tup_eq]; exact h)

theorem val_Tup_fn {x0 : AV} {r : AV} {Ho : List Ob} (h : val_Tup x0 [] (fun v H' => Gives 0 v H' r Ho)) : Abs.Fn Tryd.prog val_Tup_i [] [x0] r Ho := val_Tup_fnH (Hin := []) h

/- runnel/val.Int -/
def val_Int (x0 : AV) (H : List Ob) (K : AV → List Ob → Prop) : Prop :=
  aAlloc [(.p (.int .i64 0)), (.p (.int .i64 0)), (.p (.bool false)), (.p (.str [])), (.full [])] H fun v0 h1 =>
  aBuild [(.p (.int .i64 0)), (.p (.int .i64 0)), (.p (.bool false)), (.p (.str [])), (.full [])] [(0, 1, (.p (.int .i64 1))), (1, 1, x0)] fun v2 =>
  aStore 5 v0 v2 h1 fun _ h4 =>
  aLoad true 5 v0 h4 fun v5 =>
  K v5 h4

def val_Int_ann : Nat → List Nat := fun _ => []

theorem val_Int_eq (x0 : AV) (H : List Ob) (r : AV) (Ho : List Ob) : aBody Tryd.prog val_Int_ann Tryd.f8 H [x0] r Ho = val_Int x0 H (fun v H' => Gives H.length v H' r Ho) := by kernel_rfl

theorem val_Int_fnH {x0 : AV} {Hin : List Ob} {r : AV} {Ho : List Ob} (h : val_Int x0 Hin (fun v H' => Gives Hin.length v H' r Ho)) : Abs.Fn Tryd.prog val_Int_i Hin [x0] r Ho :=
  fn_intro mixed val_Int_ann (fn := Tryd.f8) (by kernel_rfl) (by kernel_rfl) (by rw [val_Int_eq]; exact h)

theorem val_Int_fn {x0 : AV} {r : AV} {Ho : List Ob} (h : val_Int x0 [] (fun v H' => Gives 0 v H' r Ho)) : Abs.Fn Tryd.prog val_Int_i [] [x0] r Ho := val_Int_fnH (Hin := []) h

/- runnel/val.Str -/
def val_Str (x0 : AV) (H : List Ob) (K : AV → List Ob → Prop) : Prop :=
  aAlloc [(.p (.int .i64 0)), (.p (.int .i64 0)), (.p (.bool false)), (.p (.str [])), (.full [])] H fun v0 h1 =>
  aBuild [(.p (.int .i64 0)), (.p (.int .i64 0)), (.p (.bool false)), (.p (.str [])), (.full [])] [(0, 1, (.p (.int .i64 3))), (3, 1, x0)] fun v2 =>
  aStore 5 v0 v2 h1 fun _ h4 =>
  aLoad true 5 v0 h4 fun v5 =>
  K v5 h4

def val_Str_ann : Nat → List Nat := fun _ => []

theorem val_Str_eq (x0 : AV) (H : List Ob) (r : AV) (Ho : List Ob) : aBody Tryd.prog val_Str_ann Tryd.f9 H [x0] r Ho = val_Str x0 H (fun v H' => Gives H.length v H' r Ho) := by kernel_rfl

theorem val_Str_fnH {x0 : AV} {Hin : List Ob} {r : AV} {Ho : List Ob} (h : val_Str x0 Hin (fun v H' => Gives Hin.length v H' r Ho)) : Abs.Fn Tryd.prog val_Str_i Hin [x0] r Ho :=
  fn_intro mixed val_Str_ann (fn := Tryd.f9) (by kernel_rfl) (by kernel_rfl) (by rw [val_Str_eq]; exact h)

theorem val_Str_fn {x0 : AV} {r : AV} {Ho : List Ob} (h : val_Str x0 [] (fun v H' => Gives 0 v H' r Ho)) : Abs.Fn Tryd.prog val_Str_i [] [x0] r Ho := val_Str_fnH (Hin := []) h

/- runnel/val.Same -/
def val_Same (x0 x1 : AV) (H : List Ob) (K : AV → List Ob → Prop) : Prop :=
  aBox x0 H fun v0 h1 =>
  aBox x1 h1 fun v2 h3 =>
  aLoad true 5 v0 h3 fun v4 =>
  aLoad true 5 v2 h3 fun v5 =>
  aCall Tryd.prog (.p (.func val_Compare_i [])) [v4, v5] h3 fun v6 h7 =>
  aBin false false .eql v6 (.p (.int .i64 0)) fun v8 =>
  K v8 h7

def val_Same_ann : Nat → List Nat := fun _ => []

theorem val_Same_eq (x0 x1 : AV) (H : List Ob) (r : AV) (Ho : List Ob) : aBody Tryd.prog val_Same_ann Tryd.f13 H [x0, x1] r Ho = val_Same x0 x1 H (fun v H' => Gives H.length v H' r Ho) := by kernel_rfl

theorem val_Same_fnH {x0 x1 : AV} {Hin : List Ob} {r : AV} {Ho : List Ob} (h : val_Same x0 x1 Hin (fun v H' => Gives Hin.length v H' r Ho)) : Abs.Fn Tryd.prog val_Same_i Hin [x0, x1] r Ho :=
  fn_intro mixed val_Same_ann (fn := Tryd.f13) (by kernel_rfl) (by kernel_rfl) (by rw [val_Same_eq]; exact h)

theorem val_Same_fn {x0 x1 : AV} {r : AV} {Ho : List Ob} (h : val_Same x0 x1 [] (fun v H' => Gives 0 v H' r Ho)) : Abs.Fn Tryd.prog val_Same_i [] [x0, x1] r Ho := val_Same_fnH (Hin := []) h

/- runnel/val.Text -/
def val_Text_L1 (q1s24 q1s25 y0 y1 : AV) (H : List Ob) (B1 : List AV → List Ob → Prop) (K : AV → List Ob → Prop) : Prop :=
  aBin false false .lss y1 q1s25 fun v22 =>
  aGuard v22
  (aIndexAddr 5 q1s24 y1 fun v23 =>
  aLoad true 5 v23 H fun v24 =>
  aAlloc [(.p (.int .i64 0)), (.p (.int .i64 0)), (.p (.bool false)), (.p (.str [])), (.full [])] H fun v25 h26 =>
  aStore 5 v25 v24 h26 fun _ h28 =>
  aLoad true 5 v25 h28 fun v29 =>
  aCall Tryd.prog (.p (.func val_Text_i [])) [v29] h28 fun v30 h31 =>
  aBuildSlice 1 [v30] fun v32 =>
  aAppend false 1 16 y0 v32 h31 fun v33 h34 =>
  aBin false false .add y1 (.p (.int .i64 1)) fun v35 =>
  B1 [v33, v35] h34)
  (aCall Tryd.prog (.p (.func strings_Join_i [])) [y0, (.p (.str [44]))] H fun v36 h37 =>
  aBin false false .add (.p (.str [40])) v36 fun v38 =>
  aBin false false .add v38 (.p (.str [41])) fun v39 =>
  K v39 h37)

def val_Text (x0 : AV) (H : List Ob) (K : AV → List Ob → Prop) : Prop :=
  aBox x0 H fun v0 h1 =>
  aFieldAddr 0 v0 fun v2 =>
  aLoad false 1 v2 h1 fun v3 =>
  aBin false false .eql v3 (.p (.int .i64 1)) fun v4 =>
  aGuard v4
  (aFieldAddr 1 v0 fun v5 =>
  aLoad false 1 v5 h1 fun v6 =>
  aCall Tryd.prog (.p (.func strconv_FormatInt_i [])) [v6, (.p (.int .i64 10))] h1 fun v7 h8 =>
  K v7 h8)
  (aBin false false .eql v3 (.p (.int .i64 2)) fun v9 =>
  aGuard v9
  (aFieldAddr 2 v0 fun v10 =>
  aLoad false 1 v10 h1 fun v11 =>
  aCall Tryd.prog (.p (.func strconv_FormatBool_i [])) [v11] h1 fun v12 h13 =>
  K v12 h13)
  (aBin false false .eql v3 (.p (.int .i64 3)) fun v14 =>
  aGuard v14
  (aFieldAddr 3 v0 fun v15 =>
  aLoad false 1 v15 h1 fun v16 =>
  aCall Tryd.prog (.p (.func val_quote_i [])) [v16] h1 fun v17 h18 =>
  K v17 h18)
  (aFieldAddr 4 v0 fun v19 =>
  aLoad false 1 v19 h1 fun v20 =>
  aLen false false v20 fun v21 =>
  aLoopN 2 [(.full []), (.p (.int .i64 0))] h1 fun xs H B1 => val_Text_L1 v20 v21 (xs.getD 0 .top) (xs.getD 1 .top) H B1 K)))

def val_Text_ann : Nat → List Nat := fun k => match k with | 10 => [3, 26] | _ => []

theorem val_Text_eq (x0 : AV) (H : List Ob) (r : AV) (Ho : List Ob) : aBody Tryd.prog val_Text_ann Tryd.f14 H [x0] r Ho = val_Text x0 H (fun v H' => Gives H.length v H' r Ho) := by kernel_rfl

theorem val_Text_fnH {x0 : AV} {Hin : List Ob} {r : AV} {Ho : List Ob} (h : val_Text x0 Hin (fun v H' => Gives Hin.length v H' r Ho)) : Abs.Fn Tryd.prog val_Text_i Hin [x0] r Ho :=
  fn_intro mixed val_Text_ann (fn := Tryd.f14) (by kernel_rfl) (by kernel_rfl) (by rw [val_Text_eq]; exact h)

theorem val_Text_fn {x0 : AV} {r : AV} {Ho : List Ob} (h : val_Text x0 [] (fun v H' => Gives 0 v H' r Ho)) : Abs.Fn Tryd.prog val_Text_i [] [x0] r Ho := val_Text_fnH (Hin := []) h

/- slices.Clip[[]runnel/val.Value,runnel/val.Value] -/
def slices_Clip_val_Value_val_Value (x0 : AV) (H : List Ob) (K : AV → List Ob → Prop) : Prop :=
  aLen false false x0 fun v0 =>
  aLen false false x0 fun v1 =>
  aSlice false 5 x0 none (some v0) (some v1) fun v2 =>
  K v2 H

def slices_Clip_val_Value_val_Value_ann : Nat → List Nat := fun _ => []

theorem slices_Clip_val_Value_val_Value_eq (x0 : AV) (H : List Ob) (r : AV) (Ho : List Ob) : aBody Tryd.prog slices_Clip_val_Value_val_Value_ann Tryd.f16 H [x0] r Ho = slices_Clip_val_Value_val_Value x0 H (fun v H' => Gives H.length v H' r Ho) := by kernel_rfl

theorem slices_Clip_val_Value_val_Value_fnH {x0 : AV} {Hin : List Ob} {r : AV} {Ho : List Ob} (h : slices_Clip_val_Value_val_Value x0 Hin (fun v H' => Gives Hin.length v H' r Ho)) : Abs.Fn Tryd.prog slices_Clip_val_Value_val_Value_i Hin [x0] r Ho :=
  fn_intro mixed slices_Clip_val_Value_val_Value_ann (fn := Tryd.f16) (by kernel_rfl) (by kernel_rfl) (by rw [slices_Clip_val_Value_val_Value_eq]; exact h)

theorem slices_Clip_val_Value_val_Value_fn {x0 : AV} {r : AV} {Ho : List Ob} (h : slices_Clip_val_Value_val_Value x0 [] (fun v H' => Gives 0 v H' r Ho)) : Abs.Fn Tryd.prog slices_Clip_val_Value_val_Value_i [] [x0] r Ho := slices_Clip_val_Value_val_Value_fnH (Hin := []) h

/- slices.Clone[[]runnel/val.Value,runnel/val.Value] -/
def slices_Clone_val_Value_val_Value (x0 : AV) (H : List Ob) (K : AV → List Ob → Prop) : Prop :=
  aNil true .eql x0 fun v0 =>
  aGuard v0
  (K (.full []) H)
  (aBuildSlice 5 [] fun v1 =>
  aAppend false 5 64 v1 x0 H fun v2 h3 =>
  K v2 h3)

def slices_Clone_val_Value_val_Value_ann : Nat → List Nat := fun _ => []

theorem slices_Clone_val_Value_val_Value_eq (x0 : AV) (H : List Ob) (r : AV) (Ho : List Ob) : aBody Tryd.prog slices_Clone_val_Value_val_Value_ann Tryd.f17 H [x0] r Ho = slices_Clone_val_Value_val_Value x0 H (fun v H' => Gives H.length v H' r Ho) := by kernel_rfl

theorem slices_Clone_val_Value_val_Value_fnH {x0 : AV} {Hin : List Ob} {r : AV} {Ho : List Ob} (h : slices_Clone_val_Value_val_Value x0 Hin (fun v H' => Gives Hin.length v H' r Ho)) : Abs.Fn Tryd.prog slices_Clone_val_Value_val_Value_i Hin [x0] r Ho :=
  fn_intro mixed slices_Clone_val_Value_val_Value_ann (fn := Tryd.f17) (by kernel_rfl) (by kernel_rfl) (by rw [slices_Clone_val_Value_val_Value_eq]; exact h)

theorem slices_Clone_val_Value_val_Value_fn {x0 : AV} {r : AV} {Ho : List Ob} (h : slices_Clone_val_Value_val_Value x0 [] (fun v H' => Gives 0 v H' r Ho)) : Abs.Fn Tryd.prog slices_Clone_val_Value_val_Value_i [] [x0] r Ho := slices_Clone_val_Value_val_Value_fnH (Hin := []) h

/- runnel/val.Compare -/
def val_Compare (x0 x1 : AV) (H : List Ob) (K : AV → List Ob → Prop) : Prop :=
  aBox x0 H fun v0 h1 =>
  aBox x1 h1 fun v2 h3 =>
  aFieldAddr 0 v0 fun v4 =>
  aLoad false 1 v4 h3 fun v5 =>
  aFieldAddr 0 v2 fun v6 =>
  aLoad false 1 v6 h3 fun v7 =>
  aCallT Tryd.prog (.p (.func cmp_Compare_int_i [])) [v5, v7] fun v8 =>
  aFieldAddr 1 v0 fun v9 =>
  aLoad false 1 v9 h3 fun v10 =>
  aFieldAddr 1 v2 fun v11 =>
  aLoad false 1 v11 h3 fun v12 =>
  aCallT Tryd.prog (.p (.func cmp_Compare_int64_i [])) [v10, v12] fun v13 =>
  aFieldAddr 2 v0 fun v14 =>
  aLoad false 1 v14 h3 fun v15 =>
  aCallT Tryd.prog (.p (.func val_truth_i [])) [v15] fun v16 =>
  aFieldAddr 2 v2 fun v17 =>
  aLoad false 1 v17 h3 fun v18 =>
  aCallT Tryd.prog (.p (.func val_truth_i [])) [v18] fun v19 =>
  aCallT Tryd.prog (.p (.func cmp_Compare_int_i [])) [v16, v19] fun v20 =>
  aFieldAddr 3 v0 fun v21 =>
  aLoad false 1 v21 h3 fun v22 =>
  aFieldAddr 3 v2 fun v23 =>
  aLoad false 1 v23 h3 fun v24 =>
  aCallT Tryd.prog (.p (.func strings_Compare_i [])) [v22, v24] fun v25 =>
  aBuildSlice 1 [v8, v13, v20, v25] fun v26 =>
  aCallT Tryd.prog (.p (.func cmp_Or_int_i [])) [v26] fun v27 =>
  aBin false false .neq v27 (.p (.int .i64 0)) fun v28 =>
  aGuard v28
  (K v27 h3)
  (aFieldAddr 4 v0 fun v29 =>
  aLoad false 1 v29 h3 fun v30 =>
  aFieldAddr 4 v2 fun v31 =>
  aLoad false 1 v31 h3 fun v32 =>
  aCall Tryd.prog (.p (.func val_rows_val_Value_i [])) [v30, v32, (.p (.func val_Compare_i []))] h3 fun v33 h34 =>
  K v33 h34)

def val_Compare_ann : Nat → List Nat := fun _ => []

theorem val_Compare_eq (x0 x1 : AV) (H : List Ob) (r : AV) (Ho : List Ob) : aBody Tryd.prog val_Compare_ann Tryd.f25 H [x0, x1] r Ho = val_Compare x0 x1 H (fun v H' => Gives H.length v H' r Ho) := by kernel_rfl

theorem val_Compare_fnH {x0 x1 : AV} {Hin : List Ob} {r : AV} {Ho : List Ob} (h : val_Compare x0 x1 Hin (fun v H' => Gives Hin.length v H' r Ho)) : Abs.Fn Tryd.prog val_Compare_i Hin [x0, x1] r Ho :=
  fn_intro mixed val_Compare_ann (fn := Tryd.f25) (by kernel_rfl) (by kernel_rfl) (by rw [val_Compare_eq]; exact h)

theorem val_Compare_fn {x0 x1 : AV} {r : AV} {Ho : List Ob} (h : val_Compare x0 x1 [] (fun v H' => Gives 0 v H' r Ho)) : Abs.Fn Tryd.prog val_Compare_i [] [x0, x1] r Ho := val_Compare_fnH (Hin := []) h

/- strconv.FormatBool -/
def strconv_FormatBool (x0 : AV) (H : List Ob) (K : AV → List Ob → Prop) : Prop :=
  aCall Tryd.prog (.p (.func internal_strconv_FormatBool_i [])) [x0] H fun v0 h1 =>
  K v0 h1

def strconv_FormatBool_ann : Nat → List Nat := fun _ => []

theorem strconv_FormatBool_eq (x0 : AV) (H : List Ob) (r : AV) (Ho : List Ob) : aBody Tryd.prog strconv_FormatBool_ann Tryd.f27 H [x0] r Ho = strconv_FormatBool x0 H (fun v H' => Gives H.length v H' r Ho) := by kernel_rfl

theorem strconv_FormatBool_fnH {x0 : AV} {Hin : List Ob} {r : AV} {Ho : List Ob} (h : strconv_FormatBool x0 Hin (fun v H' => Gives Hin.length v H' r Ho)) : Abs.Fn Tryd.prog strconv_FormatBool_i Hin [x0] r Ho :=
  fn_intro mixed strconv_FormatBool_ann (fn := Tryd.f27) (by kernel_rfl) (by kernel_rfl) (by rw [strconv_FormatBool_eq]; exact h)

theorem strconv_FormatBool_fn {x0 : AV} {r : AV} {Ho : List Ob} (h : strconv_FormatBool x0 [] (fun v H' => Gives 0 v H' r Ho)) : Abs.Fn Tryd.prog strconv_FormatBool_i [] [x0] r Ho := strconv_FormatBool_fnH (Hin := []) h

/- runnel/val.quote -/
def val_quote_L1 (q1s8 q1s9 y0 y1 : AV) (H : List Ob) (B1 : List AV → List Ob → Prop) (K : AV → List Ob → Prop) : Prop :=
  aBin false false .lss y1 q1s9 fun v3 =>
  aGuard v3
  (aIndexAddr 1 q1s8 y1 fun v4 =>
  aLoad false 1 v4 H fun v5 =>
  aBin false false .lss v5 (.p (.int .u8 32)) fun v6 =>
  aMerge false v6 (fun Q7 =>
  aBin false false .gtr v5 (.p (.int .u8 126)) fun v8 =>
  (H = H ∧ Q7 v8)) fun v9 =>
  aMerge false v9 (fun Q10 =>
  aBin false false .eql v5 (.p (.int .u8 34)) fun v11 =>
  (H = H ∧ Q10 v11)) fun v12 =>
  aMerge false v12 (fun Q13 =>
  aBin false false .eql v5 (.p (.int .u8 92)) fun v14 =>
  (H = H ∧ Q13 v14)) fun v15 =>
  aGuard v15
  (aBin false false .shr v5 (.p (.int .u64 4)) fun v16 =>
  aIndex (.p (.str [48, 49, 50, 51, 52, 53, 54, 55, 56, 57, 97, 98, 99, 100, 101, 102])) v16 fun v17 =>
  aBin false false .and v5 (.p (.int .u8 15)) fun v18 =>
  aIndex (.p (.str [48, 49, 50, 51, 52, 53, 54, 55, 56, 57, 97, 98, 99, 100, 101, 102])) v18 fun v19 =>
  aBuildSlice 1 [(.p (.int .u8 92)), v17, v19] fun v20 =>
  aCalm [y0, v20] <|
  aAppend false 1 1 y0 v20 H fun v21 h22 =>
  aBin false false .add y1 (.p (.int .i64 1)) fun v23 =>
  B1 [v21, v23] h22)
  (aBuildSlice 1 [v5] fun v24 =>
  aAppend false 1 1 y0 v24 H fun v25 h26 =>
  aBin false false .add y1 (.p (.int .i64 1)) fun v27 =>
  B1 [v25, v27] h26))
  (aBuildSlice 1 [(.p (.int .u8 34))] fun v28 =>
  aAppend false 1 1 y0 v28 H fun v29 h30 =>
  aBytesStr v29 fun v31 =>
  K v31 h30)

def val_quote (x0 : AV) (H : List Ob) (K : AV → List Ob → Prop) : Prop :=
  aBuildSlice 1 [(.p (.int .u8 34))] fun v0 =>
  aStrBytes x0 fun v1 =>
  aLen false false v1 fun v2 =>
  aLoopN 2 [v0, (.p (.int .i64 0))] H fun xs H B1 => val_quote_L1 v1 v2 (xs.getD 0 .top) (xs.getD 1 .top) H B1 K

def val_quote_ann : Nat → List Nat := fun k => match k with | 3 => [3, 10] | _ => []

theorem val_quote_eq (x0 : AV) (H : List Ob) (r : AV) (Ho : List Ob) : aBody Tryd.prog val_quote_ann Tryd.f28 H [x0] r Ho = val_quote x0 H (fun v H' => Gives H.length v H' r Ho) := by kernel_rfl

theorem val_quote_fnH {x0 : AV} {Hin : List Ob} {r : AV} {Ho : List Ob} (h : val_quote x0 Hin (fun v H' => Gives Hin.length v H' r Ho)) : Abs.Fn Tryd.prog val_quote_i Hin [x0] r Ho :=
  fn_intro mixed val_quote_ann (fn := Tryd.f28) (by kernel_rfl) (by kernel_rfl) (by rw [val_quote_eq]; exact h)

theorem val_quote_fn {x0 : AV} {r : AV} {Ho : List Ob} (h : val_quote x0 [] (fun v H' => Gives 0 v H' r Ho)) : Abs.Fn Tryd.prog val_quote_i [] [x0] r Ho := val_quote_fnH (Hin := []) h

/- runnel/val.Check -/
def val_Check (x0 : AV) (H : List Ob) (K : AV → List Ob → Prop) : Prop :=
  aBox x0 H fun v0 h1 =>
  aLoad true 5 v0 h1 fun v2 =>
  aCall Tryd.prog (.p (.func val_check_i [])) [v2, (.p (.int .i64 0))] h1 fun v3 h4 =>
  K v3 h4

def val_Check_ann : Nat → List Nat := fun _ => []

theorem val_Check_eq (x0 : AV) (H : List Ob) (r : AV) (Ho : List Ob) : aBody Tryd.prog val_Check_ann Tryd.f30 H [x0] r Ho = val_Check x0 H (fun v H' => Gives H.length v H' r Ho) := by kernel_rfl

theorem val_Check_fnH {x0 : AV} {Hin : List Ob} {r : AV} {Ho : List Ob} (h : val_Check x0 Hin (fun v H' => Gives Hin.length v H' r Ho)) : Abs.Fn Tryd.prog val_Check_i Hin [x0] r Ho :=
  fn_intro mixed val_Check_ann (fn := Tryd.f30) (by kernel_rfl) (by kernel_rfl) (by rw [val_Check_eq]; exact h)

theorem val_Check_fn {x0 : AV} {r : AV} {Ho : List Ob} (h : val_Check x0 [] (fun v H' => Gives 0 v H' r Ho)) : Abs.Fn Tryd.prog val_Check_i [] [x0] r Ho := val_Check_fnH (Hin := []) h

/- cmp.Or[int] -/
def cmp_Or_int_L1 (q1s3 q1s6 q1s7 y0 : AV) (H : List Ob) (B1 : List AV → List Ob → Prop) (K : AV → List Ob → Prop) : Prop :=
  aBin false false .lss y0 q1s7 fun v1 =>
  aGuard v1
  (aIndexAddr 1 q1s6 y0 fun v2 =>
  aLoad false 1 v2 H fun v3 =>
  aBin false false .neq v3 q1s3 fun v4 =>
  aGuard v4
  (K v3 H)
  (aBin false false .add y0 (.p (.int .i64 1)) fun v5 =>
  B1 [v5] H))
  (K q1s3 H)

def cmp_Or_int (x0 : AV) (H : List Ob) (K : AV → List Ob → Prop) : Prop :=
  aLen false false x0 fun v0 =>
  aLoopN 1 [(.p (.int .i64 0))] H fun xs H B1 => cmp_Or_int_L1 (.p (.int .i64 0)) x0 v0 (xs.getD 0 .top) H B1 K

def cmp_Or_int_ann : Nat → List Nat := fun k => match k with | 3 => [8] | _ => []

theorem cmp_Or_int_eq (x0 : AV) (H : List Ob) (r : AV) (Ho : List Ob) : aBody Tryd.prog cmp_Or_int_ann Tryd.f43 H [x0] r Ho = cmp_Or_int x0 H (fun v H' => Gives H.length v H' r Ho) := by kernel_rfl

theorem cmp_Or_int_fnH {x0 : AV} {Hin : List Ob} {r : AV} {Ho : List Ob} (h : cmp_Or_int x0 Hin (fun v H' => Gives Hin.length v H' r Ho)) : Abs.Fn Tryd.prog cmp_Or_int_i Hin [x0] r Ho :=
  fn_intro mixed cmp_Or_int_ann (fn := Tryd.f43) (by kernel_rfl) (by kernel_rfl) (by rw [cmp_Or_int_eq]; exact h)

theorem cmp_Or_int_fn {x0 : AV} {r : AV} {Ho : List Ob} (h : cmp_Or_int x0 [] (fun v H' => Gives 0 v H' r Ho)) : Abs.Fn Tryd.prog cmp_Or_int_i [] [x0] r Ho := cmp_Or_int_fnH (Hin := []) h

/- cmp.Compare[int] -/
def cmp_Compare_int (x0 x1 : AV) (H : List Ob) (K : AV → List Ob → Prop) : Prop :=
  aCall Tryd.prog (.p (.func cmp_isNaN_int_i [])) [x0] H fun v0 h1 =>
  aCall Tryd.prog (.p (.func cmp_isNaN_int_i [])) [x1] h1 fun v2 h3 =>
  aGuard v0
  (aGuard v2
  (K (.p (.int .i64 0)) h3)
  (K (.p (.int .i64 (-1))) h3))
  (aGuard v2
  (K (.p (.int .i64 1)) h3)
  (aBin false false .lss x0 x1 fun v4 =>
  aGuard v4
  (K (.p (.int .i64 (-1))) h3)
  (aBin false false .gtr x0 x1 fun v5 =>
  aGuard v5
  (K (.p (.int .i64 1)) h3)
  (K (.p (.int .i64 0)) h3))))

def cmp_Compare_int_ann : Nat → List Nat := fun _ => []

theorem cmp_Compare_int_eq (x0 x1 : AV) (H : List Ob) (r : AV) (Ho : List Ob) : aBody Tryd.prog cmp_Compare_int_ann Tryd.f44 H [x0, x1] r Ho = cmp_Compare_int x0 x1 H (fun v H' => Gives H.length v H' r Ho) := by kernel_rfl

theorem cmp_Compare_int_fnH {x0 x1 : AV} {Hin : List Ob} {r : AV} {Ho : List Ob} (h : cmp_Compare_int x0 x1 Hin (fun v H' => Gives Hin.length v H' r Ho)) : Abs.Fn Tryd.prog cmp_Compare_int_i Hin [x0, x1] r Ho :=
  fn_intro mixed cmp_Compare_int_ann (fn := Tryd.f44) (by kernel_rfl) (by kernel_rfl) (by rw [cmp_Compare_int_eq]; exact h)

theorem cmp_Compare_int_fn {x0 x1 : AV} {r : AV} {Ho : List Ob} (h : cmp_Compare_int x0 x1 [] (fun v H' => Gives 0 v H' r Ho)) : Abs.Fn Tryd.prog cmp_Compare_int_i [] [x0, x1] r Ho := cmp_Compare_int_fnH (Hin := []) h

/- cmp.Compare[int64] -/
def cmp_Compare_int64 (x0 x1 : AV) (H : List Ob) (K : AV → List Ob → Prop) : Prop :=
  aCall Tryd.prog (.p (.func cmp_isNaN_int64_i [])) [x0] H fun v0 h1 =>
  aCall Tryd.prog (.p (.func cmp_isNaN_int64_i [])) [x1] h1 fun v2 h3 =>
  aGuard v0
  (aGuard v2
  (K (.p (.int .i64 0)) h3)
  (K (.p (.int .i64 (-1))) h3))
  (aGuard v2
  (K (.p (.int .i64 1)) h3)
  (aBin false false .lss x0 x1 fun v4 =>
  aGuard v4
  (K (.p (.int .i64 (-1))) h3)
  (aBin false false .gtr x0 x1 fun v5 =>
  aGuard v5
  (K (.p (.int .i64 1)) h3)
  (K (.p (.int .i64 0)) h3))))

def cmp_Compare_int64_ann : Nat → List Nat := fun _ => []

theorem cmp_Compare_int64_eq (x0 x1 : AV) (H : List Ob) (r : AV) (Ho : List Ob) : aBody Tryd.prog cmp_Compare_int64_ann Tryd.f45 H [x0, x1] r Ho = cmp_Compare_int64 x0 x1 H (fun v H' => Gives H.length v H' r Ho) := by kernel_rfl

theorem cmp_Compare_int64_fnH {x0 x1 : AV} {Hin : List Ob} {r : AV} {Ho : List Ob} (h : cmp_Compare_int64 x0 x1 Hin (fun v H' => Gives Hin.length v H' r Ho)) : Abs.Fn Tryd.prog cmp_Compare_int64_i Hin [x0, x1] r Ho :=
  fn_intro mixed cmp_Compare_int64_ann (fn := Tryd.f45) (by kernel_rfl) (by kernel_rfl) (by rw [cmp_Compare_int64_eq]; exact h)

theorem cmp_Compare_int64_fn {x0 x1 : AV} {r : AV} {Ho : List Ob} (h : cmp_Compare_int64 x0 x1 [] (fun v H' => Gives 0 v H' r Ho)) : Abs.Fn Tryd.prog cmp_Compare_int64_i [] [x0, x1] r Ho := cmp_Compare_int64_fnH (Hin := []) h

/- runnel/val.truth -/
def val_truth (x0 : AV) (H : List Ob) (K : AV → List Ob → Prop) : Prop :=
  aGuard x0
  (K (.p (.int .i64 1)) H)
  (K (.p (.int .i64 0)) H)

def val_truth_ann : Nat → List Nat := fun _ => []

theorem val_truth_eq (x0 : AV) (H : List Ob) (r : AV) (Ho : List Ob) : aBody Tryd.prog val_truth_ann Tryd.f46 H [x0] r Ho = val_truth x0 H (fun v H' => Gives H.length v H' r Ho) := by kernel_rfl

theorem val_truth_fnH {x0 : AV} {Hin : List Ob} {r : AV} {Ho : List Ob} (h : val_truth x0 Hin (fun v H' => Gives Hin.length v H' r Ho)) : Abs.Fn Tryd.prog val_truth_i Hin [x0] r Ho :=
  fn_intro mixed val_truth_ann (fn := Tryd.f46) (by kernel_rfl) (by kernel_rfl) (by rw [val_truth_eq]; exact h)

theorem val_truth_fn {x0 : AV} {r : AV} {Ho : List Ob} (h : val_truth x0 [] (fun v H' => Gives 0 v H' r Ho)) : Abs.Fn Tryd.prog val_truth_i [] [x0] r Ho := val_truth_fnH (Hin := []) h

/- strings.Compare -/
def strings_Compare (x0 x1 : AV) (H : List Ob) (K : AV → List Ob → Prop) : Prop :=
  aCall Tryd.prog (.p (.func internal_bytealg_CompareString_i [])) [x0, x1] H fun v0 h1 =>
  K v0 h1

def strings_Compare_ann : Nat → List Nat := fun _ => []

theorem strings_Compare_eq (x0 x1 : AV) (H : List Ob) (r : AV) (Ho : List Ob) : aBody Tryd.prog strings_Compare_ann Tryd.f47 H [x0, x1] r Ho = strings_Compare x0 x1 H (fun v H' => Gives H.length v H' r Ho) := by kernel_rfl

theorem strings_Compare_fnH {x0 x1 : AV} {Hin : List Ob} {r : AV} {Ho : List Ob} (h : strings_Compare x0 x1 Hin (fun v H' => Gives Hin.length v H' r Ho)) : Abs.Fn Tryd.prog strings_Compare_i Hin [x0, x1] r Ho :=
  fn_intro mixed strings_Compare_ann (fn := Tryd.f47) (by kernel_rfl) (by kernel_rfl) (by rw [strings_Compare_eq]; exact h)

theorem strings_Compare_fn {x0 x1 : AV} {r : AV} {Ho : List Ob} (h : strings_Compare x0 x1 [] (fun v H' => Gives 0 v H' r Ho)) : Abs.Fn Tryd.prog strings_Compare_i [] [x0, x1] r Ho := strings_Compare_fnH (Hin := []) h

/- runnel/val.rows[runnel/val.Value] -/
def val_rows_val_Value (x0 x1 x2 : AV) (H : List Ob) (K : AV → List Ob → Prop) : Prop :=
  aCall Tryd.prog (.p (.func slices_CompareFunc_val_Value_val_Value_val_Value_val_Value_i [])) [x0, x1, x2] H fun v0 h1 =>
  K v0 h1

def val_rows_val_Value_ann : Nat → List Nat := fun _ => []

theorem val_rows_val_Value_eq (x0 x1 x2 : AV) (H : List Ob) (r : AV) (Ho : List Ob) : aBody Tryd.prog val_rows_val_Value_ann Tryd.f48 H [x0, x1, x2] r Ho = val_rows_val_Value x0 x1 x2 H (fun v H' => Gives H.length v H' r Ho) := by kernel_rfl

theorem val_rows_val_Value_fnH {x0 x1 x2 : AV} {Hin : List Ob} {r : AV} {Ho : List Ob} (h : val_rows_val_Value x0 x1 x2 Hin (fun v H' => Gives Hin.length v H' r Ho)) : Abs.Fn Tryd.prog val_rows_val_Value_i Hin [x0, x1, x2] r Ho :=
  fn_intro mixed val_rows_val_Value_ann (fn := Tryd.f48) (by kernel_rfl) (by kernel_rfl) (by rw [val_rows_val_Value_eq]; exact h)

theorem val_rows_val_Value_fn {x0 x1 x2 : AV} {r : AV} {Ho : List Ob} (h : val_rows_val_Value x0 x1 x2 [] (fun v H' => Gives 0 v H' r Ho)) : Abs.Fn Tryd.prog val_rows_val_Value_i [] [x0, x1, x2] r Ho := val_rows_val_Value_fnH (Hin := []) h

/- internal/strconv.FormatBool -/
def internal_strconv_FormatBool (x0 : AV) (H : List Ob) (K : AV → List Ob → Prop) : Prop :=
  aGuard x0
  (K (.p (.str [116, 114, 117, 101])) H)
  (K (.p (.str [102, 97, 108, 115, 101])) H)

def internal_strconv_FormatBool_ann : Nat → List Nat := fun _ => []

theorem internal_strconv_FormatBool_eq (x0 : AV) (H : List Ob) (r : AV) (Ho : List Ob) : aBody Tryd.prog internal_strconv_FormatBool_ann Tryd.f50 H [x0] r Ho = internal_strconv_FormatBool x0 H (fun v H' => Gives H.length v H' r Ho) := by kernel_rfl

theorem internal_strconv_FormatBool_fnH {x0 : AV} {Hin : List Ob} {r : AV} {Ho : List Ob} (h : internal_strconv_FormatBool x0 Hin (fun v H' => Gives Hin.length v H' r Ho)) : Abs.Fn Tryd.prog internal_strconv_FormatBool_i Hin [x0] r Ho :=
  fn_intro mixed internal_strconv_FormatBool_ann (fn := Tryd.f50) (by kernel_rfl) (by kernel_rfl) (by rw [internal_strconv_FormatBool_eq]; exact h)

theorem internal_strconv_FormatBool_fn {x0 : AV} {r : AV} {Ho : List Ob} (h : internal_strconv_FormatBool x0 [] (fun v H' => Gives 0 v H' r Ho)) : Abs.Fn Tryd.prog internal_strconv_FormatBool_i [] [x0] r Ho := internal_strconv_FormatBool_fnH (Hin := []) h

/- runnel/val.check -/
def val_check_L1 (q1s1 q1s2 y0 y1 : AV) (H : List Ob) (B1 : List AV → List Ob → Prop) (K : AV → List Ob → Prop) : Prop :=
  aFieldAddr 4 q1s2 fun v25 =>
  aLoad false 1 v25 H fun v26 =>
  aLen false false v26 fun v27 =>
  aBin false false .lss y1 v27 fun v28 =>
  aMerge true v28 (fun Q29 =>
  aBin false false .eql y0 (.p (.int .i64 0)) fun v30 =>
  (H = H ∧ Q29 v30)) fun v31 =>
  aGuard v31
  (aFieldAddr 4 q1s2 fun v32 =>
  aLoad false 1 v32 H fun v33 =>
  aIndexAddr 5 v33 y1 fun v34 =>
  aLoad true 5 v34 H fun v35 =>
  aBin false false .add q1s1 (.p (.int .i64 1)) fun v36 =>
  aCall Tryd.prog (.p (.func val_check_i [])) [v35, v36] H fun v37 h38 =>
  aBin false false .add y1 (.p (.int .i64 1)) fun v39 =>
  B1 [v37, v39] h38)
  (K y0 H)

def val_check (x0 x1 : AV) (H : List Ob) (K : AV → List Ob → Prop) : Prop :=
  aBox x0 H fun v0 h1 =>
  aFieldAddr 0 v0 fun v2 =>
  aLoad false 1 v2 h1 fun v3 =>
  aBin false false .lss v3 (.p (.int .i64 1)) fun v4 =>
  aMerge false v4 (fun Q5 =>
  aFieldAddr 0 v0 fun v6 =>
  aLoad false 1 v6 h1 fun v7 =>
  aBin false false .gtr v7 (.p (.int .i64 4)) fun v8 =>
  (h1 = h1 ∧ Q5 v8)) fun v9 =>
  aGuard v9
  (K (.p (.int .i64 5)) h1)
  (aLoad true 5 v0 h1 fun v10 =>
  aCall Tryd.prog (.p (.func val_spare_i [])) [v10] h1 fun v11 h12 =>
  aGuard v11
  (K (.p (.int .i64 2)) h12)
  (aFieldAddr 3 v0 fun v13 =>
  aLoad false 1 v13 h12 fun v14 =>
  aLen false true v14 fun v15 =>
  aBin false false .gtr v15 (.p (.int .i64 255)) fun v16 =>
  aGuard v16
  (K (.p (.int .i64 4)) h12)
  (aFieldAddr 0 v0 fun v17 =>
  aLoad false 1 v17 h12 fun v18 =>
  aBin false false .neq v18 (.p (.int .i64 4)) fun v19 =>
  aGuard v19
  (K (.p (.int .i64 0)) h12)
  (aFieldAddr 4 v0 fun v20 =>
  aLoad false 1 v20 h12 fun v21 =>
  aLen false false v21 fun v22 =>
  aCall Tryd.prog (.p (.func typ_Row_i [])) [v22, x1] h12 fun v23 h24 =>
  aLoopN 2 [v23, (.p (.int .i64 0))] h24 fun xs H B1 => val_check_L1 x1 v0 (xs.getD 0 .top) (xs.getD 1 .top) H B1 K))))

def val_check_ann : Nat → List Nat := fun k => match k with | 11 => [5, 6] | _ => []

theorem val_check_eq (x0 x1 : AV) (H : List Ob) (r : AV) (Ho : List Ob) : aBody Tryd.prog val_check_ann Tryd.f54 H [x0, x1] r Ho = val_check x0 x1 H (fun v H' => Gives H.length v H' r Ho) := by kernel_rfl

theorem val_check_fnH {x0 x1 : AV} {Hin : List Ob} {r : AV} {Ho : List Ob} (h : val_check x0 x1 Hin (fun v H' => Gives Hin.length v H' r Ho)) : Abs.Fn Tryd.prog val_check_i Hin [x0, x1] r Ho :=
  fn_intro mixed val_check_ann (fn := Tryd.f54) (by kernel_rfl) (by kernel_rfl) (by rw [val_check_eq]; exact h)

theorem val_check_fn {x0 x1 : AV} {r : AV} {Ho : List Ob} (h : val_check x0 x1 [] (fun v H' => Gives 0 v H' r Ho)) : Abs.Fn Tryd.prog val_check_i [] [x0, x1] r Ho := val_check_fnH (Hin := []) h

/- cmp.isNaN[int] -/
def cmp_isNaN_int (x0 : AV) (H : List Ob) (K : AV → List Ob → Prop) : Prop :=
  aBin false false .neq x0 x0 fun v0 =>
  K v0 H

def cmp_isNaN_int_ann : Nat → List Nat := fun _ => []

theorem cmp_isNaN_int_eq (x0 : AV) (H : List Ob) (r : AV) (Ho : List Ob) : aBody Tryd.prog cmp_isNaN_int_ann Tryd.f63 H [x0] r Ho = cmp_isNaN_int x0 H (fun v H' => Gives H.length v H' r Ho) := by kernel_rfl

theorem cmp_isNaN_int_fnH {x0 : AV} {Hin : List Ob} {r : AV} {Ho : List Ob} (h : cmp_isNaN_int x0 Hin (fun v H' => Gives Hin.length v H' r Ho)) : Abs.Fn Tryd.prog cmp_isNaN_int_i Hin [x0] r Ho :=
  fn_intro mixed cmp_isNaN_int_ann (fn := Tryd.f63) (by kernel_rfl) (by kernel_rfl) (by rw [cmp_isNaN_int_eq]; exact h)

theorem cmp_isNaN_int_fn {x0 : AV} {r : AV} {Ho : List Ob} (h : cmp_isNaN_int x0 [] (fun v H' => Gives 0 v H' r Ho)) : Abs.Fn Tryd.prog cmp_isNaN_int_i [] [x0] r Ho := cmp_isNaN_int_fnH (Hin := []) h

/- cmp.isNaN[int64] -/
def cmp_isNaN_int64 (x0 : AV) (H : List Ob) (K : AV → List Ob → Prop) : Prop :=
  aBin false false .neq x0 x0 fun v0 =>
  K v0 H

def cmp_isNaN_int64_ann : Nat → List Nat := fun _ => []

theorem cmp_isNaN_int64_eq (x0 : AV) (H : List Ob) (r : AV) (Ho : List Ob) : aBody Tryd.prog cmp_isNaN_int64_ann Tryd.f64 H [x0] r Ho = cmp_isNaN_int64 x0 H (fun v H' => Gives H.length v H' r Ho) := by kernel_rfl

theorem cmp_isNaN_int64_fnH {x0 : AV} {Hin : List Ob} {r : AV} {Ho : List Ob} (h : cmp_isNaN_int64 x0 Hin (fun v H' => Gives Hin.length v H' r Ho)) : Abs.Fn Tryd.prog cmp_isNaN_int64_i Hin [x0] r Ho :=
  fn_intro mixed cmp_isNaN_int64_ann (fn := Tryd.f64) (by kernel_rfl) (by kernel_rfl) (by rw [cmp_isNaN_int64_eq]; exact h)

theorem cmp_isNaN_int64_fn {x0 : AV} {r : AV} {Ho : List Ob} (h : cmp_isNaN_int64 x0 [] (fun v H' => Gives 0 v H' r Ho)) : Abs.Fn Tryd.prog cmp_isNaN_int64_i [] [x0] r Ho := cmp_isNaN_int64_fnH (Hin := []) h

/- slices.CompareFunc[[]runnel/val.Value,[]runnel/val.Value,runnel/val.Value,runnel/val.Value] -/
def slices_CompareFunc_val_Value_val_Value_val_Value_val_Value_L1 (q1s0 q1s1 q1s2 q1s11 q1s12 y0 : AV) (H : List Ob) (B1 : List AV → List Ob → Prop) (K : AV → List Ob → Prop) : Prop :=
  aBin false false .lss y0 q1s12 fun v1 =>
  aGuard v1
  (aIndexAddr 5 q1s11 y0 fun v2 =>
  aLoad true 5 v2 H fun v3 =>
  aAlloc [(.p (.int .i64 0)), (.p (.int .i64 0)), (.p (.bool false)), (.p (.str [])), (.full [])] H fun v4 h5 =>
  aStore 5 v4 v3 h5 fun _ h7 =>
  aLen false false q1s1 fun v8 =>
  aBin false false .geq y0 v8 fun v9 =>
  aGuard v9
  (K (.p (.int .i64 1)) h7)
  (aIndexAddr 5 q1s1 y0 fun v10 =>
  aLoad true 5 v10 h7 fun v11 =>
  aAlloc [(.p (.int .i64 0)), (.p (.int .i64 0)), (.p (.bool false)), (.p (.str [])), (.full [])] h7 fun v12 h13 =>
  aStore 5 v12 v11 h13 fun _ h15 =>
  aLoad true 5 v4 h15 fun v16 =>
  aLoad true 5 v12 h15 fun v17 =>
  aCall Tryd.prog q1s2 [v16, v17] h15 fun v18 h19 =>
  aBin false false .neq v18 (.p (.int .i64 0)) fun v20 =>
  aGuard v20
  (K v18 h19)
  (aBin false false .add y0 (.p (.int .i64 1)) fun v21 =>
  B1 [v21] h19)))
  (aLen false false q1s0 fun v22 =>
  aLen false false q1s1 fun v23 =>
  aBin false false .lss v22 v23 fun v24 =>
  aGuard v24
  (K (.p (.int .i64 (-1))) H)
  (K (.p (.int .i64 0)) H))

def slices_CompareFunc_val_Value_val_Value_val_Value_val_Value (x0 x1 x2 : AV) (H : List Ob) (K : AV → List Ob → Prop) : Prop :=
  aLen false false x0 fun v0 =>
  aLoopN 1 [(.p (.int .i64 0))] H fun xs H B1 => slices_CompareFunc_val_Value_val_Value_val_Value_val_Value_L1 x0 x1 x2 x0 v0 (xs.getD 0 .top) H B1 K

def slices_CompareFunc_val_Value_val_Value_val_Value_val_Value_ann : Nat → List Nat := fun k => match k with | 2 => [13] | _ => []

theorem slices_CompareFunc_val_Value_val_Value_val_Value_val_Value_eq (x0 x1 x2 : AV) (H : List Ob) (r : AV) (Ho : List Ob) : aBody Tryd.prog slices_CompareFunc_val_Value_val_Value_val_Value_val_Value_ann Tryd.f66 H [x0, x1, x2] r Ho = slices_CompareFunc_val_Value_val_Value_val_Value_val_Value x0 x1 x2 H (fun v H' => Gives H.length v H' r Ho) := by kernel_rfl

theorem slices_CompareFunc_val_Value_val_Value_val_Value_val_Value_fnH {x0 x1 x2 : AV} {Hin : List Ob} {r : AV} {Ho : List Ob} (h : slices_CompareFunc_val_Value_val_Value_val_Value_val_Value x0 x1 x2 Hin (fun v H' => Gives Hin.length v H' r Ho)) : Abs.Fn Tryd.prog slices_CompareFunc_val_Value_val_Value_val_Value_val_Value_i Hin [x0, x1, x2] r Ho :=
  fn_intro mixed slices_CompareFunc_val_Value_val_Value_val_Value_val_Value_ann (fn := Tryd.f66) (by kernel_rfl) (by kernel_rfl) (by rw [slices_CompareFunc_val_Value_val_Value_val_Value_val_Value_eq]; exact h)

theorem slices_CompareFunc_val_Value_val_Value_val_Value_val_Value_fn {x0 x1 x2 : AV} {r : AV} {Ho : List Ob} (h : slices_CompareFunc_val_Value_val_Value_val_Value_val_Value x0 x1 x2 [] (fun v H' => Gives 0 v H' r Ho)) : Abs.Fn Tryd.prog slices_CompareFunc_val_Value_val_Value_val_Value_val_Value_i [] [x0, x1, x2] r Ho := slices_CompareFunc_val_Value_val_Value_val_Value_val_Value_fnH (Hin := []) h

/- runnel/val.spare -/
def val_spare (x0 : AV) (H : List Ob) (K : AV → List Ob → Prop) : Prop :=
  aBox x0 H fun v0 h1 =>
  aFieldAddr 0 v0 fun v2 =>
  aLoad false 1 v2 h1 fun v3 =>
  aBin false false .neq v3 (.p (.int .i64 1)) fun v4 =>
  aMerge true v4 (fun Q5 =>
  aFieldAddr 1 v0 fun v6 =>
  aLoad false 1 v6 h1 fun v7 =>
  aBin false false .neq v7 (.p (.int .i64 0)) fun v8 =>
  (h1 = h1 ∧ Q5 v8)) fun v9 =>
  aMerge false v9 (fun Q10 =>
  aFieldAddr 0 v0 fun v11 =>
  aLoad false 1 v11 h1 fun v12 =>
  aBin false false .neq v12 (.p (.int .i64 2)) fun v13 =>
  aMerge true v13 (fun Q14 =>
  aFieldAddr 2 v0 fun v15 =>
  aLoad false 1 v15 h1 fun v16 =>
  (h1 = h1 ∧ Q14 v16)) fun v17 =>
  (h1 = h1 ∧ Q10 v17)) fun v18 =>
  aMerge false v18 (fun Q19 =>
  aFieldAddr 0 v0 fun v20 =>
  aLoad false 1 v20 h1 fun v21 =>
  aBin false false .neq v21 (.p (.int .i64 3)) fun v22 =>
  aMerge true v22 (fun Q23 =>
  aFieldAddr 3 v0 fun v24 =>
  aLoad false 1 v24 h1 fun v25 =>
  aBin false false .neq v25 (.p (.str [])) fun v26 =>
  (h1 = h1 ∧ Q23 v26)) fun v27 =>
  (h1 = h1 ∧ Q19 v27)) fun v28 =>
  aMerge false v28 (fun Q29 =>
  aFieldAddr 0 v0 fun v30 =>
  aLoad false 1 v30 h1 fun v31 =>
  aBin false false .neq v31 (.p (.int .i64 4)) fun v32 =>
  aMerge true v32 (fun Q33 =>
  aFieldAddr 4 v0 fun v34 =>
  aLoad false 1 v34 h1 fun v35 =>
  aLenS false v35 fun v36 =>
  aBin false false .gtr v36 (.p (.int .i64 0)) fun v37 =>
  (h1 = h1 ∧ Q33 v37)) fun v38 =>
  (h1 = h1 ∧ Q29 v38)) fun v39 =>
  K v39 h1

def val_spare_ann : Nat → List Nat := fun _ => []

theorem val_spare_eq (x0 : AV) (H : List Ob) (r : AV) (Ho : List Ob) : aBody Tryd.prog val_spare_ann Tryd.f73 H [x0] r Ho = val_spare x0 H (fun v H' => Gives H.length v H' r Ho) := by kernel_rfl

theorem val_spare_fnH {x0 : AV} {Hin : List Ob} {r : AV} {Ho : List Ob} (h : val_spare x0 Hin (fun v H' => Gives Hin.length v H' r Ho)) : Abs.Fn Tryd.prog val_spare_i Hin [x0] r Ho :=
  fn_intro mixed val_spare_ann (fn := Tryd.f73) (by kernel_rfl) (by kernel_rfl) (by rw [val_spare_eq]; exact h)

theorem val_spare_fn {x0 : AV} {r : AV} {Ho : List Ob} (h : val_spare x0 [] (fun v H' => Gives 0 v H' r Ho)) : Abs.Fn Tryd.prog val_spare_i [] [x0] r Ho := val_spare_fnH (Hin := []) h

/- runnel/val.Bool -/
def val_Bool (x0 : AV) (H : List Ob) (K : AV → List Ob → Prop) : Prop :=
  aAlloc [(.p (.int .i64 0)), (.p (.int .i64 0)), (.p (.bool false)), (.p (.str [])), (.full [])] H fun v0 h1 =>
  aBuild [(.p (.int .i64 0)), (.p (.int .i64 0)), (.p (.bool false)), (.p (.str [])), (.full [])] [(0, 1, (.p (.int .i64 2))), (2, 1, x0)] fun v2 =>
  aStore 5 v0 v2 h1 fun _ h4 =>
  aLoad true 5 v0 h4 fun v5 =>
  K v5 h4

def val_Bool_ann : Nat → List Nat := fun _ => []

theorem val_Bool_eq (x0 : AV) (H : List Ob) (r : AV) (Ho : List Ob) : aBody Tryd.prog val_Bool_ann Tryd.f87 H [x0] r Ho = val_Bool x0 H (fun v H' => Gives H.length v H' r Ho) := by kernel_rfl

theorem val_Bool_fnH {x0 : AV} {Hin : List Ob} {r : AV} {Ho : List Ob} (h : val_Bool x0 Hin (fun v H' => Gives Hin.length v H' r Ho)) : Abs.Fn Tryd.prog val_Bool_i Hin [x0] r Ho :=
  fn_intro mixed val_Bool_ann (fn := Tryd.f87) (by kernel_rfl) (by kernel_rfl) (by rw [val_Bool_eq]; exact h)

theorem val_Bool_fn {x0 : AV} {r : AV} {Ho : List Ob} (h : val_Bool x0 [] (fun v H' => Gives 0 v H' r Ho)) : Abs.Fn Tryd.prog val_Bool_i [] [x0] r Ho := val_Bool_fnH (Hin := []) h

end Go.Proofs.YtgfnodmghaghpaaDoor
end

section
/- Made by program (Gen.lean): functions of the dump, over trees. -/
set_option maxRecDepth 4000
set_option linter.unusedVariables false
namespace Go.Proofs.YtgfnodmghaghpaaDoor
open Go Go.Abs

/- runnel/code.Check -/
def code_Check_L1 (q1s0 q1s15 q1s16 y0 : AV) (H : List Ob) (B1 : List AV → List Ob → Prop) (K : AV → List Ob → Prop) : Prop :=
  aBin false false .lss y0 q1s16 fun v5 =>
  aGuard v5
  (aIndexAddr 7 q1s15 y0 fun v6 =>
  aLoad true 7 v6 H fun v7 =>
  aAlloc [(.p (.str [])), (.p (.int .i64 0)), (.p (.int .i64 0)), (.p (.bool false)), (.p (.str [])), (.full []), (.p (.int .i64 0))] H fun v8 h9 =>
  aStore 7 v8 v7 h9 fun _ h11 =>
  aLoad true 7 v8 h11 fun v12 =>
  aLen false false q1s0 fun v13 =>
  aCall Tryd.prog (.p (.func code_Inst_check_i [])) [v12, y0, v13] h11 fun v14 h15 =>
  aBin false false .neq v14 (.p (.int .i64 0)) fun v16 =>
  aGuard v16
  (K (.tup [y0, v14]) h15)
  (aBin false false .add y0 (.p (.int .i64 1)) fun v17 =>
  B1 [v17] h15))
  (K (.tup [(.p (.int .i64 0)), (.p (.int .i64 0))]) H)

def code_Check (x0 : AV) (H : List Ob) (K : AV → List Ob → Prop) : Prop :=
  aLen false false x0 fun v0 =>
  aBin false false .eql v0 (.p (.int .i64 0)) fun v1 =>
  aGuard v1
  (K (.tup [(.p (.int .i64 0)), (.p (.int .i64 3))]) H)
  (aLen false false x0 fun v2 =>
  aBin false false .gtr v2 (.p (.int .i64 4096)) fun v3 =>
  aGuard v3
  (K (.tup [(.p (.int .i64 0)), (.p (.int .i64 10))]) H)
  (aLen false false x0 fun v4 =>
  aLoopN 1 [(.p (.int .i64 0))] H fun xs H B1 => code_Check_L1 x0 x0 v4 (xs.getD 0 .top) H B1 K))

def code_Check_ann : Nat → List Nat := fun k => match k with | 6 => [17] | _ => []

theorem code_Check_eq (x0 : AV) (H : List Ob) (r : AV) (Ho : List Ob) : aBody Tryd.prog code_Check_ann Tryd.f6 H [x0] r Ho = code_Check x0 H (fun v H' => Gives H.length v H' r Ho) := by kernel_rfl

theorem code_Check_fnH {x0 : AV} {Hin : List Ob} {r : AV} {Ho : List Ob} (h : code_Check x0 Hin (fun v H' => Gives Hin.length v H' r Ho)) : Abs.Fn Tryd.prog code_Check_i Hin [x0] r Ho :=
  fn_intro mixed code_Check_ann (fn := Tryd.f6) (by kernel_rfl) (by kernel_rfl) (by rw [code_Check_eq]; exact h)

theorem code_Check_fn {x0 : AV} {r : AV} {Ho : List Ob} (h : code_Check x0 [] (fun v H' => Gives 0 v H' r Ho)) : Abs.Fn Tryd.prog code_Check_i [] [x0] r Ho := code_Check_fnH (Hin := []) h

/- runnel/code.Encode -/
def code_Encode_L1 (q1s6 q1s24 q1s25 y0 y1 : AV) (H : List Ob) (B1 : List AV → List Ob → Prop) (K : AV → List Ob → Prop) : Prop :=
  aBin false false .lss y1 q1s25 fun v12 =>
  aGuard v12
  (aIndexAddr 7 q1s24 y1 fun v13 =>
  aLoad true 7 v13 H fun v14 =>
  aAlloc [(.p (.str [])), (.p (.int .i64 0)), (.p (.int .i64 0)), (.p (.bool false)), (.p (.str [])), (.full []), (.p (.int .i64 0))] H fun v15 h16 =>
  aStore 7 v15 v14 h16 fun _ h18 =>
  aFieldAddr 0 v15 fun v19 =>
  aLoad false 1 v19 h18 fun v20 =>
  aCall Tryd.prog (.p (.func code_place_code_form_i [])) [q1s6, v20] h18 fun v21 h22 =>
  aBin false false .add v21 (.p (.int .i64 1)) fun v23 =>
  aConvInt .u8 v23 fun v24 =>
  aBuildSlice 1 [v24] fun v25 =>
  aAppend false 1 1 y0 v25 h22 fun v26 h27 =>
  aIndexAddr 2 q1s6 v21 fun v28 =>
  aFieldAddr 1 v28 fun v29 =>
  aLoad false 1 v29 h27 fun v30 =>
  aBin false false .eql v30 (.p (.int .i64 1)) fun v31 =>
  aGuard v31
  (aFieldAddr 1 v15 fun v32 =>
  aLoad true 5 v32 h27 fun v33 =>
  aCall Tryd.prog (.p (.func wire_Put_i [])) [v26, v33] h27 fun v34 h35 =>
  aBin false false .add y1 (.p (.int .i64 1)) fun v36 =>
  B1 [v34, v36] h35)
  (aBin false false .eql v30 (.p (.int .i64 2)) fun v37 =>
  aGuard v37
  (aFieldAddr 6 v15 fun v38 =>
  aLoad false 1 v38 h27 fun v39 =>
  aConvInt .u64 v39 fun v40 =>
  aCall Tryd.prog (.p (.func wire_PutNum_i [])) [v26, v40] h27 fun v41 h42 =>
  aBin false false .add y1 (.p (.int .i64 1)) fun v43 =>
  B1 [v41, v43] h42)
  (aBin false false .add y1 (.p (.int .i64 1)) fun v44 =>
  B1 [v26, v44] h27)))
  (K (.tup [y0, (.p (.int .i64 0))]) H)

def code_Encode (x0 : AV) (H : List Ob) (K : AV → List Ob → Prop) : Prop :=
  aCall Tryd.prog (.p (.func code_Check_i [])) [x0] H fun v0 h1 =>
  aExtract v0 0 fun _ =>
  aExtract v0 1 fun v3 =>
  aBin false false .neq v3 (.p (.int .i64 0)) fun v4 =>
  aGuard v4
  (K (.tup [(.full []), v3]) h1)
  (aCall Tryd.prog (.p (.func code_ops_i [])) [] h1 fun v5 h6 =>
  aLen false false x0 fun v7 =>
  aConvInt .u64 v7 fun v8 =>
  aCall Tryd.prog (.p (.func wire_PutNum_i [])) [(.full []), v8] h6 fun v9 h10 =>
  aLen false false x0 fun v11 =>
  aLoopN 2 [v9, (.p (.int .i64 0))] h10 fun xs H B1 => code_Encode_L1 v5 x0 v11 (xs.getD 0 .top) (xs.getD 1 .top) H B1 K)

def code_Encode_ann : Nat → List Nat := fun k => match k with | 7 => [7, 26] | _ => []

theorem code_Encode_eq (x0 : AV) (H : List Ob) (r : AV) (Ho : List Ob) : aBody Tryd.prog code_Encode_ann Tryd.f10 H [x0] r Ho = code_Encode x0 H (fun v H' => Gives H.length v H' r Ho) := by kernel_rfl

theorem code_Encode_fnH {x0 : AV} {Hin : List Ob} {r : AV} {Ho : List Ob} (h : code_Encode x0 Hin (fun v H' => Gives Hin.length v H' r Ho)) : Abs.Fn Tryd.prog code_Encode_i Hin [x0] r Ho :=
  fn_intro mixed code_Encode_ann (fn := Tryd.f10) (by kernel_rfl) (by kernel_rfl) (by rw [code_Encode_eq]; exact h)

theorem code_Encode_fn {x0 : AV} {r : AV} {Ho : List Ob} (h : code_Encode x0 [] (fun v H' => Gives 0 v H' r Ho)) : Abs.Fn Tryd.prog code_Encode_i [] [x0] r Ho := code_Encode_fnH (Hin := []) h

/- runnel/code.Decode -/
def code_Decode_J1 (j1s5 j1s7 : AV) (H : List Ob) (K : AV → List Ob → Prop) : Prop :=
  aNilCheck j1s5 fun v22 =>
  aFieldAddr 0 v22 fun v23 =>
  aFieldAddr 2 v23 fun v24 =>
  aLoad false 1 v24 H fun v25 =>
  aBin false false .neq v25 (.p (.int .i64 0)) fun v26 =>
  aGuard v26
  (aNilCheck j1s5 fun v27 =>
  aFieldAddr 3 v27 fun v28 =>
  aLoad false 1 v28 H fun v29 =>
  aNilCheck j1s5 fun v30 =>
  aFieldAddr 0 v30 fun v31 =>
  aFieldAddr 2 v31 fun v32 =>
  aLoad false 1 v32 H fun v33 =>
  K (.tup [(.full []), v29, v33]) H)
  (aCall Tryd.prog (.p (.func code_Check_i [])) [j1s7] H fun v34 h35 =>
  aExtract v34 0 fun v36 =>
  aExtract v34 1 fun v37 =>
  aBin false false .neq v37 (.p (.int .i64 0)) fun v38 =>
  aGuard v38
  (K (.tup [(.full []), v36, v37]) h35)
  (K (.tup [j1s7, (.p (.int .i64 0)), (.p (.int .i64 0))]) h35))

def code_Decode_L1 (q1s0 q1s5 q1s6 y0 y1 : AV) (H : List Ob) (B1 : List AV → List Ob → Prop) (K : AV → List Ob → Prop) : Prop :=
  aBin false false .gtr y1 (.p (.int .i64 0)) fun v8 =>
  aMerge true v8 (fun Q9 =>
  aNilCheck q1s5 fun v10 =>
  aFieldAddr 0 v10 fun v11 =>
  aFieldAddr 2 v11 fun v12 =>
  aLoad false 1 v12 H fun v13 =>
  aBin false false .eql v13 (.p (.int .i64 0)) fun v14 =>
  (H = H ∧ Q9 v14)) fun v15 =>
  aGuard v15
  (aCall Tryd.prog (.p (.func code_reader_inst_i [])) [q1s5, q1s6] H fun v16 h17 =>
  aBuildSlice 7 [v16] fun v18 =>
  aAppend false 7 88 y0 v18 h17 fun v19 h20 =>
  aBin false false .sub y1 (.p (.int .i64 1)) fun v21 =>
  B1 [v19, v21] h20)
  (aNilCheck q1s5 fun v39 =>
  aFieldAddr 0 v39 fun v40 =>
  aFieldAddr 2 v40 fun v41 =>
  aLoad false 1 v41 H fun v42 =>
  aBin false false .eql v42 (.p (.int .i64 0)) fun v43 =>
  aMerge true v43 (fun Q44 =>
  aNilCheck q1s5 fun v45 =>
  aFieldAddr 0 v45 fun v46 =>
  aFieldAddr 1 v46 fun v47 =>
  aLoad false 1 v47 H fun v48 =>
  aLenS false q1s0 fun v49 =>
  aBin false false .lss v48 v49 fun v50 =>
  (H = H ∧ Q44 v50)) fun v51 =>
  aGuard v51
  (aNilCheck q1s5 fun v52 =>
  aFieldAddr 0 v52 fun v53 =>
  aFieldAddr 1 v53 fun v54 =>
  aLoad false 1 v54 H fun v55 =>
  aNilCheck q1s5 fun v56 =>
  aFieldAddr 3 v56 fun v57 =>
  aStore 1 v57 v55 H fun _ h59 =>
  aNilCheck q1s5 fun v60 =>
  aFieldAddr 0 v60 fun v61 =>
  aFieldAddr 2 v61 fun v62 =>
  aStore 1 v62 (.p (.int .i64 2)) h59 fun _ h64 =>
  code_Decode_J1 q1s5 y0 h64 K)
  (code_Decode_J1 q1s5 y0 H K))

def code_Decode (x0 : AV) (H : List Ob) (K : AV → List Ob → Prop) : Prop :=
  aBuild [(.full []), (.p (.int .i64 0)), (.p (.int .i64 0))] [(0, 1, x0)] fun v0 =>
  aBuild [(.full []), (.p (.int .i64 0)), (.p (.int .i64 0)), (.p (.int .i64 0))] [(0, 3, v0)] fun v1 =>
  aBox v1 H fun v2 h3 =>
  aCall Tryd.prog (.p (.func code_ops_i [])) [] h3 fun v4 h5 =>
  aCall Tryd.prog (.p (.func code_reader_num_i [])) [v2, (.p (.int .u64 4096)), (.p (.int .i64 10))] h5 fun v6 h7 =>
  aLoopN 2 [(.full []), v6] h7 fun xs H B1 => code_Decode_L1 x0 v2 v4 (xs.getD 0 .top) (xs.getD 1 .top) H B1 K

def code_Decode_ann : Nat → List Nat := fun k => match k with | 5 => [7, 8] | _ => []

theorem code_Decode_eq (x0 : AV) (H : List Ob) (r : AV) (Ho : List Ob) : aBody Tryd.prog code_Decode_ann Tryd.f11 H [x0] r Ho = code_Decode x0 H (fun v H' => Gives H.length v H' r Ho) := by kernel_rfl

theorem code_Decode_fnH {x0 : AV} {Hin : List Ob} {r : AV} {Ho : List Ob} (h : code_Decode x0 Hin (fun v H' => Gives Hin.length v H' r Ho)) : Abs.Fn Tryd.prog code_Decode_i Hin [x0] r Ho :=
  fn_intro mixed code_Decode_ann (fn := Tryd.f11) (by kernel_rfl) (by kernel_rfl) (by rw [code_Decode_eq]; exact h)

theorem code_Decode_fn {x0 : AV} {r : AV} {Ho : List Ob} (h : code_Decode x0 [] (fun v H' => Gives 0 v H' r Ho)) : Abs.Fn Tryd.prog code_Decode_i [] [x0] r Ho := code_Decode_fnH (Hin := []) h

/- runnel/code.Text -/
def code_Text_L1 (q1s3 q1s10 q1s11 y0 y1 : AV) (H : List Ob) (B1 : List AV → List Ob → Prop) (K : AV → List Ob → Prop) : Prop :=
  aBin false false .lss y1 q1s11 fun v3 =>
  aGuard v3
  (aIndexAddr 7 q1s10 y1 fun v4 =>
  aLoad true 7 v4 H fun v5 =>
  aAlloc [(.p (.str [])), (.p (.int .i64 0)), (.p (.int .i64 0)), (.p (.bool false)), (.p (.str [])), (.full []), (.p (.int .i64 0))] H fun v6 h7 =>
  aStore 7 v6 v5 h7 fun _ h9 =>
  aCallT Tryd.prog (.p (.func strconv_Itoa_i [])) [y1] fun v10 =>
  aBin false false .add v10 (.p (.str [32])) fun v11 =>
  aFieldAddr 0 v6 fun v12 =>
  aLoad false 1 v12 h9 fun v13 =>
  aBin false false .add v11 v13 fun v14 =>
  aFieldAddr 0 v6 fun v15 =>
  aLoad false 1 v15 h9 fun v16 =>
  aCall Tryd.prog (.p (.func code_place_code_form_i [])) [q1s3, v16] h9 fun v17 h18 =>
  aBin false false .geq v17 (.p (.int .i64 0)) fun v19 =>
  aGuard v19
  (aIndexAddr 2 q1s3 v17 fun v20 =>
  aFieldAddr 1 v20 fun v21 =>
  aLoad false 1 v21 h18 fun v22 =>
  aBin false false .eql v22 (.p (.int .i64 1)) fun v23 =>
  aGuard v23
  (aFieldAddr 1 v6 fun v24 =>
  aLoad true 5 v24 h18 fun v25 =>
  aCall Tryd.prog (.p (.func val_Text_i [])) [v25] h18 fun v26 h27 =>
  aBin false false .add (.p (.str [32])) v26 fun v28 =>
  aBin false false .add v14 v28 fun v29 =>
  aBuildSlice 1 [v29] fun v30 =>
  aAppend false 1 16 y0 v30 h27 fun v31 h32 =>
  aBin false false .add y1 (.p (.int .i64 1)) fun v33 =>
  B1 [v31, v33] h32)
  (aBin false false .eql v22 (.p (.int .i64 2)) fun v34 =>
  aGuard v34
  (aFieldAddr 6 v6 fun v35 =>
  aLoad false 1 v35 h18 fun v36 =>
  aCall Tryd.prog (.p (.func strconv_Itoa_i [])) [v36] h18 fun v37 h38 =>
  aBin false false .add (.p (.str [32])) v37 fun v39 =>
  aBin false false .add v14 v39 fun v40 =>
  aBuildSlice 1 [v40] fun v41 =>
  aAppend false 1 16 y0 v41 h38 fun v42 h43 =>
  aBin false false .add y1 (.p (.int .i64 1)) fun v44 =>
  B1 [v42, v44] h43)
  (aBuildSlice 1 [v14] fun v45 =>
  aAppend false 1 16 y0 v45 h18 fun v46 h47 =>
  aBin false false .add y1 (.p (.int .i64 1)) fun v48 =>
  B1 [v46, v48] h47)))
  (aBuildSlice 1 [v14] fun v49 =>
  aAppend false 1 16 y0 v49 h18 fun v50 h51 =>
  aBin false false .add y1 (.p (.int .i64 1)) fun v52 =>
  B1 [v50, v52] h51))
  (K y0 H)

def code_Text (x0 : AV) (H : List Ob) (K : AV → List Ob → Prop) : Prop :=
  aCall Tryd.prog (.p (.func code_ops_i [])) [] H fun v0 h1 =>
  aLen false false x0 fun v2 =>
  aLoopN 2 [(.full []), (.p (.int .i64 0))] h1 fun xs H B1 => code_Text_L1 v0 x0 v2 (xs.getD 0 .top) (xs.getD 1 .top) H B1 K

def code_Text_ann : Nat → List Nat := fun k => match k with | 4 => [4, 12] | _ => []

theorem code_Text_eq (x0 : AV) (H : List Ob) (r : AV) (Ho : List Ob) : aBody Tryd.prog code_Text_ann Tryd.f12 H [x0] r Ho = code_Text x0 H (fun v H' => Gives H.length v H' r Ho) := by kernel_rfl

theorem code_Text_fnH {x0 : AV} {Hin : List Ob} {r : AV} {Ho : List Ob} (h : code_Text x0 Hin (fun v H' => Gives Hin.length v H' r Ho)) : Abs.Fn Tryd.prog code_Text_i Hin [x0] r Ho :=
  fn_intro mixed code_Text_ann (fn := Tryd.f12) (by kernel_rfl) (by kernel_rfl) (by rw [code_Text_eq]; exact h)

theorem code_Text_fn {x0 : AV} {r : AV} {Ho : List Ob} (h : code_Text x0 [] (fun v H' => Gives 0 v H' r Ho)) : Abs.Fn Tryd.prog code_Text_i [] [x0] r Ho := code_Text_fnH (Hin := []) h

/- (runnel/code.Inst).check -/
def code_Inst_check (x0 x1 x2 : AV) (H : List Ob) (K : AV → List Ob → Prop) : Prop :=
  aBox x0 H fun v0 h1 =>
  aCall Tryd.prog (.p (.func code_ops_i [])) [] h1 fun v2 h3 =>
  aFieldAddr 0 v0 fun v4 =>
  aLoad false 1 v4 h3 fun v5 =>
  aCall Tryd.prog (.p (.func code_place_code_form_i [])) [v2, v5] h3 fun v6 h7 =>
  aBin false false .lss v6 (.p (.int .i64 0)) fun v8 =>
  aGuard v8
  (K (.p (.int .i64 6)) h7)
  (aIndexAddr 2 v2 v6 fun v9 =>
  aFieldAddr 1 v9 fun v10 =>
  aLoad false 1 v10 h7 fun v11 =>
  aBin false false .neq v11 (.p (.int .i64 1)) fun v12 =>
  aMerge true v12 (fun Q13 =>
  aFieldAddr 1 v0 fun v14 =>
  aLoad true 5 v14 h7 fun v15 =>
  aBuild [(.p (.int .i64 0)), (.p (.int .i64 0)), (.p (.bool false)), (.p (.str [])), (.full [])] [] fun v16 =>
  aCall Tryd.prog (.p (.func val_Same_i [])) [v15, v16] h7 fun v17 h18 =>
  aUn .not v17 fun v19 =>
  (h18 = h7 ∧ Q13 v19)) fun v20 =>
  aMerge false v20 (fun Q21 =>
  aIndexAddr 2 v2 v6 fun v22 =>
  aFieldAddr 1 v22 fun v23 =>
  aLoad false 1 v23 h7 fun v24 =>
  aBin false false .neq v24 (.p (.int .i64 2)) fun v25 =>
  aMerge true v25 (fun Q26 =>
  aFieldAddr 6 v0 fun v27 =>
  aLoad false 1 v27 h7 fun v28 =>
  aBin false false .neq v28 (.p (.int .i64 0)) fun v29 =>
  (h7 = h7 ∧ Q26 v29)) fun v30 =>
  (h7 = h7 ∧ Q21 v30)) fun v31 =>
  aGuard v31
  (K (.p (.int .i64 1)) h7)
  (aIndexAddr 2 v2 v6 fun v32 =>
  aFieldAddr 1 v32 fun v33 =>
  aLoad false 1 v33 h7 fun v34 =>
  aBin false false .eql v34 (.p (.int .i64 1)) fun v35 =>
  aGuard v35
  (aFieldAddr 1 v0 fun v36 =>
  aLoad true 5 v36 h7 fun v37 =>
  aCall Tryd.prog (.p (.func val_Check_i [])) [v37] h7 fun v38 h39 =>
  aBin false false .neq v38 (.p (.int .i64 0)) fun v40 =>
  aGuard v40
  (K v38 h39)
  (aLoad true 7 v0 h39 fun v41 =>
  aCall Tryd.prog (.p (.func code_Inst_right_i [])) [v41, x1, x2] h39 fun v42 h43 =>
  aUn .not v42 fun v44 =>
  aGuard v44
  (K (.p (.int .i64 1)) h43)
  (K (.p (.int .i64 0)) h43)))
  (aLoad true 7 v0 h7 fun v45 =>
  aCall Tryd.prog (.p (.func code_Inst_right_i [])) [v45, x1, x2] h7 fun v46 h47 =>
  aUn .not v46 fun v48 =>
  aGuard v48
  (K (.p (.int .i64 1)) h47)
  (K (.p (.int .i64 0)) h47))))

def code_Inst_check_ann : Nat → List Nat := fun _ => []

theorem code_Inst_check_eq (x0 x1 x2 : AV) (H : List Ob) (r : AV) (Ho : List Ob) : aBody Tryd.prog code_Inst_check_ann Tryd.f15 H [x0, x1, x2] r Ho = code_Inst_check x0 x1 x2 H (fun v H' => Gives H.length v H' r Ho) := by kernel_rfl

theorem code_Inst_check_fnH {x0 x1 x2 : AV} {Hin : List Ob} {r : AV} {Ho : List Ob} (h : code_Inst_check x0 x1 x2 Hin (fun v H' => Gives Hin.length v H' r Ho)) : Abs.Fn Tryd.prog code_Inst_check_i Hin [x0, x1, x2] r Ho :=
  fn_intro mixed code_Inst_check_ann (fn := Tryd.f15) (by kernel_rfl) (by kernel_rfl) (by rw [code_Inst_check_eq]; exact h)

theorem code_Inst_check_fn {x0 x1 x2 : AV} {r : AV} {Ho : List Ob} (h : code_Inst_check x0 x1 x2 [] (fun v H' => Gives 0 v H' r Ho)) : Abs.Fn Tryd.prog code_Inst_check_i [] [x0, x1, x2] r Ho := code_Inst_check_fnH (Hin := []) h

/- runnel/code.ops -/
def code_ops_L1 (q1s9 q1s10 y0 y1 : AV) (H : List Ob) (B1 : List AV → List Ob → Prop) (K : AV → List Ob → Prop) : Prop :=
  aBin false false .lss y1 q1s10 fun v8 =>
  aGuard v8
  (aIndexAddr 1 q1s9 y1 fun v9 =>
  aLoad false 1 v9 H fun v10 =>
  aBuild [(.p (.str [])), (.p (.int .i64 0))] [(0, 1, v10), (1, 1, (.p (.int .i64 0)))] fun v11 =>
  aBuildSlice 2 [v11] fun v12 =>
  aAppend false 2 24 y0 v12 H fun v13 h14 =>
  aBin false false .add y1 (.p (.int .i64 1)) fun v15 =>
  B1 [v13, v15] h14)
  (aBuild [(.p (.str [])), (.p (.int .i64 0))] [(0, 1, (.p (.str [106, 109, 112]))), (1, 1, (.p (.int .i64 2)))] fun v16 =>
  aBuild [(.p (.str [])), (.p (.int .i64 0))] [(0, 1, (.p (.str [106, 102]))), (1, 1, (.p (.int .i64 2)))] fun v17 =>
  aBuild [(.p (.str [])), (.p (.int .i64 0))] [(0, 1, (.p (.str [101, 109, 105, 116]))), (1, 1, (.p (.int .i64 2)))] fun v18 =>
  aBuild [(.p (.str [])), (.p (.int .i64 0))] [(0, 1, (.p (.str [114, 101, 116]))), (1, 1, (.p (.int .i64 0)))] fun v19 =>
  aBuildSlice 2 [v16, v17, v18, v19] fun v20 =>
  aAppend false 2 24 y0 v20 H fun v21 h22 =>
  K v21 h22)

def code_ops (H : List Ob) (K : AV → List Ob → Prop) : Prop :=
  aBuild [(.p (.str [])), (.p (.int .i64 0))] [(0, 1, (.p (.str [112, 117, 115, 104]))), (1, 1, (.p (.int .i64 1)))] fun v0 =>
  aBuild [(.p (.str [])), (.p (.int .i64 0))] [(0, 1, (.p (.str [120]))), (1, 1, (.p (.int .i64 0)))] fun v1 =>
  aBuild [(.p (.str [])), (.p (.int .i64 0))] [(0, 1, (.p (.str [97, 116]))), (1, 1, (.p (.int .i64 2)))] fun v2 =>
  aBuild [(.p (.str [])), (.p (.int .i64 0))] [(0, 1, (.p (.str [116, 117, 112]))), (1, 1, (.p (.int .i64 2)))] fun v3 =>
  aBuildSlice 2 [v0, v1, v2, v3] fun v4 =>
  aCall Tryd.prog (.p (.func strings_Fields_i [])) [(.p (.str [110, 101, 103, 32, 110, 111, 116, 32, 108, 101, 110, 32, 97, 100, 100, 32, 115, 117, 98, 32, 109, 117, 108, 32, 100, 105, 118, 32, 114, 101, 109, 32, 101, 113, 32, 108, 116, 32, 99, 97, 116]))] H fun v5 h6 =>
  aLen false false v5 fun v7 =>
  aLoopN 2 [v4, (.p (.int .i64 0))] h6 fun xs H B1 => code_ops_L1 v5 v7 (xs.getD 0 .top) (xs.getD 1 .top) H B1 K

def code_ops_ann : Nat → List Nat := fun k => match k with | 3 => [1, 11] | _ => []

theorem code_ops_eq (H : List Ob) (r : AV) (Ho : List Ob) : aBody Tryd.prog code_ops_ann Tryd.f18 H [] r Ho = code_ops H (fun v H' => Gives H.length v H' r Ho) := by kernel_rfl

theorem code_ops_fnH {Hin : List Ob} {r : AV} {Ho : List Ob} (h : code_ops Hin (fun v H' => Gives Hin.length v H' r Ho)) : Abs.Fn Tryd.prog code_ops_i Hin [] r Ho :=
  fn_intro mixed code_ops_ann (fn := Tryd.f18) (by kernel_rfl) (by kernel_rfl) (by rw [code_ops_eq]; exact h)

theorem code_ops_fn {r : AV} {Ho : List Ob} (h : code_ops [] (fun v H' => Gives 0 v H' r Ho)) : Abs.Fn Tryd.prog code_ops_i [] [] r Ho := code_ops_fnH (Hin := []) h

/- runnel/code.place[runnel/code.form] -/
def code_place_code_form_L1 (q1s1 q1s7 q1s8 y0 : AV) (H : List Ob) (B1 : List AV → List Ob → Prop) (K : AV → List Ob → Prop) : Prop :=
  aBin false false .lss y0 q1s8 fun v1 =>
  aGuard v1
  (aIndexAddr 2 q1s7 y0 fun v2 =>
  aLoad true 2 v2 H fun v3 =>
  aAlloc [(.p (.str [])), (.p (.int .i64 0))] H fun v4 h5 =>
  aStore 2 v4 v3 h5 fun _ h7 =>
  aFieldAddr 0 v4 fun v8 =>
  aLoad false 1 v8 h7 fun v9 =>
  aBin false false .eql v9 q1s1 fun v10 =>
  aGuard v10
  (K y0 h7)
  (aBin false false .add y0 (.p (.int .i64 1)) fun v11 =>
  B1 [v11] h7))
  (K (.p (.int .i64 (-1))) H)

def code_place_code_form (x0 x1 : AV) (H : List Ob) (K : AV → List Ob → Prop) : Prop :=
  aLen false false x0 fun v0 =>
  aLoopN 1 [(.p (.int .i64 0))] H fun xs H B1 => code_place_code_form_L1 x1 x0 v0 (xs.getD 0 .top) H B1 K

def code_place_code_form_ann : Nat → List Nat := fun k => match k with | 2 => [9] | _ => []

theorem code_place_code_form_eq (x0 x1 : AV) (H : List Ob) (r : AV) (Ho : List Ob) : aBody Tryd.prog code_place_code_form_ann Tryd.f20 H [x0, x1] r Ho = code_place_code_form x0 x1 H (fun v H' => Gives H.length v H' r Ho) := by kernel_rfl

theorem code_place_code_form_fnH {x0 x1 : AV} {Hin : List Ob} {r : AV} {Ho : List Ob} (h : code_place_code_form x0 x1 Hin (fun v H' => Gives Hin.length v H' r Ho)) : Abs.Fn Tryd.prog code_place_code_form_i Hin [x0, x1] r Ho :=
  fn_intro mixed code_place_code_form_ann (fn := Tryd.f20) (by kernel_rfl) (by kernel_rfl) (by rw [code_place_code_form_eq]; exact h)

theorem code_place_code_form_fn {x0 x1 : AV} {r : AV} {Ho : List Ob} (h : code_place_code_form x0 x1 [] (fun v H' => Gives 0 v H' r Ho)) : Abs.Fn Tryd.prog code_place_code_form_i [] [x0, x1] r Ho := code_place_code_form_fnH (Hin := []) h

/- (*runnel/code.reader).num -/
def code_reader_num (x0 x1 x2 : AV) (H : List Ob) (K : AV → List Ob → Prop) : Prop :=
  aBox x0 H fun v0 h1 =>
  aBox x1 h1 fun v2 h3 =>
  aBox x2 h3 fun v4 h5 =>
  aLoad false 1 v0 h5 fun v6 =>
  aMakeFunc code_reader_num_1_i [v0, v2, v4] h5 fun v7 h8 =>
  aCall Tryd.prog (.p (.func code_field_int_i [])) [v6, v7] h8 fun v9 h10 =>
  K v9 h10

def code_reader_num_ann : Nat → List Nat := fun _ => []

theorem code_reader_num_eq (x0 x1 x2 : AV) (H : List Ob) (r : AV) (Ho : List Ob) : aBody Tryd.prog code_reader_num_ann Tryd.f22 H [x0, x1, x2] r Ho = code_reader_num x0 x1 x2 H (fun v H' => Gives H.length v H' r Ho) := by kernel_rfl

theorem code_reader_num_fnH {x0 x1 x2 : AV} {Hin : List Ob} {r : AV} {Ho : List Ob} (h : code_reader_num x0 x1 x2 Hin (fun v H' => Gives Hin.length v H' r Ho)) : Abs.Fn Tryd.prog code_reader_num_i Hin [x0, x1, x2] r Ho :=
  fn_intro mixed code_reader_num_ann (fn := Tryd.f22) (by kernel_rfl) (by kernel_rfl) (by rw [code_reader_num_eq]; exact h)

theorem code_reader_num_fn {x0 x1 x2 : AV} {r : AV} {Ho : List Ob} (h : code_reader_num x0 x1 x2 [] (fun v H' => Gives 0 v H' r Ho)) : Abs.Fn Tryd.prog code_reader_num_i [] [x0, x1, x2] r Ho := code_reader_num_fnH (Hin := []) h

/- (*runnel/code.reader).inst -/
def code_reader_inst (x0 x1 : AV) (H : List Ob) (K : AV → List Ob → Prop) : Prop :=
  aBox x0 H fun v0 h1 =>
  aBox x1 h1 fun v2 h3 =>
  aAlloc [(.p (.str [])), (.p (.int .i64 0)), (.p (.int .i64 0)), (.p (.bool false)), (.p (.str [])), (.full []), (.p (.int .i64 0))] h3 fun v4 h5 =>
  aLoad false 1 v0 h5 fun v6 =>
  aMakeFunc code_reader_inst_1_i [v0, v2] h5 fun v7 h8 =>
  aCall Tryd.prog (.p (.func code_field_int_i [])) [v6, v7] h8 fun v9 h10 =>
  aLoad false 1 v2 h10 fun v11 =>
  aIndexAddr 2 v11 v9 fun v12 =>
  aFieldAddr 0 v12 fun v13 =>
  aLoad false 1 v13 h10 fun v14 =>
  aBuild [(.p (.str [])), (.p (.int .i64 0)), (.p (.int .i64 0)), (.p (.bool false)), (.p (.str [])), (.full []), (.p (.int .i64 0))] [(0, 1, v14)] fun v15 =>
  aAlloc [(.p (.str [])), (.p (.int .i64 0)), (.p (.int .i64 0)), (.p (.bool false)), (.p (.str [])), (.full []), (.p (.int .i64 0))] h10 fun v16 h17 =>
  aStore 7 v16 v15 h17 fun _ h19 =>
  aLoad false 1 v2 h19 fun v20 =>
  aIndexAddr 2 v20 v9 fun v21 =>
  aFieldAddr 1 v21 fun v22 =>
  aLoad false 1 v22 h19 fun v23 =>
  aBin false false .eql v23 (.p (.int .i64 1)) fun v24 =>
  aGuard v24
  ((aLoad false 1 v0 h19 fun v25 =>
  aLoad false 1 v0 h19 fun v26 =>
  aNilCheck v26 fun v27 =>
  aFieldAddr 0 v27 fun v28 =>
  aBind wire_Reader_Val_i v28 h19 fun v29 h30 =>
  aCall Tryd.prog (.p (.func code_field_val_Value_i [])) [v25, v29] h30 fun v31 h32 =>
  aFieldAddr 1 v16 fun v33 =>
  aStore 5 v33 v31 h32 fun _ h35 =>
  aLoad true 7 v16 h35 fun v36 =>
  aStore 7 v4 v36 h35 fun _ h38 =>
  aLoad true 7 v4 h38 fun v39 =>
  K v39 h38) ∧
  (aLoad false 1 v0 h19 fun v40 =>
  aNilCheck v40 fun v41 =>
  aFieldAddr 0 v41 fun v42 =>
  (aLoad false 1 v0 h19 fun v43 =>
  aBind wire_Reader_Val_i v42 h19 fun v44 h45 =>
  aCall Tryd.prog (.p (.func code_field_val_Value_i [])) [v43, v44] h45 fun v46 h47 =>
  aFieldAddr 1 v16 fun v48 =>
  aStore 5 v48 v46 h47 fun _ h50 =>
  aLoad true 7 v16 h50 fun v51 =>
  aStore 7 v4 v51 h50 fun _ h53 =>
  aLoad true 7 v4 h53 fun v54 =>
  K v54 h53) ∧
  (aBind wire_Reader_Val_i v42 h19 fun v55 h56 =>
  aLoad false 1 v0 h56 fun v57 =>
  aCall Tryd.prog (.p (.func code_field_val_Value_i [])) [v57, v55] h56 fun v58 h59 =>
  aFieldAddr 1 v16 fun v60 =>
  aStore 5 v60 v58 h59 fun _ h62 =>
  aLoad true 7 v16 h62 fun v63 =>
  aStore 7 v4 v63 h62 fun _ h65 =>
  aLoad true 7 v4 h65 fun v66 =>
  K v66 h65)))
  (aBin false false .eql v23 (.p (.int .i64 2)) fun v67 =>
  aGuard v67
  (aLoad false 1 v0 h19 fun v68 =>
  aCall Tryd.prog (.p (.func code_reader_num_i [])) [v68, (.p (.int .u64 2147483647)), (.p (.int .i64 1))] h19 fun v69 h70 =>
  aFieldAddr 6 v16 fun v71 =>
  aStore 1 v71 v69 h70 fun _ h73 =>
  aLoad true 7 v16 h73 fun v74 =>
  aStore 7 v4 v74 h73 fun _ h76 =>
  aLoad true 7 v4 h76 fun v77 =>
  K v77 h76)
  (aLoad true 7 v16 h19 fun v78 =>
  aStore 7 v4 v78 h19 fun _ h80 =>
  aLoad true 7 v4 h80 fun v81 =>
  K v81 h80))

def code_reader_inst_ann : Nat → List Nat := fun k => match k with | 3000005 => [1000] | _ => []

theorem code_reader_inst_eq (x0 x1 : AV) (H : List Ob) (r : AV) (Ho : List Ob) : aBody Tryd.prog code_reader_inst_ann Tryd.f23 H [x0, x1] r Ho = code_reader_inst x0 x1 H (fun v H' => Gives H.length v H' r Ho) := by kernel_rfl

theorem code_reader_inst_fnH {x0 x1 : AV} {Hin : List Ob} {r : AV} {Ho : List Ob} (h : code_reader_inst x0 x1 Hin (fun v H' => Gives Hin.length v H' r Ho)) : Abs.Fn Tryd.prog code_reader_inst_i Hin [x0, x1] r Ho :=
  fn_intro mixed code_reader_inst_ann (fn := Tryd.f23) (by kernel_rfl) (by kernel_rfl) (by rw [code_reader_inst_eq]; exact h)

theorem code_reader_inst_fn {x0 x1 : AV} {r : AV} {Ho : List Ob} (h : code_reader_inst x0 x1 [] (fun v H' => Gives 0 v H' r Ho)) : Abs.Fn Tryd.prog code_reader_inst_i [] [x0, x1] r Ho := code_reader_inst_fnH (Hin := []) h

/- (runnel/code.Inst).right -/
def code_Inst_right (x0 x1 x2 : AV) (H : List Ob) (K : AV → List Ob → Prop) : Prop :=
  aBox x0 H fun v0 h1 =>
  aFieldAddr 0 v0 fun v2 =>
  aLoad false 1 v2 h1 fun v3 =>
  aBin false false .eql v3 (.p (.str [97, 116])) fun v4 =>
  aGuard v4
  (aFieldAddr 6 v0 fun v5 =>
  aLoad false 1 v5 h1 fun v6 =>
  aBin false false .geq v6 (.p (.int .i64 0)) fun v7 =>
  K v7 h1)
  (aBin false false .eql v3 (.p (.str [116, 117, 112])) fun v8 =>
  aGuard v8
  (aFieldAddr 6 v0 fun v9 =>
  aLoad false 1 v9 h1 fun v10 =>
  aBin false false .geq v10 (.p (.int .i64 1)) fun v11 =>
  aMerge true v11 (fun Q12 =>
  aFieldAddr 6 v0 fun v13 =>
  aLoad false 1 v13 h1 fun v14 =>
  aBin false false .leq v14 (.p (.int .i64 8)) fun v15 =>
  (h1 = h1 ∧ Q12 v15)) fun v16 =>
  K v16 h1)
  (aBin false false .eql v3 (.p (.str [101, 109, 105, 116])) fun v17 =>
  aGuard v17
  (aFieldAddr 6 v0 fun v18 =>
  aLoad false 1 v18 h1 fun v19 =>
  aBin false false .geq v19 (.p (.int .i64 0)) fun v20 =>
  aMerge true v20 (fun Q21 =>
  aFieldAddr 6 v0 fun v22 =>
  aLoad false 1 v22 h1 fun v23 =>
  aBin false false .leq v23 (.p (.int .i64 4)) fun v24 =>
  (h1 = h1 ∧ Q21 v24)) fun v25 =>
  K v25 h1)
  (aBin false false .eql v3 (.p (.str [106, 109, 112])) fun v26 =>
  aMerge false v26 (fun Q27 =>
  aBin false false .eql v3 (.p (.str [106, 102])) fun v28 =>
  (h1 = h1 ∧ Q27 v28)) fun v29 =>
  aGuard v29
  (aFieldAddr 6 v0 fun v30 =>
  aLoad false 1 v30 h1 fun v31 =>
  aBin false false .gtr v31 x1 fun v32 =>
  aMerge true v32 (fun Q33 =>
  aFieldAddr 6 v0 fun v34 =>
  aLoad false 1 v34 h1 fun v35 =>
  aBin false false .lss v35 x2 fun v36 =>
  (h1 = h1 ∧ Q33 v36)) fun v37 =>
  K v37 h1)
  (K (.p (.bool true)) h1))))

def code_Inst_right_ann : Nat → List Nat := fun k => match k with | 1000009 => [1] | _ => []

theorem code_Inst_right_eq (x0 x1 x2 : AV) (H : List Ob) (r : AV) (Ho : List Ob) : aBody Tryd.prog code_Inst_right_ann Tryd.f31 H [x0, x1, x2] r Ho = code_Inst_right x0 x1 x2 H (fun v H' => Gives H.length v H' r Ho) := by kernel_rfl

theorem code_Inst_right_fnH {x0 x1 x2 : AV} {Hin : List Ob} {r : AV} {Ho : List Ob} (h : code_Inst_right x0 x1 x2 Hin (fun v H' => Gives Hin.length v H' r Ho)) : Abs.Fn Tryd.prog code_Inst_right_i Hin [x0, x1, x2] r Ho :=
  fn_intro mixed code_Inst_right_ann (fn := Tryd.f31) (by kernel_rfl) (by kernel_rfl) (by rw [code_Inst_right_eq]; exact h)

theorem code_Inst_right_fn {x0 x1 x2 : AV} {r : AV} {Ho : List Ob} (h : code_Inst_right x0 x1 x2 [] (fun v H' => Gives 0 v H' r Ho)) : Abs.Fn Tryd.prog code_Inst_right_i [] [x0, x1, x2] r Ho := code_Inst_right_fnH (Hin := []) h

/- runnel/code.field[int] -/
def code_field_int (x0 x1 : AV) (H : List Ob) (K : AV → List Ob → Prop) : Prop :=
  aNilCheck x0 fun v0 =>
  aFieldAddr 0 v0 fun v1 =>
  aFieldAddr 1 v1 fun v2 =>
  aLoad false 1 v2 H fun v3 =>
  aNilCheck x0 fun v4 =>
  aFieldAddr 0 v4 fun v5 =>
  aFieldAddr 2 v5 fun v6 =>
  aLoad false 1 v6 H fun v7 =>
  aBin false false .eql v7 (.p (.int .i64 0)) fun v8 =>
  aCall Tryd.prog x1 [] H fun v9 h10 =>
  aMerge true v8 (fun Q11 =>
  aNilCheck x0 fun v12 =>
  aFieldAddr 0 v12 fun v13 =>
  aFieldAddr 2 v13 fun v14 =>
  aLoad false 1 v14 h10 fun v15 =>
  aBin false false .neq v15 (.p (.int .i64 0)) fun v16 =>
  (h10 = h10 ∧ Q11 v16)) fun v17 =>
  aGuard v17
  (aNilCheck x0 fun v18 =>
  aFieldAddr 3 v18 fun v19 =>
  aStore 1 v19 v3 h10 fun _ h21 =>
  K v9 h21)
  (K v9 h10)

def code_field_int_ann : Nat → List Nat := fun _ => []

theorem code_field_int_eq (x0 x1 : AV) (H : List Ob) (r : AV) (Ho : List Ob) : aBody Tryd.prog code_field_int_ann Tryd.f34 H [x0, x1] r Ho = code_field_int x0 x1 H (fun v H' => Gives H.length v H' r Ho) := by kernel_rfl

theorem code_field_int_fnH {x0 x1 : AV} {Hin : List Ob} {r : AV} {Ho : List Ob} (h : code_field_int x0 x1 Hin (fun v H' => Gives Hin.length v H' r Ho)) : Abs.Fn Tryd.prog code_field_int_i Hin [x0, x1] r Ho :=
  fn_intro mixed code_field_int_ann (fn := Tryd.f34) (by kernel_rfl) (by kernel_rfl) (by rw [code_field_int_eq]; exact h)

theorem code_field_int_fn {x0 x1 : AV} {r : AV} {Ho : List Ob} (h : code_field_int x0 x1 [] (fun v H' => Gives 0 v H' r Ho)) : Abs.Fn Tryd.prog code_field_int_i [] [x0, x1] r Ho := code_field_int_fnH (Hin := []) h

/- (*runnel/code.reader).num$1 -/
def code_reader_num_1 (x0 x1 x2 : AV) (H : List Ob) (K : AV → List Ob → Prop) : Prop :=
  aLoad false 1 x0 H fun v0 =>
  aNilCheck v0 fun v1 =>
  aFieldAddr 0 v1 fun v2 =>
  aCall Tryd.prog (.p (.func wire_Reader_Uint_i [])) [v2] H fun v3 h4 =>
  aLoad false 1 x1 h4 fun v5 =>
  aBin false false .gtr v3 v5 fun v6 =>
  aGuard v6
  (aLoad false 1 x0 h4 fun v7 =>
  aNilCheck v7 fun v8 =>
  aFieldAddr 0 v8 fun v9 =>
  aLoad false 1 x2 h4 fun v10 =>
  aCallT Tryd.prog (.p (.func wire_Reader_Fail_i [])) [v9, v10] fun _ =>
  K (.p (.int .i64 0)) h4)
  (aConvInt .i64 v3 fun v12 =>
  K v12 h4)

def code_reader_num_1_ann : Nat → List Nat := fun _ => []

theorem code_reader_num_1_eq (x0 x1 x2 : AV) (H : List Ob) (r : AV) (Ho : List Ob) : aBody Tryd.prog code_reader_num_1_ann Tryd.f35 H [x0, x1, x2] r Ho = code_reader_num_1 x0 x1 x2 H (fun v H' => Gives H.length v H' r Ho) := by kernel_rfl

theorem code_reader_num_1_fnH {x0 x1 x2 : AV} {Hin : List Ob} {r : AV} {Ho : List Ob} (h : code_reader_num_1 x0 x1 x2 Hin (fun v H' => Gives Hin.length v H' r Ho)) : Abs.Fn Tryd.prog code_reader_num_1_i Hin [x0, x1, x2] r Ho :=
  fn_intro mixed code_reader_num_1_ann (fn := Tryd.f35) (by kernel_rfl) (by kernel_rfl) (by rw [code_reader_num_1_eq]; exact h)

theorem code_reader_num_1_fn {x0 x1 x2 : AV} {r : AV} {Ho : List Ob} (h : code_reader_num_1 x0 x1 x2 [] (fun v H' => Gives 0 v H' r Ho)) : Abs.Fn Tryd.prog code_reader_num_1_i [] [x0, x1, x2] r Ho := code_reader_num_1_fnH (Hin := []) h

/- (*runnel/code.reader).inst$1 -/
def code_reader_inst_1 (x0 x1 : AV) (H : List Ob) (K : AV → List Ob → Prop) : Prop :=
  aLoad false 1 x0 H fun v0 =>
  aNilCheck v0 fun v1 =>
  aFieldAddr 0 v1 fun v2 =>
  aCall Tryd.prog (.p (.func wire_Reader_Byte_i [])) [v2] H fun v3 h4 =>
  aConvInt .i64 v3 fun v5 =>
  aBin false false .sub v5 (.p (.int .i64 1)) fun v6 =>
  aBin false false .lss v6 (.p (.int .i64 0)) fun v7 =>
  aMerge false v7 (fun Q8 =>
  aLoad false 1 x1 h4 fun v9 =>
  aLenS false v9 fun v10 =>
  aBin false false .geq v6 v10 fun v11 =>
  (h4 = h4 ∧ Q8 v11)) fun v12 =>
  aGuard v12
  (aLoad false 1 x0 h4 fun v13 =>
  aNilCheck v13 fun v14 =>
  aFieldAddr 0 v14 fun v15 =>
  aCall Tryd.prog (.p (.func wire_Reader_Fail_i [])) [v15, (.p (.int .i64 6))] h4 fun _ h17 =>
  K (.p (.int .i64 0)) h17)
  (K v6 h4)

def code_reader_inst_1_ann : Nat → List Nat := fun _ => []

theorem code_reader_inst_1_eq (x0 x1 : AV) (H : List Ob) (r : AV) (Ho : List Ob) : aBody Tryd.prog code_reader_inst_1_ann Tryd.f38 H [x0, x1] r Ho = code_reader_inst_1 x0 x1 H (fun v H' => Gives H.length v H' r Ho) := by kernel_rfl

theorem code_reader_inst_1_fnH {x0 x1 : AV} {Hin : List Ob} {r : AV} {Ho : List Ob} (h : code_reader_inst_1 x0 x1 Hin (fun v H' => Gives Hin.length v H' r Ho)) : Abs.Fn Tryd.prog code_reader_inst_1_i Hin [x0, x1] r Ho :=
  fn_intro mixed code_reader_inst_1_ann (fn := Tryd.f38) (by kernel_rfl) (by kernel_rfl) (by rw [code_reader_inst_1_eq]; exact h)

theorem code_reader_inst_1_fn {x0 x1 : AV} {r : AV} {Ho : List Ob} (h : code_reader_inst_1 x0 x1 [] (fun v H' => Gives 0 v H' r Ho)) : Abs.Fn Tryd.prog code_reader_inst_1_i [] [x0, x1] r Ho := code_reader_inst_1_fnH (Hin := []) h

/- runnel/code.field[runnel/val.Value] -/
def code_field_val_Value (x0 x1 : AV) (H : List Ob) (K : AV → List Ob → Prop) : Prop :=
  aAlloc [(.p (.int .i64 0)), (.p (.int .i64 0)), (.p (.bool false)), (.p (.str [])), (.full [])] H fun v0 h1 =>
  aNilCheck x0 fun v2 =>
  aFieldAddr 0 v2 fun v3 =>
  aFieldAddr 1 v3 fun v4 =>
  aLoad false 1 v4 h1 fun v5 =>
  aNilCheck x0 fun v6 =>
  aFieldAddr 0 v6 fun v7 =>
  aFieldAddr 2 v7 fun v8 =>
  aLoad false 1 v8 h1 fun v9 =>
  aBin false false .eql v9 (.p (.int .i64 0)) fun v10 =>
  aCall Tryd.prog x1 [] h1 fun v11 h12 =>
  aAlloc [(.p (.int .i64 0)), (.p (.int .i64 0)), (.p (.bool false)), (.p (.str [])), (.full [])] h12 fun v13 h14 =>
  aStore 5 v13 v11 h14 fun _ h16 =>
  aMerge true v10 (fun Q17 =>
  aNilCheck x0 fun v18 =>
  aFieldAddr 0 v18 fun v19 =>
  aFieldAddr 2 v19 fun v20 =>
  aLoad false 1 v20 h16 fun v21 =>
  aBin false false .neq v21 (.p (.int .i64 0)) fun v22 =>
  (h16 = h16 ∧ Q17 v22)) fun v23 =>
  aGuard v23
  (aNilCheck x0 fun v24 =>
  aFieldAddr 3 v24 fun v25 =>
  aStore 1 v25 v5 h16 fun _ h27 =>
  aLoad true 5 v13 h27 fun v28 =>
  aStore 5 v0 v28 h27 fun _ h30 =>
  aLoad true 5 v0 h30 fun v31 =>
  K v31 h30)
  (aLoad true 5 v13 h16 fun v32 =>
  aStore 5 v0 v32 h16 fun _ h34 =>
  aLoad true 5 v0 h34 fun v35 =>
  K v35 h34)

def code_field_val_Value_ann : Nat → List Nat := fun _ => []

theorem code_field_val_Value_eq (x0 x1 : AV) (H : List Ob) (r : AV) (Ho : List Ob) : aBody Tryd.prog code_field_val_Value_ann Tryd.f40 H [x0, x1] r Ho = code_field_val_Value x0 x1 H (fun v H' => Gives H.length v H' r Ho) := by kernel_rfl

theorem code_field_val_Value_fnH {x0 x1 : AV} {Hin : List Ob} {r : AV} {Ho : List Ob} (h : code_field_val_Value x0 x1 Hin (fun v H' => Gives Hin.length v H' r Ho)) : Abs.Fn Tryd.prog code_field_val_Value_i Hin [x0, x1] r Ho :=
  fn_intro mixed code_field_val_Value_ann (fn := Tryd.f40) (by kernel_rfl) (by kernel_rfl) (by rw [code_field_val_Value_eq]; exact h)

theorem code_field_val_Value_fn {x0 x1 : AV} {r : AV} {Ho : List Ob} (h : code_field_val_Value x0 x1 [] (fun v H' => Gives 0 v H' r Ho)) : Abs.Fn Tryd.prog code_field_val_Value_i [] [x0, x1] r Ho := code_field_val_Value_fnH (Hin := []) h

end Go.Proofs.YtgfnodmghaghpaaDoor
end

section
/- Made by program (Gen.lean): functions of the dump, over trees. -/
set_option maxRecDepth 4000
set_option linter.unusedVariables false
namespace Go.Proofs.YtgfnodmghaghpaaDoor
open Go Go.Abs

/- runnel/wire.PutNum -/
def wire_PutNum_L1 (y0 y1 : AV) (H : List Ob) (B1 : List AV → List Ob → Prop) (K : AV → List Ob → Prop) : Prop :=
  aBin false false .geq y1 (.p (.int .u64 128)) fun v0 =>
  aGuard v0
  (aConvInt .u8 y1 fun v1 =>
  aBin false false .or v1 (.p (.int .u8 128)) fun v2 =>
  aBuildSlice 1 [v2] fun v3 =>
  aAppend false 1 1 y0 v3 H fun v4 h5 =>
  aBin false false .shr y1 (.p (.int .u64 7)) fun v6 =>
  B1 [v4, v6] h5)
  (aConvInt .u8 y1 fun v7 =>
  aBuildSlice 1 [v7] fun v8 =>
  aAppend false 1 1 y0 v8 H fun v9 h10 =>
  K v9 h10)

def wire_PutNum (x0 x1 : AV) (H : List Ob) (K : AV → List Ob → Prop) : Prop :=
  aLoopN 2 [x0, x1] H fun xs H B1 => wire_PutNum_L1 (xs.getD 0 .top) (xs.getD 1 .top) H B1 K

def wire_PutNum_ann : Nat → List Nat := fun k => match k with | 1 => [0, 1] | _ => []

theorem wire_PutNum_eq (x0 x1 : AV) (H : List Ob) (r : AV) (Ho : List Ob) : aBody Tryd.prog wire_PutNum_ann Tryd.f19 H [x0, x1] r Ho = wire_PutNum x0 x1 H (fun v H' => Gives H.length v H' r Ho) := by kernel_rfl

theorem wire_PutNum_fnH {x0 x1 : AV} {Hin : List Ob} {r : AV} {Ho : List Ob} (h : wire_PutNum x0 x1 Hin (fun v H' => Gives Hin.length v H' r Ho)) : Abs.Fn Tryd.prog wire_PutNum_i Hin [x0, x1] r Ho :=
  fn_intro mixed wire_PutNum_ann (fn := Tryd.f19) (by kernel_rfl) (by kernel_rfl) (by rw [wire_PutNum_eq]; exact h)

theorem wire_PutNum_fn {x0 x1 : AV} {r : AV} {Ho : List Ob} (h : wire_PutNum x0 x1 [] (fun v H' => Gives 0 v H' r Ho)) : Abs.Fn Tryd.prog wire_PutNum_i [] [x0, x1] r Ho := wire_PutNum_fnH (Hin := []) h

/- runnel/wire.Put -/
def wire_Put_L1 (q1s52 q1s53 y0 y1 : AV) (H : List Ob) (B1 : List AV → List Ob → Prop) (K : AV → List Ob → Prop) : Prop :=
  aBin false false .lss y1 q1s53 fun v46 =>
  aGuard v46
  (aIndexAddr 5 q1s52 y1 fun v47 =>
  aLoad true 5 v47 H fun v48 =>
  aAlloc [(.p (.int .i64 0)), (.p (.int .i64 0)), (.p (.bool false)), (.p (.str [])), (.full [])] H fun v49 h50 =>
  aStore 5 v49 v48 h50 fun _ h52 =>
  aLoad true 5 v49 h52 fun v53 =>
  aCall Tryd.prog (.p (.func wire_Put_i [])) [y0, v53] h52 fun v54 h55 =>
  aBin false false .add y1 (.p (.int .i64 1)) fun v56 =>
  B1 [v54, v56] h55)
  (K y0 H)

def wire_Put (x0 x1 : AV) (H : List Ob) (K : AV → List Ob → Prop) : Prop :=
  aBox x1 H fun v0 h1 =>
  aFieldAddr 0 v0 fun v2 =>
  aLoad false 1 v2 h1 fun v3 =>
  aConvInt .u8 v3 fun v4 =>
  aBuildSlice 1 [v4] fun v5 =>
  aAppend false 1 1 x0 v5 h1 fun v6 h7 =>
  aFieldAddr 0 v0 fun v8 =>
  aLoad false 1 v8 h7 fun v9 =>
  aBin false false .eql v9 (.p (.int .i64 1)) fun v10 =>
  aGuard v10
  (aFieldAddr 1 v0 fun v11 =>
  aLoad false 1 v11 h7 fun v12 =>
  aConvInt .u64 v12 fun v13 =>
  aBin false false .shl v13 (.p (.int .u64 1)) fun v14 =>
  aFieldAddr 1 v0 fun v15 =>
  aLoad false 1 v15 h7 fun v16 =>
  aBin false false .shr v16 (.p (.int .u64 63)) fun v17 =>
  aConvInt .u64 v17 fun v18 =>
  aBin false false .xor v14 v18 fun v19 =>
  aCall Tryd.prog (.p (.func wire_PutNum_i [])) [v6, v19] h7 fun v20 h21 =>
  K v20 h21)
  (aBin false false .eql v9 (.p (.int .i64 2)) fun v22 =>
  aGuard v22
  (aFieldAddr 2 v0 fun v23 =>
  aLoad false 1 v23 h7 fun v24 =>
  aGuard v24
  (aBuildSlice 1 [(.p (.int .u8 1))] fun v25 =>
  aAppend false 1 1 v6 v25 h7 fun v26 h27 =>
  K v26 h27)
  (aBuildSlice 1 [(.p (.int .u8 0))] fun v28 =>
  aAppend false 1 1 v6 v28 h7 fun v29 h30 =>
  K v29 h30))
  (aBin false false .eql v9 (.p (.int .i64 3)) fun v31 =>
  aGuard v31
  (aFieldAddr 3 v0 fun v32 =>
  aLoad false 1 v32 h7 fun v33 =>
  aCall Tryd.prog (.p (.func wire_PutText_i [])) [v6, v33] h7 fun v34 h35 =>
  K v34 h35)
  (aFieldAddr 4 v0 fun v36 =>
  aLoad false 1 v36 h7 fun v37 =>
  aLen false false v37 fun v38 =>
  aConvInt .u8 v38 fun v39 =>
  aBuildSlice 1 [v39] fun v40 =>
  aAppend false 1 1 v6 v40 h7 fun v41 h42 =>
  aFieldAddr 4 v0 fun v43 =>
  aLoad false 1 v43 h42 fun v44 =>
  aLen false false v44 fun v45 =>
  aLoopN 2 [v41, (.p (.int .i64 0))] h42 fun xs H B1 => wire_Put_L1 v44 v45 (xs.getD 0 .top) (xs.getD 1 .top) H B1 K)))

def wire_Put_ann : Nat → List Nat := fun k => match k with | 13 => [0, 54] | _ => []

theorem wire_Put_eq (x0 x1 : AV) (H : List Ob) (r : AV) (Ho : List Ob) : aBody Tryd.prog wire_Put_ann Tryd.f21 H [x0, x1] r Ho = wire_Put x0 x1 H (fun v H' => Gives H.length v H' r Ho) := by kernel_rfl

theorem wire_Put_fnH {x0 x1 : AV} {Hin : List Ob} {r : AV} {Ho : List Ob} (h : wire_Put x0 x1 Hin (fun v H' => Gives Hin.length v H' r Ho)) : Abs.Fn Tryd.prog wire_Put_i Hin [x0, x1] r Ho :=
  fn_intro mixed wire_Put_ann (fn := Tryd.f21) (by kernel_rfl) (by kernel_rfl) (by rw [wire_Put_eq]; exact h)

theorem wire_Put_fn {x0 x1 : AV} {r : AV} {Ho : List Ob} (h : wire_Put x0 x1 [] (fun v H' => Gives 0 v H' r Ho)) : Abs.Fn Tryd.prog wire_Put_i [] [x0, x1] r Ho := wire_Put_fnH (Hin := []) h

/- runnel/wire.PutText -/
def wire_PutText (x0 x1 : AV) (H : List Ob) (K : AV → List Ob → Prop) : Prop :=
  aLen false true x1 fun v0 =>
  aConvInt .u64 v0 fun v1 =>
  aCall Tryd.prog (.p (.func wire_PutNum_i [])) [x0, v1] H fun v2 h3 =>
  aAppend true 1 1 v2 x1 h3 fun v4 h5 =>
  K v4 h5

def wire_PutText_ann : Nat → List Nat := fun _ => []

theorem wire_PutText_eq (x0 x1 : AV) (H : List Ob) (r : AV) (Ho : List Ob) : aBody Tryd.prog wire_PutText_ann Tryd.f33 H [x0, x1] r Ho = wire_PutText x0 x1 H (fun v H' => Gives H.length v H' r Ho) := by kernel_rfl

theorem wire_PutText_fnH {x0 x1 : AV} {Hin : List Ob} {r : AV} {Ho : List Ob} (h : wire_PutText x0 x1 Hin (fun v H' => Gives Hin.length v H' r Ho)) : Abs.Fn Tryd.prog wire_PutText_i Hin [x0, x1] r Ho :=
  fn_intro mixed wire_PutText_ann (fn := Tryd.f33) (by kernel_rfl) (by kernel_rfl) (by rw [wire_PutText_eq]; exact h)

theorem wire_PutText_fn {x0 x1 : AV} {r : AV} {Ho : List Ob} (h : wire_PutText x0 x1 [] (fun v H' => Gives 0 v H' r Ho)) : Abs.Fn Tryd.prog wire_PutText_i [] [x0, x1] r Ho := wire_PutText_fnH (Hin := []) h

/- (*runnel/wire.Reader).Uint -/
def wire_Reader_Uint (x0 : AV) (H : List Ob) (K : AV → List Ob → Prop) : Prop :=
  aCall Tryd.prog (.p (.func wire_field_uint64_i [])) [x0, (.p (.func wire_Num_i []))] H fun v0 h1 =>
  K v0 h1

def wire_Reader_Uint_ann : Nat → List Nat := fun _ => []

theorem wire_Reader_Uint_eq (x0 : AV) (H : List Ob) (r : AV) (Ho : List Ob) : aBody Tryd.prog wire_Reader_Uint_ann Tryd.f36 H [x0] r Ho = wire_Reader_Uint x0 H (fun v H' => Gives H.length v H' r Ho) := by kernel_rfl

theorem wire_Reader_Uint_fnH {x0 : AV} {Hin : List Ob} {r : AV} {Ho : List Ob} (h : wire_Reader_Uint x0 Hin (fun v H' => Gives Hin.length v H' r Ho)) : Abs.Fn Tryd.prog wire_Reader_Uint_i Hin [x0] r Ho :=
  fn_intro mixed wire_Reader_Uint_ann (fn := Tryd.f36) (by kernel_rfl) (by kernel_rfl) (by rw [wire_Reader_Uint_eq]; exact h)

theorem wire_Reader_Uint_fn {x0 : AV} {r : AV} {Ho : List Ob} (h : wire_Reader_Uint x0 [] (fun v H' => Gives 0 v H' r Ho)) : Abs.Fn Tryd.prog wire_Reader_Uint_i [] [x0] r Ho := wire_Reader_Uint_fnH (Hin := []) h

/- (*runnel/wire.Reader).Fail -/
def wire_Reader_Fail (x0 x1 : AV) (H : List Ob) (K : AV → List Ob → Prop) : Prop :=
  aNilCheck x0 fun v0 =>
  aFieldAddr 2 v0 fun v1 =>
  aLoad false 1 v1 H fun v2 =>
  aBin false false .eql v2 (.p (.int .i64 0)) fun v3 =>
  aGuard v3
  (aNilCheck x0 fun v4 =>
  aFieldAddr 2 v4 fun v5 =>
  aStore 1 v5 x1 H fun _ h7 =>
  K (.tup []) h7)
  (K (.tup []) H)

def wire_Reader_Fail_ann : Nat → List Nat := fun _ => []

theorem wire_Reader_Fail_eq (x0 x1 : AV) (H : List Ob) (r : AV) (Ho : List Ob) : aBody Tryd.prog wire_Reader_Fail_ann Tryd.f37 H [x0, x1] r Ho = wire_Reader_Fail x0 x1 H (fun v H' => Gives H.length v H' r Ho) := by kernel_rfl

theorem wire_Reader_Fail_fnH {x0 x1 : AV} {Hin : List Ob} {r : AV} {Ho : List Ob} (h : wire_Reader_Fail x0 x1 Hin (fun v H' => Gives Hin.length v H' r Ho)) : Abs.Fn Tryd.prog wire_Reader_Fail_i Hin [x0, x1] r Ho :=
  fn_intro mixed wire_Reader_Fail_ann (fn := Tryd.f37) (by kernel_rfl) (by kernel_rfl) (by rw [wire_Reader_Fail_eq]; exact h)

theorem wire_Reader_Fail_fn {x0 x1 : AV} {r : AV} {Ho : List Ob} (h : wire_Reader_Fail x0 x1 [] (fun v H' => Gives 0 v H' r Ho)) : Abs.Fn Tryd.prog wire_Reader_Fail_i [] [x0, x1] r Ho := wire_Reader_Fail_fnH (Hin := []) h

/- (*runnel/wire.Reader).Byte -/
def wire_Reader_Byte (x0 : AV) (H : List Ob) (K : AV → List Ob → Prop) : Prop :=
  aCall Tryd.prog (.p (.func wire_field_byte_i [])) [x0, (.p (.func wire_one_i []))] H fun v0 h1 =>
  K v0 h1

def wire_Reader_Byte_ann : Nat → List Nat := fun _ => []

theorem wire_Reader_Byte_eq (x0 : AV) (H : List Ob) (r : AV) (Ho : List Ob) : aBody Tryd.prog wire_Reader_Byte_ann Tryd.f39 H [x0] r Ho = wire_Reader_Byte x0 H (fun v H' => Gives H.length v H' r Ho) := by kernel_rfl

theorem wire_Reader_Byte_fnH {x0 : AV} {Hin : List Ob} {r : AV} {Ho : List Ob} (h : wire_Reader_Byte x0 Hin (fun v H' => Gives Hin.length v H' r Ho)) : Abs.Fn Tryd.prog wire_Reader_Byte_i Hin [x0] r Ho :=
  fn_intro mixed wire_Reader_Byte_ann (fn := Tryd.f39) (by kernel_rfl) (by kernel_rfl) (by rw [wire_Reader_Byte_eq]; exact h)

theorem wire_Reader_Byte_fn {x0 : AV} {r : AV} {Ho : List Ob} (h : wire_Reader_Byte x0 [] (fun v H' => Gives 0 v H' r Ho)) : Abs.Fn Tryd.prog wire_Reader_Byte_i [] [x0] r Ho := wire_Reader_Byte_fnH (Hin := []) h

/- (*runnel/wire.Reader).Val -/
def wire_Reader_Val (x0 : AV) (H : List Ob) (K : AV → List Ob → Prop) : Prop :=
  aAlloc [(.p (.int .i64 0)), (.p (.int .i64 0)), (.p (.bool false)), (.p (.str [])), (.full [])] H fun v0 h1 =>
  aCall Tryd.prog (.p (.func wire_field_val_Value_i [])) [x0, (.p (.func wire_Get_i []))] h1 fun v2 h3 =>
  aStore 5 v0 v2 h3 fun _ h5 =>
  aLoad true 5 v0 h5 fun v6 =>
  K v6 h5

def wire_Reader_Val_ann : Nat → List Nat := fun _ => []

theorem wire_Reader_Val_eq (x0 : AV) (H : List Ob) (r : AV) (Ho : List Ob) : aBody Tryd.prog wire_Reader_Val_ann Tryd.f41 H [x0] r Ho = wire_Reader_Val x0 H (fun v H' => Gives H.length v H' r Ho) := by kernel_rfl

theorem wire_Reader_Val_fnH {x0 : AV} {Hin : List Ob} {r : AV} {Ho : List Ob} (h : wire_Reader_Val x0 Hin (fun v H' => Gives Hin.length v H' r Ho)) : Abs.Fn Tryd.prog wire_Reader_Val_i Hin [x0] r Ho :=
  fn_intro mixed wire_Reader_Val_ann (fn := Tryd.f41) (by kernel_rfl) (by kernel_rfl) (by rw [wire_Reader_Val_eq]; exact h)

theorem wire_Reader_Val_fn {x0 : AV} {r : AV} {Ho : List Ob} (h : wire_Reader_Val x0 [] (fun v H' => Gives 0 v H' r Ho)) : Abs.Fn Tryd.prog wire_Reader_Val_i [] [x0] r Ho := wire_Reader_Val_fnH (Hin := []) h

/- runnel/wire.field[uint64] -/
def wire_field_uint64 (x0 x1 : AV) (H : List Ob) (K : AV → List Ob → Prop) : Prop :=
  aNilCheck x0 fun v0 =>
  aFieldAddr 2 v0 fun v1 =>
  aLoad false 1 v1 H fun v2 =>
  aBin false false .neq v2 (.p (.int .i64 0)) fun v3 =>
  aGuard v3
  (K (.p (.int .u64 0)) H)
  (aNilCheck x0 fun v4 =>
  aFieldAddr 0 v4 fun v5 =>
  aLoad false 1 v5 H fun v6 =>
  aNilCheck x0 fun v7 =>
  aFieldAddr 1 v7 fun v8 =>
  aLoad false 1 v8 H fun v9 =>
  aSlice false 1 v6 (some v9) none none fun v10 =>
  aCallT Tryd.prog x1 [v10] fun v11 =>
  aExtract v11 0 fun v12 =>
  aExtract v11 1 fun v13 =>
  aExtract v11 2 fun v14 =>
  aBin false false .neq v14 (.p (.int .i64 0)) fun v15 =>
  aGuard v15
  (aNilCheck x0 fun v16 =>
  aFieldAddr 2 v16 fun v17 =>
  aStore 1 v17 v14 H fun _ h19 =>
  K (.p (.int .u64 0)) h19)
  (aNilCheck x0 fun v20 =>
  aFieldAddr 1 v20 fun v21 =>
  aLoad false 1 v21 H fun v22 =>
  aBin false false .add v22 v13 fun v23 =>
  aNilCheck x0 fun v24 =>
  aFieldAddr 1 v24 fun v25 =>
  aStore 1 v25 v23 H fun _ h27 =>
  K v12 h27))

def wire_field_uint64_ann : Nat → List Nat := fun _ => []

theorem wire_field_uint64_eq (x0 x1 : AV) (H : List Ob) (r : AV) (Ho : List Ob) : aBody Tryd.prog wire_field_uint64_ann Tryd.f57 H [x0, x1] r Ho = wire_field_uint64 x0 x1 H (fun v H' => Gives H.length v H' r Ho) := by kernel_rfl

theorem wire_field_uint64_fnH {x0 x1 : AV} {Hin : List Ob} {r : AV} {Ho : List Ob} (h : wire_field_uint64 x0 x1 Hin (fun v H' => Gives Hin.length v H' r Ho)) : Abs.Fn Tryd.prog wire_field_uint64_i Hin [x0, x1] r Ho :=
  fn_intro mixed wire_field_uint64_ann (fn := Tryd.f57) (by kernel_rfl) (by kernel_rfl) (by rw [wire_field_uint64_eq]; exact h)

theorem wire_field_uint64_fn {x0 x1 : AV} {r : AV} {Ho : List Ob} (h : wire_field_uint64 x0 x1 [] (fun v H' => Gives 0 v H' r Ho)) : Abs.Fn Tryd.prog wire_field_uint64_i [] [x0, x1] r Ho := wire_field_uint64_fnH (Hin := []) h

/- runnel/wire.Num -/
def wire_Num_L1 (q1s8 q1s9 y0 y1 : AV) (H : List Ob) (B1 : List AV → List Ob → Prop) (K : AV → List Ob → Prop) : Prop :=
  aBin false false .lss y1 q1s9 fun v1 =>
  aGuard v1
  (aIndexAddr 1 q1s8 y1 fun v2 =>
  aLoad false 1 v2 H fun v3 =>
  aBin false false .eql y1 (.p (.int .i64 9)) fun v4 =>
  aMerge true v4 (fun Q5 =>
  aBin false false .gtr v3 (.p (.int .u8 1)) fun v6 =>
  (H = H ∧ Q5 v6)) fun v7 =>
  aGuard v7
  (K (.tup [(.p (.int .u64 0)), (.p (.int .i64 0)), (.p (.int .i64 2))]) H)
  (aBin false false .and v3 (.p (.int .u8 127)) fun v8 =>
  aConvInt .u64 v8 fun v9 =>
  aBin false false .mul (.p (.int .i64 7)) y1 fun v10 =>
  aBin false false .shl v9 v10 fun v11 =>
  aBin false false .or y0 v11 fun v12 =>
  aBin false false .geq v3 (.p (.int .u8 128)) fun v13 =>
  aGuard v13
  (aBin false false .add y1 (.p (.int .i64 1)) fun v14 =>
  B1 [v12, v14] H)
  (aBin false false .eql v3 (.p (.int .u8 0)) fun v15 =>
  aMerge true v15 (fun Q16 =>
  aBin false false .gtr y1 (.p (.int .i64 0)) fun v17 =>
  (H = H ∧ Q16 v17)) fun v18 =>
  aGuard v18
  (K (.tup [(.p (.int .u64 0)), (.p (.int .i64 0)), (.p (.int .i64 2))]) H)
  (aBin false false .add y1 (.p (.int .i64 1)) fun v19 =>
  K (.tup [v12, v19, (.p (.int .i64 0))]) H))))
  (K (.tup [(.p (.int .u64 0)), (.p (.int .i64 0)), (.p (.int .i64 3))]) H)

def wire_Num (x0 : AV) (H : List Ob) (K : AV → List Ob → Prop) : Prop :=
  aLen false false x0 fun v0 =>
  aLoopN 2 [(.p (.int .u64 0)), (.p (.int .i64 0))] H fun xs H B1 => wire_Num_L1 x0 v0 (xs.getD 0 .top) (xs.getD 1 .top) H B1 K

def wire_Num_ann : Nat → List Nat := fun k => match k with | 3 => [5, 10] | _ => []

theorem wire_Num_eq (x0 : AV) (H : List Ob) (r : AV) (Ho : List Ob) : aBody Tryd.prog wire_Num_ann Tryd.f58 H [x0] r Ho = wire_Num x0 H (fun v H' => Gives H.length v H' r Ho) := by kernel_rfl

theorem wire_Num_fnH {x0 : AV} {Hin : List Ob} {r : AV} {Ho : List Ob} (h : wire_Num x0 Hin (fun v H' => Gives Hin.length v H' r Ho)) : Abs.Fn Tryd.prog wire_Num_i Hin [x0] r Ho :=
  fn_intro mixed wire_Num_ann (fn := Tryd.f58) (by kernel_rfl) (by kernel_rfl) (by rw [wire_Num_eq]; exact h)

theorem wire_Num_fn {x0 : AV} {r : AV} {Ho : List Ob} (h : wire_Num x0 [] (fun v H' => Gives 0 v H' r Ho)) : Abs.Fn Tryd.prog wire_Num_i [] [x0] r Ho := wire_Num_fnH (Hin := []) h

/- runnel/wire.field[byte] -/
def wire_field_byte (x0 x1 : AV) (H : List Ob) (K : AV → List Ob → Prop) : Prop :=
  aNilCheck x0 fun v0 =>
  aFieldAddr 2 v0 fun v1 =>
  aLoad false 1 v1 H fun v2 =>
  aBin false false .neq v2 (.p (.int .i64 0)) fun v3 =>
  aGuard v3
  (K (.p (.int .u8 0)) H)
  (aNilCheck x0 fun v4 =>
  aFieldAddr 0 v4 fun v5 =>
  aLoad false 1 v5 H fun v6 =>
  aNilCheck x0 fun v7 =>
  aFieldAddr 1 v7 fun v8 =>
  aLoad false 1 v8 H fun v9 =>
  aSlice false 1 v6 (some v9) none none fun v10 =>
  aCallT Tryd.prog x1 [v10] fun v11 =>
  aExtract v11 0 fun v12 =>
  aExtract v11 1 fun v13 =>
  aExtract v11 2 fun v14 =>
  aBin false false .neq v14 (.p (.int .i64 0)) fun v15 =>
  aGuard v15
  (aNilCheck x0 fun v16 =>
  aFieldAddr 2 v16 fun v17 =>
  aStore 1 v17 v14 H fun _ h19 =>
  K (.p (.int .u8 0)) h19)
  (aNilCheck x0 fun v20 =>
  aFieldAddr 1 v20 fun v21 =>
  aLoad false 1 v21 H fun v22 =>
  aBin false false .add v22 v13 fun v23 =>
  aNilCheck x0 fun v24 =>
  aFieldAddr 1 v24 fun v25 =>
  aStore 1 v25 v23 H fun _ h27 =>
  K v12 h27))

def wire_field_byte_ann : Nat → List Nat := fun _ => []

theorem wire_field_byte_eq (x0 x1 : AV) (H : List Ob) (r : AV) (Ho : List Ob) : aBody Tryd.prog wire_field_byte_ann Tryd.f59 H [x0, x1] r Ho = wire_field_byte x0 x1 H (fun v H' => Gives H.length v H' r Ho) := by kernel_rfl

theorem wire_field_byte_fnH {x0 x1 : AV} {Hin : List Ob} {r : AV} {Ho : List Ob} (h : wire_field_byte x0 x1 Hin (fun v H' => Gives Hin.length v H' r Ho)) : Abs.Fn Tryd.prog wire_field_byte_i Hin [x0, x1] r Ho :=
  fn_intro mixed wire_field_byte_ann (fn := Tryd.f59) (by kernel_rfl) (by kernel_rfl) (by rw [wire_field_byte_eq]; exact h)

theorem wire_field_byte_fn {x0 x1 : AV} {r : AV} {Ho : List Ob} (h : wire_field_byte x0 x1 [] (fun v H' => Gives 0 v H' r Ho)) : Abs.Fn Tryd.prog wire_field_byte_i [] [x0, x1] r Ho := wire_field_byte_fnH (Hin := []) h

/- runnel/wire.one -/
def wire_one (x0 : AV) (H : List Ob) (K : AV → List Ob → Prop) : Prop :=
  aLen false false x0 fun v0 =>
  aBin false false .eql v0 (.p (.int .i64 0)) fun v1 =>
  aGuard v1
  (K (.tup [(.p (.int .u8 0)), (.p (.int .i64 0)), (.p (.int .i64 3))]) H)
  (aIndexAddr 1 x0 (.p (.int .i64 0)) fun v2 =>
  aLoad false 1 v2 H fun v3 =>
  K (.tup [v3, (.p (.int .i64 1)), (.p (.int .i64 0))]) H)

def wire_one_ann : Nat → List Nat := fun _ => []

theorem wire_one_eq (x0 : AV) (H : List Ob) (r : AV) (Ho : List Ob) : aBody Tryd.prog wire_one_ann Tryd.f60 H [x0] r Ho = wire_one x0 H (fun v H' => Gives H.length v H' r Ho) := by kernel_rfl

theorem wire_one_fnH {x0 : AV} {Hin : List Ob} {r : AV} {Ho : List Ob} (h : wire_one x0 Hin (fun v H' => Gives Hin.length v H' r Ho)) : Abs.Fn Tryd.prog wire_one_i Hin [x0] r Ho :=
  fn_intro mixed wire_one_ann (fn := Tryd.f60) (by kernel_rfl) (by kernel_rfl) (by rw [wire_one_eq]; exact h)

theorem wire_one_fn {x0 : AV} {r : AV} {Ho : List Ob} (h : wire_one x0 [] (fun v H' => Gives 0 v H' r Ho)) : Abs.Fn Tryd.prog wire_one_i [] [x0] r Ho := wire_one_fnH (Hin := []) h

/- runnel/wire.field[runnel/val.Value] -/
def wire_field_val_Value (x0 x1 : AV) (H : List Ob) (K : AV → List Ob → Prop) : Prop :=
  aAlloc [(.p (.int .i64 0)), (.p (.int .i64 0)), (.p (.bool false)), (.p (.str [])), (.full [])] H fun v0 h1 =>
  aAlloc [(.p (.int .i64 0)), (.p (.int .i64 0)), (.p (.bool false)), (.p (.str [])), (.full [])] h1 fun v2 h3 =>
  aNilCheck x0 fun v4 =>
  aFieldAddr 2 v4 fun v5 =>
  aLoad false 1 v5 h3 fun v6 =>
  aBin false false .neq v6 (.p (.int .i64 0)) fun v7 =>
  aGuard v7
  (aLoad true 5 v2 h3 fun v8 =>
  aStore 5 v0 v8 h3 fun _ h10 =>
  aLoad true 5 v0 h10 fun v11 =>
  K v11 h10)
  (aAlloc [(.p (.int .i64 0)), (.p (.int .i64 0)), (.p (.bool false)), (.p (.str [])), (.full [])] h3 fun v12 h13 =>
  aNilCheck x0 fun v14 =>
  aFieldAddr 0 v14 fun v15 =>
  aLoad false 1 v15 h13 fun v16 =>
  aNilCheck x0 fun v17 =>
  aFieldAddr 1 v17 fun v18 =>
  aLoad false 1 v18 h13 fun v19 =>
  aSlice false 1 v16 (some v19) none none fun v20 =>
  aCallT Tryd.prog x1 [v20] fun v21 =>
  aExtract v21 0 fun v22 =>
  aExtract v21 1 fun v23 =>
  aExtract v21 2 fun v24 =>
  aStore 5 v12 v22 h13 fun _ h26 =>
  aBin false false .neq v24 (.p (.int .i64 0)) fun v27 =>
  aGuard v27
  (aNilCheck x0 fun v28 =>
  aFieldAddr 2 v28 fun v29 =>
  aStore 1 v29 v24 h26 fun _ h31 =>
  aLoad true 5 v2 h31 fun v32 =>
  aStore 5 v0 v32 h31 fun _ h34 =>
  aLoad true 5 v0 h34 fun v35 =>
  K v35 h34)
  (aNilCheck x0 fun v36 =>
  aFieldAddr 1 v36 fun v37 =>
  aLoad false 1 v37 h26 fun v38 =>
  aBin false false .add v38 v23 fun v39 =>
  aNilCheck x0 fun v40 =>
  aFieldAddr 1 v40 fun v41 =>
  aStore 1 v41 v39 h26 fun _ h43 =>
  aLoad true 5 v12 h43 fun v44 =>
  aStore 5 v0 v44 h43 fun _ h46 =>
  aLoad true 5 v0 h46 fun v47 =>
  K v47 h46))

def wire_field_val_Value_ann : Nat → List Nat := fun _ => []

theorem wire_field_val_Value_eq (x0 x1 : AV) (H : List Ob) (r : AV) (Ho : List Ob) : aBody Tryd.prog wire_field_val_Value_ann Tryd.f61 H [x0, x1] r Ho = wire_field_val_Value x0 x1 H (fun v H' => Gives H.length v H' r Ho) := by kernel_rfl

theorem wire_field_val_Value_fnH {x0 x1 : AV} {Hin : List Ob} {r : AV} {Ho : List Ob} (h : wire_field_val_Value x0 x1 Hin (fun v H' => Gives Hin.length v H' r Ho)) : Abs.Fn Tryd.prog wire_field_val_Value_i Hin [x0, x1] r Ho :=
  fn_intro mixed wire_field_val_Value_ann (fn := Tryd.f61) (by kernel_rfl) (by kernel_rfl) (by rw [wire_field_val_Value_eq]; exact h)

theorem wire_field_val_Value_fn {x0 x1 : AV} {r : AV} {Ho : List Ob} (h : wire_field_val_Value x0 x1 [] (fun v H' => Gives 0 v H' r Ho)) : Abs.Fn Tryd.prog wire_field_val_Value_i [] [x0, x1] r Ho := wire_field_val_Value_fnH (Hin := []) h

/- runnel/wire.Get -/
def wire_Get (x0 : AV) (H : List Ob) (K : AV → List Ob → Prop) : Prop :=
  aAlloc [(.p (.int .i64 0)), (.p (.int .i64 0)), (.p (.bool false)), (.p (.str [])), (.full [])] H fun v0 h1 =>
  aBuild [(.full []), (.p (.int .i64 0)), (.p (.int .i64 0))] [(0, 1, x0)] fun v2 =>
  aBox v2 h1 fun v3 h4 =>
  aCall Tryd.prog (.p (.func wire_Reader_value_i [])) [v3, (.p (.int .i64 0))] h4 fun v5 h6 =>
  aAlloc [(.p (.int .i64 0)), (.p (.int .i64 0)), (.p (.bool false)), (.p (.str [])), (.full [])] h6 fun v7 h8 =>
  aStore 5 v7 v5 h8 fun _ h10 =>
  aNilCheck v3 fun v11 =>
  aFieldAddr 2 v11 fun v12 =>
  aLoad false 1 v12 h10 fun v13 =>
  aBin false false .neq v13 (.p (.int .i64 0)) fun v14 =>
  aGuard v14
  (aNilCheck v3 fun v15 =>
  aFieldAddr 2 v15 fun v16 =>
  (aBuild [(.p (.int .i64 0)), (.p (.int .i64 0)), (.p (.bool false)), (.p (.str [])), (.full [])] [] fun v17 =>
  (aLoad false 1 v16 h10 fun v18 =>
  aStore 5 v0 v17 h10 fun _ h20 =>
  aLoad true 5 v0 h20 fun v21 =>
  K (.tup [v21, (.p (.int .i64 0)), v18]) h20) ∧
  (aStore 5 v0 v17 h10 fun _ h23 =>
  aLoad false 1 v16 h23 fun v24 =>
  aLoad true 5 v0 h23 fun v25 =>
  K (.tup [v25, (.p (.int .i64 0)), v24]) h23)) ∧
  (aLoad false 1 v16 h10 fun v26 =>
  aBuild [(.p (.int .i64 0)), (.p (.int .i64 0)), (.p (.bool false)), (.p (.str [])), (.full [])] [] fun v27 =>
  aStore 5 v0 v27 h10 fun _ h29 =>
  aLoad true 5 v0 h29 fun v30 =>
  K (.tup [v30, (.p (.int .i64 0)), v26]) h29))
  (aNilCheck v3 fun v31 =>
  aFieldAddr 1 v31 fun v32 =>
  (aLoad true 5 v7 h10 fun v33 =>
  (aLoad false 1 v32 h10 fun v34 =>
  aStore 5 v0 v33 h10 fun _ h36 =>
  aLoad true 5 v0 h36 fun v37 =>
  K (.tup [v37, v34, (.p (.int .i64 0))]) h36) ∧
  (aStore 5 v0 v33 h10 fun _ h39 =>
  aLoad false 1 v32 h39 fun v40 =>
  aLoad true 5 v0 h39 fun v41 =>
  K (.tup [v41, v40, (.p (.int .i64 0))]) h39)) ∧
  (aLoad false 1 v32 h10 fun v42 =>
  aLoad true 5 v7 h10 fun v43 =>
  aStore 5 v0 v43 h10 fun _ h45 =>
  aLoad true 5 v0 h45 fun v46 =>
  K (.tup [v46, v42, (.p (.int .i64 0))]) h45))

def wire_Get_ann : Nat → List Nat := fun k => match k with | 3000004 => [1000] | 3000005 => [1000] | _ => []

theorem wire_Get_eq (x0 : AV) (H : List Ob) (r : AV) (Ho : List Ob) : aBody Tryd.prog wire_Get_ann Tryd.f62 H [x0] r Ho = wire_Get x0 H (fun v H' => Gives H.length v H' r Ho) := by kernel_rfl

theorem wire_Get_fnH {x0 : AV} {Hin : List Ob} {r : AV} {Ho : List Ob} (h : wire_Get x0 Hin (fun v H' => Gives Hin.length v H' r Ho)) : Abs.Fn Tryd.prog wire_Get_i Hin [x0] r Ho :=
  fn_intro mixed wire_Get_ann (fn := Tryd.f62) (by kernel_rfl) (by kernel_rfl) (by rw [wire_Get_eq]; exact h)

theorem wire_Get_fn {x0 : AV} {r : AV} {Ho : List Ob} (h : wire_Get x0 [] (fun v H' => Gives 0 v H' r Ho)) : Abs.Fn Tryd.prog wire_Get_i [] [x0] r Ho := wire_Get_fnH (Hin := []) h

/- (*runnel/wire.Reader).value -/
def wire_Reader_value_L1 (q1s0 q1s1 q1s4 q1s8 q1s9 y0 : AV) (H : List Ob) (B1 : List AV → List Ob → Prop) (K : AV → List Ob → Prop) : Prop :=
  aBin false false .lss y0 q1s8 fun v56 =>
  aMerge true v56 (fun Q57 =>
  aNilCheck q1s0 fun v58 =>
  aFieldAddr 2 v58 fun v59 =>
  aLoad false 1 v59 H fun v60 =>
  aBin false false .eql v60 (.p (.int .i64 0)) fun v61 =>
  (H = H ∧ Q57 v61)) fun v62 =>
  aGuard v62
  (aFieldAddr 4 q1s9 fun v63 =>
  (aLoad false 1 v63 H fun v64 =>
  aBin false false .add q1s1 (.p (.int .i64 1)) fun v65 =>
  aCall Tryd.prog (.p (.func wire_Reader_value_i [])) [q1s0, v65] H fun v66 h67 =>
  aBuildSlice 5 [v66] fun v68 =>
  aAppend false 5 64 v64 v68 h67 fun v69 h70 =>
  aFieldAddr 4 q1s9 fun v71 =>
  aStore 1 v71 v69 h70 fun _ h73 =>
  aBin false false .add y0 (.p (.int .i64 1)) fun v74 =>
  B1 [v74] h73) ∧
  (aBin false false .add q1s1 (.p (.int .i64 1)) fun v75 =>
  (aLoad false 1 v63 H fun v76 =>
  aCall Tryd.prog (.p (.func wire_Reader_value_i [])) [q1s0, v75] H fun v77 h78 =>
  aBuildSlice 5 [v77] fun v79 =>
  aAppend false 5 64 v76 v79 h78 fun v80 h81 =>
  aFieldAddr 4 q1s9 fun v82 =>
  aStore 1 v82 v80 h81 fun _ h84 =>
  aBin false false .add y0 (.p (.int .i64 1)) fun v85 =>
  B1 [v85] h84) ∧
  (aCall Tryd.prog (.p (.func wire_Reader_value_i [])) [q1s0, v75] H fun v86 h87 =>
  (aLoad false 1 v63 h87 fun v88 =>
  aBuildSlice 5 [v86] fun v89 =>
  aAppend false 5 64 v88 v89 h87 fun v90 h91 =>
  aFieldAddr 4 q1s9 fun v92 =>
  aStore 1 v92 v90 h91 fun _ h94 =>
  aBin false false .add y0 (.p (.int .i64 1)) fun v95 =>
  B1 [v95] h94) ∧
  (aBuildSlice 5 [v86] fun v96 =>
  aLoad false 1 v63 h87 fun v97 =>
  aAppend false 5 64 v97 v96 h87 fun v98 h99 =>
  aFieldAddr 4 q1s9 fun v100 =>
  aStore 1 v100 v98 h99 fun _ h102 =>
  aBin false false .add y0 (.p (.int .i64 1)) fun v103 =>
  B1 [v103] h102))))
  (aLoad true 5 q1s9 H fun v104 =>
  aStore 5 q1s4 v104 H fun _ h106 =>
  aLoad true 5 q1s4 h106 fun v107 =>
  K v107 h106)

def wire_Reader_value_J1 (j1s0 j1s1 j1s4 j1s5 j1s8 : AV) (H : List Ob) (K : AV → List Ob → Prop) : Prop :=
  aBuild [(.p (.int .i64 0)), (.p (.int .i64 0)), (.p (.bool false)), (.p (.str [])), (.full [])] [(0, 1, j1s5)] fun v51 =>
  aAlloc [(.p (.int .i64 0)), (.p (.int .i64 0)), (.p (.bool false)), (.p (.str [])), (.full [])] H fun v52 h53 =>
  aStore 5 v52 v51 h53 fun _ h55 =>
  aLoopN 1 [(.p (.int .i64 0))] h55 fun xs H B1 => wire_Reader_value_L1 j1s0 j1s1 j1s4 j1s8 v52 (xs.getD 0 .top) H B1 K

def wire_Reader_value (x0 x1 : AV) (H : List Ob) (K : AV → List Ob → Prop) : Prop :=
  aAlloc [(.p (.int .i64 0)), (.p (.int .i64 0)), (.p (.bool false)), (.p (.str [])), (.full [])] H fun v0 h1 =>
  aCall Tryd.prog (.p (.func wire_Reader_Byte_i [])) [x0] h1 fun v2 h3 =>
  aConvInt .i64 v2 fun v4 =>
  aBin false false .eql v4 (.p (.int .i64 1)) fun v5 =>
  aGuard v5
  (aCall Tryd.prog (.p (.func wire_Reader_Uint_i [])) [x0] h3 fun v6 h7 =>
  aBin false false .shr v6 (.p (.int .u64 1)) fun v8 =>
  aConvInt .i64 v8 fun v9 =>
  aBin false false .and v6 (.p (.int .u64 1)) fun v10 =>
  aConvInt .i64 v10 fun v11 =>
  aUn .neg v11 fun v12 =>
  aBin false false .xor v9 v12 fun v13 =>
  aCall Tryd.prog (.p (.func val_Int_i [])) [v13] h7 fun v14 h15 =>
  aStore 5 v0 v14 h15 fun _ h17 =>
  aLoad true 5 v0 h17 fun v18 =>
  K v18 h17)
  (aBin false false .eql v4 (.p (.int .i64 2)) fun v19 =>
  aGuard v19
  (aCall Tryd.prog (.p (.func wire_Reader_Byte_i [])) [x0] h3 fun v20 h21 =>
  aBin false false .gtr v20 (.p (.int .u8 1)) fun v22 =>
  aGuard v22
  (aCall Tryd.prog (.p (.func wire_Reader_Fail_i [])) [x0, (.p (.int .i64 2))] h21 fun _ h24 =>
  aBin false false .eql v20 (.p (.int .u8 1)) fun v25 =>
  aCall Tryd.prog (.p (.func val_Bool_i [])) [v25] h24 fun v26 h27 =>
  aStore 5 v0 v26 h27 fun _ h29 =>
  aLoad true 5 v0 h29 fun v30 =>
  K v30 h29)
  (aBin false false .eql v20 (.p (.int .u8 1)) fun v31 =>
  aCall Tryd.prog (.p (.func val_Bool_i [])) [v31] h21 fun v32 h33 =>
  aStore 5 v0 v32 h33 fun _ h35 =>
  aLoad true 5 v0 h35 fun v36 =>
  K v36 h35))
  (aBin false false .eql v4 (.p (.int .i64 3)) fun v37 =>
  aGuard v37
  (aCall Tryd.prog (.p (.func wire_text_i [])) [(.p (.int .u64 255))] h3 fun v38 h39 =>
  aCall Tryd.prog (.p (.func wire_field_string_i [])) [x0, v38] h39 fun v40 h41 =>
  aCall Tryd.prog (.p (.func val_Str_i [])) [v40] h41 fun v42 h43 =>
  aStore 5 v0 v42 h43 fun _ h45 =>
  aLoad true 5 v0 h45 fun v46 =>
  K v46 h45)
  (aBin false false .eql v4 (.p (.int .i64 4)) fun v47 =>
  aGuard v47
  (aCall Tryd.prog (.p (.func wire_Reader_Byte_i [])) [x0] h3 fun v48 h49 =>
  aConvInt .i64 v48 fun v50 =>
  aNilCheck x0 fun v108 =>
  aFieldAddr 2 v108 fun v109 =>
  aLoad false 1 v109 h49 fun v110 =>
  aBin false false .eql v110 (.p (.int .i64 0)) fun v111 =>
  aGuard v111
  (aCall Tryd.prog (.p (.func typ_Row_i [])) [v50, x1] h49 fun v112 h113 =>
  aCall Tryd.prog (.p (.func wire_Reader_Fail_i [])) [x0, v112] h113 fun _ h115 =>
  wire_Reader_value_J1 x0 x1 v0 v4 v50 h115 K)
  (wire_Reader_value_J1 x0 x1 v0 v4 v50 h49 K))
  (aCall Tryd.prog (.p (.func wire_Reader_Fail_i [])) [x0, (.p (.int .i64 5))] h3 fun _ h117 =>
  aBuild [(.p (.int .i64 0)), (.p (.int .i64 0)), (.p (.bool false)), (.p (.str [])), (.full [])] [] fun v118 =>
  aStore 5 v0 v118 h117 fun _ h120 =>
  aLoad true 5 v0 h120 fun v121 =>
  K v121 h120))))

def wire_Reader_value_ann : Nat → List Nat := fun k => match k with | 19 => [10] | 3000021 => [1000] | _ => []

theorem wire_Reader_value_eq (x0 x1 : AV) (H : List Ob) (r : AV) (Ho : List Ob) : aBody Tryd.prog wire_Reader_value_ann Tryd.f76 H [x0, x1] r Ho = wire_Reader_value x0 x1 H (fun v H' => Gives H.length v H' r Ho) := by kernel_rfl

theorem wire_Reader_value_fnH {x0 x1 : AV} {Hin : List Ob} {r : AV} {Ho : List Ob} (h : wire_Reader_value x0 x1 Hin (fun v H' => Gives Hin.length v H' r Ho)) : Abs.Fn Tryd.prog wire_Reader_value_i Hin [x0, x1] r Ho :=
  fn_intro mixed wire_Reader_value_ann (fn := Tryd.f76) (by kernel_rfl) (by kernel_rfl) (by rw [wire_Reader_value_eq]; exact h)

theorem wire_Reader_value_fn {x0 x1 : AV} {r : AV} {Ho : List Ob} (h : wire_Reader_value x0 x1 [] (fun v H' => Gives 0 v H' r Ho)) : Abs.Fn Tryd.prog wire_Reader_value_i [] [x0, x1] r Ho := wire_Reader_value_fnH (Hin := []) h

/- runnel/wire.field[string] -/
def wire_field_string (x0 x1 : AV) (H : List Ob) (K : AV → List Ob → Prop) : Prop :=
  aNilCheck x0 fun v0 =>
  aFieldAddr 2 v0 fun v1 =>
  aLoad false 1 v1 H fun v2 =>
  aBin false false .neq v2 (.p (.int .i64 0)) fun v3 =>
  aGuard v3
  (K (.p (.str [])) H)
  (aNilCheck x0 fun v4 =>
  aFieldAddr 0 v4 fun v5 =>
  aLoad false 1 v5 H fun v6 =>
  aNilCheck x0 fun v7 =>
  aFieldAddr 1 v7 fun v8 =>
  aLoad false 1 v8 H fun v9 =>
  aSlice false 1 v6 (some v9) none none fun v10 =>
  aCallT Tryd.prog x1 [v10] fun v11 =>
  aExtract v11 0 fun v12 =>
  aExtract v11 1 fun v13 =>
  aExtract v11 2 fun v14 =>
  aBin false false .neq v14 (.p (.int .i64 0)) fun v15 =>
  aGuard v15
  (aNilCheck x0 fun v16 =>
  aFieldAddr 2 v16 fun v17 =>
  aStore 1 v17 v14 H fun _ h19 =>
  K (.p (.str [])) h19)
  (aNilCheck x0 fun v20 =>
  aFieldAddr 1 v20 fun v21 =>
  aLoad false 1 v21 H fun v22 =>
  aBin false false .add v22 v13 fun v23 =>
  aNilCheck x0 fun v24 =>
  aFieldAddr 1 v24 fun v25 =>
  aStore 1 v25 v23 H fun _ h27 =>
  K v12 h27))

def wire_field_string_ann : Nat → List Nat := fun _ => []

theorem wire_field_string_eq (x0 x1 : AV) (H : List Ob) (r : AV) (Ho : List Ob) : aBody Tryd.prog wire_field_string_ann Tryd.f88 H [x0, x1] r Ho = wire_field_string x0 x1 H (fun v H' => Gives H.length v H' r Ho) := by kernel_rfl

theorem wire_field_string_fnH {x0 x1 : AV} {Hin : List Ob} {r : AV} {Ho : List Ob} (h : wire_field_string x0 x1 Hin (fun v H' => Gives Hin.length v H' r Ho)) : Abs.Fn Tryd.prog wire_field_string_i Hin [x0, x1] r Ho :=
  fn_intro mixed wire_field_string_ann (fn := Tryd.f88) (by kernel_rfl) (by kernel_rfl) (by rw [wire_field_string_eq]; exact h)

theorem wire_field_string_fn {x0 x1 : AV} {r : AV} {Ho : List Ob} (h : wire_field_string x0 x1 [] (fun v H' => Gives 0 v H' r Ho)) : Abs.Fn Tryd.prog wire_field_string_i [] [x0, x1] r Ho := wire_field_string_fnH (Hin := []) h

/- runnel/wire.text -/
def wire_text (x0 : AV) (H : List Ob) (K : AV → List Ob → Prop) : Prop :=
  aBox x0 H fun v0 h1 =>
  aMakeFunc wire_text_1_i [v0] h1 fun v2 h3 =>
  K v2 h3

def wire_text_ann : Nat → List Nat := fun _ => []

theorem wire_text_eq (x0 : AV) (H : List Ob) (r : AV) (Ho : List Ob) : aBody Tryd.prog wire_text_ann Tryd.f89 H [x0] r Ho = wire_text x0 H (fun v H' => Gives H.length v H' r Ho) := by kernel_rfl

theorem wire_text_fnH {x0 : AV} {Hin : List Ob} {r : AV} {Ho : List Ob} (h : wire_text x0 Hin (fun v H' => Gives Hin.length v H' r Ho)) : Abs.Fn Tryd.prog wire_text_i Hin [x0] r Ho :=
  fn_intro mixed wire_text_ann (fn := Tryd.f89) (by kernel_rfl) (by kernel_rfl) (by rw [wire_text_eq]; exact h)

theorem wire_text_fn {x0 : AV} {r : AV} {Ho : List Ob} (h : wire_text x0 [] (fun v H' => Gives 0 v H' r Ho)) : Abs.Fn Tryd.prog wire_text_i [] [x0] r Ho := wire_text_fnH (Hin := []) h

/- runnel/wire.text$1 -/
def wire_text_1 (x0 x1 : AV) (H : List Ob) (K : AV → List Ob → Prop) : Prop :=
  aCall Tryd.prog (.p (.func wire_Num_i [])) [x0] H fun v0 h1 =>
  aExtract v0 0 fun v2 =>
  aExtract v0 1 fun v3 =>
  aExtract v0 2 fun v4 =>
  aBin false false .neq v4 (.p (.int .i64 0)) fun v5 =>
  aGuard v5
  (K (.tup [(.p (.str [])), (.p (.int .i64 0)), v4]) h1)
  (aLoad false 1 x1 h1 fun v6 =>
  aBin false false .gtr v2 v6 fun v7 =>
  aGuard v7
  (K (.tup [(.p (.str [])), (.p (.int .i64 0)), (.p (.int .i64 4))]) h1)
  (aLen false false x0 fun v8 =>
  aBin false false .sub v8 v3 fun v9 =>
  aConvInt .u64 v9 fun v10 =>
  aBin false false .gtr v2 v10 fun v11 =>
  aGuard v11
  (K (.tup [(.p (.str [])), (.p (.int .i64 0)), (.p (.int .i64 3))]) h1)
  (aConvInt .i64 v2 fun v12 =>
  aBin false false .add v3 v12 fun v13 =>
  aSlice false 1 x0 (some v3) (some v13) none fun v14 =>
  aBytesStr v14 fun v15 =>
  aConvInt .i64 v2 fun v16 =>
  aBin false false .add v3 v16 fun v17 =>
  K (.tup [v15, v17, (.p (.int .i64 0))]) h1)))

def wire_text_1_ann : Nat → List Nat := fun _ => []

theorem wire_text_1_eq (x0 x1 : AV) (H : List Ob) (r : AV) (Ho : List Ob) : aBody Tryd.prog wire_text_1_ann Tryd.f92 H [x0, x1] r Ho = wire_text_1 x0 x1 H (fun v H' => Gives H.length v H' r Ho) := by kernel_rfl

theorem wire_text_1_fnH {x0 x1 : AV} {Hin : List Ob} {r : AV} {Ho : List Ob} (h : wire_text_1 x0 x1 Hin (fun v H' => Gives Hin.length v H' r Ho)) : Abs.Fn Tryd.prog wire_text_1_i Hin [x0, x1] r Ho :=
  fn_intro mixed wire_text_1_ann (fn := Tryd.f92) (by kernel_rfl) (by kernel_rfl) (by rw [wire_text_1_eq]; exact h)

theorem wire_text_1_fn {x0 x1 : AV} {r : AV} {Ho : List Ob} (h : wire_text_1 x0 x1 [] (fun v H' => Gives 0 v H' r Ho)) : Abs.Fn Tryd.prog wire_text_1_i [] [x0, x1] r Ho := wire_text_1_fnH (Hin := []) h

end Go.Proofs.YtgfnodmghaghpaaDoor
end

section
/- Made by program (Gen.lean): functions of the dump, over trees. -/
set_option maxRecDepth 4000
set_option linter.unusedVariables false
namespace Go.Proofs.YtgfnodmghaghpaaDoor
open Go Go.Abs

/- runnel/runnellaw11.CodeJumps -/
def runnellaw11_CodeJumps_J1 (j1s1 j1s7 j1s8 j1s9 : AV) (H : List Ob) (K : AV → List Ob → Prop) : Prop :=
  aConvInt .i64 j1s1 fun v15 =>
  aIndexAddr 7 j1s9 j1s8 fun v16 =>
  aFieldAddr 6 v16 fun v17 =>
  aStore 1 v17 v15 H fun _ h19 =>
  aCall Tryd.prog (.p (.func code_Check_i [])) [j1s9] h19 fun v20 h21 =>
  aExtract v20 0 fun v22 =>
  aExtract v20 1 fun v23 =>
  aConvInt .i64 j1s1 fun v24 =>
  aBin false false .gtr v24 j1s8 fun v25 =>
  aMerge true v25 (fun Q26 =>
  aConvInt .i64 j1s1 fun v27 =>
  aBin false false .lss v27 j1s7 fun v28 =>
  (h21 = h21 ∧ Q26 v28)) fun v29 =>
  aGuard v29
  (aBin false false .eql v23 (.p (.int .i64 0)) fun v30 =>
  aMerge true v30 (fun Q31 =>
  aBin false false .eql v22 (.p (.int .i64 0)) fun v32 =>
  (h21 = h21 ∧ Q31 v32)) fun v33 =>
  K v33 h21)
  (aBin false false .eql v23 (.p (.int .i64 1)) fun v34 =>
  aMerge true v34 (fun Q35 =>
  aBin false false .eql v22 j1s8 fun v36 =>
  (h21 = h21 ∧ Q35 v36)) fun v37 =>
  K v37 h21)

def runnellaw11_CodeJumps_L1 (q1s1 q1s2 q1s7 q1s8 y0 y1 : AV) (H : List Ob) (B1 : List AV → List Ob → Prop) (K : AV → List Ob → Prop) : Prop :=
  aBin false false .lss y1 q1s7 fun v5 =>
  aGuard v5
  (aBuild [(.p (.str [])), (.p (.int .i64 0)), (.p (.int .i64 0)), (.p (.bool false)), (.p (.str [])), (.full []), (.p (.int .i64 0))] [(0, 1, (.p (.str [120])))] fun v6 =>
  aBuildSlice 7 [v6] fun v7 =>
  aAppend false 7 88 y0 v7 H fun v8 h9 =>
  aBin false false .add y1 (.p (.int .i64 1)) fun v10 =>
  B1 [v8, v10] h9)
  (aIndexAddr 7 y0 q1s8 fun v11 =>
  aFieldAddr 0 v11 fun v12 =>
  aStore 1 v12 (.p (.str [106, 109, 112])) H fun _ h14 =>
  aGuard q1s2
  (aIndexAddr 7 y0 q1s8 fun v38 =>
  aFieldAddr 0 v38 fun v39 =>
  aStore 1 v39 (.p (.str [106, 102])) h14 fun _ h41 =>
  runnellaw11_CodeJumps_J1 q1s1 q1s7 q1s8 y0 h41 K)
  (runnellaw11_CodeJumps_J1 q1s1 q1s7 q1s8 y0 h14 K))

def runnellaw11_CodeJumps (x0 x1 x2 : AV) (H : List Ob) (K : AV → List Ob → Prop) : Prop :=
  aCall Tryd.prog (.p (.func runnellaw11_known_i [])) [] H fun v0 h1 =>
  aUn .not v0 fun v2 =>
  aGuard v2
  (K (.p (.bool false)) h1)
  (aConvInt .i64 x0 fun v3 =>
  aBin false false .rem v3 (.p (.int .i64 20)) fun v4 =>
  aLoopN 2 [(.full []), (.p (.int .i64 0))] h1 fun xs H B1 => runnellaw11_CodeJumps_L1 x1 x2 (.p (.int .i64 20)) v4 (xs.getD 0 .top) (xs.getD 1 .top) H B1 K)

def runnellaw11_CodeJumps_ann : Nat → List Nat := fun k => match k with | 7 => [9, 10] | _ => []

theorem runnellaw11_CodeJumps_eq (x0 x1 x2 : AV) (H : List Ob) (r : AV) (Ho : List Ob) : aBody Tryd.prog runnellaw11_CodeJumps_ann Tryd.f3 H [x0, x1, x2] r Ho = runnellaw11_CodeJumps x0 x1 x2 H (fun v H' => Gives H.length v H' r Ho) := by kernel_rfl

theorem runnellaw11_CodeJumps_fnH {x0 x1 x2 : AV} {Hin : List Ob} {r : AV} {Ho : List Ob} (h : runnellaw11_CodeJumps x0 x1 x2 Hin (fun v H' => Gives Hin.length v H' r Ho)) : Abs.Fn Tryd.prog runnellaw11_CodeJumps_i Hin [x0, x1, x2] r Ho :=
  fn_intro mixed runnellaw11_CodeJumps_ann (fn := Tryd.f3) (by kernel_rfl) (by kernel_rfl) (by rw [runnellaw11_CodeJumps_eq]; exact h)

theorem runnellaw11_CodeJumps_fn {x0 x1 x2 : AV} {r : AV} {Ho : List Ob} (h : runnellaw11_CodeJumps x0 x1 x2 [] (fun v H' => Gives 0 v H' r Ho)) : Abs.Fn Tryd.prog runnellaw11_CodeJumps_i [] [x0, x1, x2] r Ho := runnellaw11_CodeJumps_fnH (Hin := []) h

/- runnel/runnellaw11.CodePush -/
def runnellaw11_CodePush (x0 x1 : AV) (H : List Ob) (K : AV → List Ob → Prop) : Prop :=
  aCall Tryd.prog (.p (.func runnellaw11_known_i [])) [] H fun v0 h1 =>
  aUn .not v0 fun v2 =>
  aGuard v2
  (K (.p (.bool false)) h1)
  (aLen false true x1 fun v3 =>
  aBin false false .gtr v3 (.p (.int .i64 255)) fun v4 =>
  aGuard v4
  (K (.p (.bool true)) h1)
  (aCall Tryd.prog (.p (.func val_Int_i [])) [x0] h1 fun v5 h6 =>
  aCall Tryd.prog (.p (.func val_Str_i [])) [x1] h6 fun v7 h8 =>
  aBuildSlice 5 [v5, v7] fun v9 =>
  aCall Tryd.prog (.p (.func val_Tup_i [])) [v9] h8 fun v10 h11 =>
  aAlloc [(.p (.int .i64 0)), (.p (.int .i64 0)), (.p (.bool false)), (.p (.str [])), (.full [])] h11 fun v12 h13 =>
  aStore 5 v12 v10 h13 fun _ h15 =>
  aLoad true 5 v12 h15 fun v16 =>
  aBuild [(.p (.str [])), (.p (.int .i64 0)), (.p (.int .i64 0)), (.p (.bool false)), (.p (.str [])), (.full []), (.p (.int .i64 0))] [(0, 1, (.p (.str [112, 117, 115, 104]))), (1, 5, v16)] fun v17 =>
  aBuild [(.p (.str [])), (.p (.int .i64 0)), (.p (.int .i64 0)), (.p (.bool false)), (.p (.str [])), (.full []), (.p (.int .i64 0))] [(0, 1, (.p (.str [101, 109, 105, 116]))), (6, 1, (.p (.int .i64 1)))] fun v18 =>
  aBuild [(.p (.str [])), (.p (.int .i64 0)), (.p (.int .i64 0)), (.p (.bool false)), (.p (.str [])), (.full []), (.p (.int .i64 0))] [(0, 1, (.p (.str [114, 101, 116])))] fun v19 =>
  aBuildSlice 7 [v17, v18, v19] fun v20 =>
  aCall Tryd.prog (.p (.func code_Encode_i [])) [v20] h15 fun v21 h22 =>
  aExtract v21 0 fun v23 =>
  aExtract v21 1 fun v24 =>
  aCall Tryd.prog (.p (.func code_Decode_i [])) [v23] h22 fun v25 h26 =>
  aExtract v25 0 fun v27 =>
  aExtract v25 1 fun _ =>
  aExtract v25 2 fun v29 =>
  aCall Tryd.prog (.p (.func code_Text_i [])) [v20] h26 fun v30 h31 =>
  aBin false false .add v24 v29 fun v32 =>
  aBin false false .eql v32 (.p (.int .i64 0)) fun v33 =>
  aGuard v33
  (aLen true false v27 fun v34 =>
  aBin false false .eql v34 (.p (.int .i64 3)) fun v35 =>
  aGuard v35
  (aIndexAddr 7 v27 (.p (.int .i64 0)) fun v36 =>
  aFieldAddr 1 v36 fun v37 =>
  aLoad true 5 v37 h31 fun v38 =>
  aLoad true 5 v12 h31 fun v39 =>
  aCallT Tryd.prog (.p (.func val_Same_i [])) [v38, v39] fun v40 =>
  aGuard v40
  (aLen true false v30 fun v41 =>
  aBin false false .eql v41 (.p (.int .i64 3)) fun v42 =>
  aGuard v42
  (aIndexAddr 1 v30 (.p (.int .i64 0)) fun v43 =>
  aLoad false 1 v43 h31 fun v44 =>
  aLoad true 5 v12 h31 fun v45 =>
  aCallT Tryd.prog (.p (.func val_Text_i [])) [v45] fun v46 =>
  aBin false false .add (.p (.str [48, 32, 112, 117, 115, 104, 32])) v46 fun v47 =>
  aBin false false .eql v44 v47 fun v48 =>
  K v48 h31)
  (K (.p (.bool false)) h31))
  (K (.p (.bool false)) h31))
  (K (.p (.bool false)) h31))
  (K (.p (.bool false)) h31)))

def runnellaw11_CodePush_ann : Nat → List Nat := fun _ => []

theorem runnellaw11_CodePush_eq (x0 x1 : AV) (H : List Ob) (r : AV) (Ho : List Ob) : aBody Tryd.prog runnellaw11_CodePush_ann Tryd.f4 H [x0, x1] r Ho = runnellaw11_CodePush x0 x1 H (fun v H' => Gives H.length v H' r Ho) := by kernel_rfl

theorem runnellaw11_CodePush_fnH {x0 x1 : AV} {Hin : List Ob} {r : AV} {Ho : List Ob} (h : runnellaw11_CodePush x0 x1 Hin (fun v H' => Gives Hin.length v H' r Ho)) : Abs.Fn Tryd.prog runnellaw11_CodePush_i Hin [x0, x1] r Ho :=
  fn_intro mixed runnellaw11_CodePush_ann (fn := Tryd.f4) (by kernel_rfl) (by kernel_rfl) (by rw [runnellaw11_CodePush_eq]; exact h)

theorem runnellaw11_CodePush_fn {x0 x1 : AV} {r : AV} {Ho : List Ob} (h : runnellaw11_CodePush x0 x1 [] (fun v H' => Gives 0 v H' r Ho)) : Abs.Fn Tryd.prog runnellaw11_CodePush_i [] [x0, x1] r Ho := runnellaw11_CodePush_fnH (Hin := []) h

/- runnel/runnellaw11.known -/
def runnellaw11_known (H : List Ob) (K : AV → List Ob → Prop) : Prop :=
  aCall Tryd.prog (.p (.func val_Int_i [])) [(.p (.int .i64 (-2)))] H fun v0 h1 =>
  aBuild [(.p (.str [])), (.p (.int .i64 0)), (.p (.int .i64 0)), (.p (.bool false)), (.p (.str [])), (.full []), (.p (.int .i64 0))] [(0, 1, (.p (.str [112, 117, 115, 104]))), (1, 5, v0)] fun v2 =>
  aBuild [(.p (.str [])), (.p (.int .i64 0)), (.p (.int .i64 0)), (.p (.bool false)), (.p (.str [])), (.full []), (.p (.int .i64 0))] [(0, 1, (.p (.str [101, 109, 105, 116]))), (6, 1, (.p (.int .i64 1)))] fun v3 =>
  aBuild [(.p (.str [])), (.p (.int .i64 0)), (.p (.int .i64 0)), (.p (.bool false)), (.p (.str [])), (.full []), (.p (.int .i64 0))] [(0, 1, (.p (.str [114, 101, 116])))] fun v4 =>
  aBuildSlice 7 [v2, v3, v4] fun v5 =>
  aCall Tryd.prog (.p (.func code_Check_i [])) [v5] h1 fun v6 h7 =>
  aExtract v6 0 fun v8 =>
  aExtract v6 1 fun v9 =>
  aBuild [(.p (.str [])), (.p (.int .i64 0)), (.p (.int .i64 0)), (.p (.bool false)), (.p (.str [])), (.full []), (.p (.int .i64 0))] [(0, 1, (.p (.str [106, 109, 112]))), (6, 1, (.p (.int .i64 0)))] fun v10 =>
  aBuildSlice 7 [v10] fun v11 =>
  aCall Tryd.prog (.p (.func code_Check_i [])) [v11] h7 fun v12 h13 =>
  aExtract v12 0 fun v14 =>
  aExtract v12 1 fun v15 =>
  aCall Tryd.prog (.p (.func code_Text_i [])) [v5] h13 fun v16 h17 =>
  aCall Tryd.prog (.p (.func code_Encode_i [])) [v5] h17 fun v18 h19 =>
  aExtract v18 0 fun v20 =>
  aExtract v18 1 fun v21 =>
  aCall Tryd.prog (.p (.func code_Decode_i [])) [v20] h19 fun v22 h23 =>
  aExtract v22 0 fun v24 =>
  aExtract v22 1 fun _ =>
  aExtract v22 2 fun v26 =>
  aBin false false .add v9 v21 fun v27 =>
  aBin false false .add v27 v26 fun v28 =>
  aBin false false .eql v28 (.p (.int .i64 0)) fun v29 =>
  aMerge true v29 (fun Q30 =>
  aBin false false .eql v8 (.p (.int .i64 0)) fun v31 =>
  (h23 = h23 ∧ Q30 v31)) fun v32 =>
  aMerge true v32 (fun Q33 =>
  aBin false false .eql v14 (.p (.int .i64 0)) fun v34 =>
  (h23 = h23 ∧ Q33 v34)) fun v35 =>
  aMerge true v35 (fun Q36 =>
  aBin false false .eql v15 (.p (.int .i64 1)) fun v37 =>
  (h23 = h23 ∧ Q36 v37)) fun v38 =>
  aMerge true v38 (fun Q39 =>
  aLenS false v16 fun v40 =>
  aBin false false .eql v40 (.p (.int .i64 3)) fun v41 =>
  (h23 = h23 ∧ Q39 v41)) fun v42 =>
  aMerge true v42 (fun Q43 =>
  aIndexAddr 1 v16 (.p (.int .i64 0)) fun v44 =>
  aLoad false 1 v44 h23 fun v45 =>
  aBin false false .eql v45 (.p (.str [48, 32, 112, 117, 115, 104, 32, 45, 50])) fun v46 =>
  (h23 = h23 ∧ Q43 v46)) fun v47 =>
  aMerge true v47 (fun Q48 =>
  aIndexAddr 1 v16 (.p (.int .i64 1)) fun v49 =>
  aLoad false 1 v49 h23 fun v50 =>
  aBin false false .eql v50 (.p (.str [49, 32, 101, 109, 105, 116, 32, 49])) fun v51 =>
  (h23 = h23 ∧ Q48 v51)) fun v52 =>
  aMerge true v52 (fun Q53 =>
  aLenS false v20 fun v54 =>
  aBin false false .eql v54 (.p (.int .i64 7)) fun v55 =>
  (h23 = h23 ∧ Q53 v55)) fun v56 =>
  aMerge true v56 (fun Q57 =>
  aLenS false v24 fun v58 =>
  aBin false false .eql v58 (.p (.int .i64 3)) fun v59 =>
  (h23 = h23 ∧ Q57 v59)) fun v60 =>
  aMerge true v60 (fun Q61 =>
  aIndexAddr 7 v24 (.p (.int .i64 1)) fun v62 =>
  aFieldAddr 6 v62 fun v63 =>
  aLoad false 1 v63 h23 fun v64 =>
  aBin false false .eql v64 (.p (.int .i64 1)) fun v65 =>
  (h23 = h23 ∧ Q61 v65)) fun v66 =>
  K v66 h23

def runnellaw11_known_ann : Nat → List Nat := fun _ => []

theorem runnellaw11_known_eq (H : List Ob) (r : AV) (Ho : List Ob) : aBody Tryd.prog runnellaw11_known_ann Tryd.f5 H [] r Ho = runnellaw11_known H (fun v H' => Gives H.length v H' r Ho) := by kernel_rfl

theorem runnellaw11_known_fnH {Hin : List Ob} {r : AV} {Ho : List Ob} (h : runnellaw11_known Hin (fun v H' => Gives Hin.length v H' r Ho)) : Abs.Fn Tryd.prog runnellaw11_known_i Hin [] r Ho :=
  fn_intro mixed runnellaw11_known_ann (fn := Tryd.f5) (by kernel_rfl) (by kernel_rfl) (by rw [runnellaw11_known_eq]; exact h)

theorem runnellaw11_known_fn {r : AV} {Ho : List Ob} (h : runnellaw11_known [] (fun v H' => Gives 0 v H' r Ho)) : Abs.Fn Tryd.prog runnellaw11_known_i [] [] r Ho := runnellaw11_known_fnH (Hin := []) h

end Go.Proofs.YtgfnodmghaghpaaDoor
end
