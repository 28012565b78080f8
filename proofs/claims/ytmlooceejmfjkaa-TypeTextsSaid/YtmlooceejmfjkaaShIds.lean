/- Made by program (Gen.lean): the functions' numbers. -/
import Derived.Test.YtmlooceejmfjkaaProg
import Derived.Test.YtmlooceejmfjkaaAbsSimp
import Derived.Test.YtmlooceejmfjkaaAbsCut
import Derived.KernelRfl
namespace Go.Proofs.Ytmlooceejmfjkaa
open Go Go.Abs

theorem mixed : Try.prog.follows .mixedOrders = true := by kernel_rfl

abbrev main_main_i : Nat := 0
abbrev gosem_cut_i : Nat := 1
abbrev gosem_cut_init_i : Nat := 2
abbrev runnellaw12_GenAny_i : Nat := 3
abbrev runnellaw12_GenSizes_i : Nat := 4
abbrev runnellaw1_TypeTexts_i : Nat := 5
abbrev runnellaw1_TypeDeep_i : Nat := 6
abbrev runnellaw1_TypeWide_i : Nat := 7
abbrev runnellaw12_known_i : Nat := 8
abbrev runnellaw7_Few_i : Nat := 9
abbrev runnellaw1_Few_i : Nat := 10
abbrev runnellaw7_Of_i : Nat := 11
abbrev runnellaw1_Of_i : Nat := 12
abbrev runnelref10_Out_i : Nat := 13
abbrev runnellaw11_Same_i : Nat := 14
abbrev gen_Of_i : Nat := 15
abbrev runnelref14_Gen_i : Nat := 16
abbrev runnelref10_Keyed_i : Nat := 17
abbrev gen_Key_i : Nat := 18
abbrev runnelref14_GenKey_i : Nat := 19
abbrev gen_Expr_i : Nat := 20
abbrev runnelref14_GenExpr_i : Nat := 21
abbrev runnellaw4_X_i : Nat := 22
abbrev runnellaw4_Op_i : Nat := 23
abbrev runnellaw4_Lit_i : Nat := 24
abbrev val_Bool_i : Nat := 25
abbrev runnellaw4_Of_i : Nat := 26
abbrev runnellaw1_known_i : Nat := 27
abbrev typ_Parse_i : Nat := 28
abbrev runnelref6_ParseType_i : Nat := 29
abbrev runnelref6_SameType_i : Nat := 30
abbrev typ_Text_i : Nat := 31
abbrev typ_Check_i : Nat := 32
abbrev typ_Same_i : Nat := 33
abbrev val_Int_i : Nat := 34
abbrev runnellaw4_Few_i : Nat := 35
abbrev runnellaw1_budget_i : Nat := 36
abbrev runnelref10_Good_i : Nat := 37
abbrev runnelref10_fields_i : Nat := 38
abbrev runnelref10_ins_i : Nat := 39
abbrev runnelref6_CheckType_i : Nat := 40
abbrev runnelref6_CheckExpr_i : Nat := 41
abbrev runnelref10_made_i : Nat := 42
abbrev runnellaw2_SameAll_i : Nat := 43
abbrev gen_join_i : Nat := 44
abbrev gen_each_expr_Expr_i : Nat := 45
abbrev gen_emits_i : Nat := 46
abbrev gen_one_i : Nat := 47
abbrev runnelref14_one_i : Nat := 48
abbrev runnelref14_join_i : Nat := 49
abbrev gen_push_i : Nat := 50
abbrev gen_choice_i : Nat := 51
abbrev runnelref14_choose_i : Nat := 52
abbrev runnelref14_yes_i : Nat := 53
abbrev runnellaw2_Of_i : Nat := 54
abbrev typ_read_i : Nat := 55
abbrev runnelref6_typeAt_i : Nat := 56
abbrev typ_word_i : Nat := 57
abbrev strings_Join_i : Nat := 58
abbrev typ_check_i : Nat := 59
abbrev slices_EqualFunc_typ_Type_typ_Type_typ_Type_typ_Type_i : Nat := 60
abbrev runnellaw4_budget_i : Nat := 61
abbrev runnelref10_bare_i : Nat := 62
abbrev runnelref6_checkType_i : Nat := 63
abbrev runnelref6_Size_i : Nat := 64
abbrev runnelref6_check_i : Nat := 65
abbrev runnelref6_Plain_i : Nat := 66
abbrev runnelref6_Same_i : Nat := 67
abbrev runnelref14_moved_i : Nat := 68
abbrev runnelref6_Yes_i : Nat := 69
abbrev strings_CutPrefix_i : Nat := 70
abbrev runnelref6_front_i : Nat := 71
abbrev strings_Builder_Grow_i : Nat := 72
abbrev strings_Builder_WriteString_i : Nat := 73
abbrev strings_Builder_String_i : Nat := 74
abbrev typ_Row_i : Nat := 75
abbrev typ_each_typ_Type_i : Nat := 76
abbrev typ_check_1_i : Nat := 77
abbrev runnellaw2_Few_i : Nat := 78
abbrev runnelref6_Arity_i : Nat := 79
abbrev runnelref6_nought_i : Nat := 80
abbrev runnelref6_CheckValue_i : Nat := 81
abbrev runnelref6_TypeOf_i : Nat := 82
abbrev runnelref6_OpType_i : Nat := 83
abbrev runnelref6_Compare_i : Nat := 84
abbrev internal_stringslite_CutPrefix_i : Nat := 85
abbrev strings_Builder_copyCheck_i : Nat := 86
abbrev strings_Builder_grow_i : Nat := 87
abbrev runnellaw2_budget_i : Nat := 88
abbrev runnelref6_checkValue_i : Nat := 89
abbrev runnelref6_less_i : Nat := 90
abbrev internal_stringslite_HasPrefix_i : Nat := 91
abbrev internal_abi_NoEscape_i : Nat := 92
abbrev internal_bytealg_MakeNoZero_i : Nat := 93
abbrev runtime_boundsError_Error_i : Nat := 94
abbrev runtime_boundsError_RuntimeError_i : Nat := 95
abbrev runtime_errorString_Error_i : Nat := 96
abbrev runtime_errorString_RuntimeError_i : Nat := 97
abbrev runtime_plainError_Error_i : Nat := 98
abbrev runtime_plainError_RuntimeError_i : Nat := 99
abbrev runtime_errorAddressString_Error_i : Nat := 100
abbrev runtime_errorAddressString_RuntimeError_i : Nat := 101
abbrev runtime_TypeAssertionError_Error_i : Nat := 102
abbrev runtime_TypeAssertionError_RuntimeError_i : Nat := 103
abbrev runtime_PanicNilError_Error_i : Nat := 104
abbrev runtime_PanicNilError_RuntimeError_i : Nat := 105
abbrev internal_abi_Type_Align_i : Nat := 106
abbrev internal_runtime_maps_unhashableTypeError_Error_i : Nat := 107
abbrev internal_runtime_maps_unhashableTypeError_RuntimeError_i : Nat := 108
abbrev expr_Expr_fields_i : Nat := 109
abbrev op_Op_fields_i : Nat := 110
abbrev api_Errno_Error_i : Nat := 111
abbrev code_Inst_right_i : Nat := 112
abbrev strings_Builder_Reset_i : Nat := 113
abbrev internal_abi_Kind_String_i : Nat := 114
abbrev op_span_in_i : Nat := 115

end Go.Proofs.Ytmlooceejmfjkaa
