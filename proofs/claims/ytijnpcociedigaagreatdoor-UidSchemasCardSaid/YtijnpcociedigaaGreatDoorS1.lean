/- Made by program (Gen.lean): the functions' numbers. -/
import Derived.Test.YtijnpcociedigaaGreatDoorProg
import Derived.KernelRfl
import Derived.Test.YtijnpcociedigaaGreatDoorA3

section
/- Made by program (Gen.lean): the functions' numbers. -/
namespace Go.Proofs.YtijnpcociedigaaGreatDoor
open Go Go.Abs

theorem mixed : Tryz.prog.follows .mixedOrders = true := by kernel_rfl

abbrev runnellaw9_UidSchemas_i : Nat := 6
abbrev runnellaw9_known_i : Nat := 7
abbrev uid_IDs_i : Nat := 10
abbrev uid_Find_i : Nat := 12
abbrev uid_Schema_i : Nat := 13
abbrev runnellaw4_Op_i : Nat := 15
abbrev runnellaw4_X_i : Nat := 16
abbrev runnellaw4_Lit_i : Nat := 17
abbrev val_Int_i : Nat := 18
abbrev runnellaw9_ref0_i : Nat := 19
abbrev graph_Check_i : Nat := 20
abbrev runnellaw8_Small_i : Nat := 21
abbrev uid_plain_i : Nat := 25
abbrev strconv_Itoa_i : Nat := 26
abbrev uid_find_string_i : Nat := 29
abbrev graph_Types_i : Nat := 30
abbrev uid_Schema_1_i : Nat := 31
abbrev expr_Check_i : Nat := 32
abbrev typ_Text_i : Nat := 33
abbrev strings_Join_i : Nat := 34
abbrev val_Text_i : Nat := 39
abbrev graph_Node_check_i : Nat := 40
abbrev graph_Outs_i : Nat := 41
abbrev slices_Clip_typ_Type_typ_Type_i : Nat := 49
abbrev typ_Check_i : Nat := 50
abbrev expr_Size_i : Nat := 51
abbrev expr_check_i : Nat := 52
abbrev typ_word_i : Nat := 53
abbrev strconv_FormatInt_i : Nat := 60
abbrev strconv_FormatBool_i : Nat := 61
abbrev val_quote_i : Nat := 62
abbrev graph_Node_check_1_i : Nat := 63
abbrev graph_Node_check_2_i : Nat := 64
abbrev op_Name_i : Nat := 65
abbrev slices_ContainsFunc_graph_Graph_graph_Node_i : Nat := 66
abbrev graph_Node_ins_i : Nat := 67
abbrev op_Out_i : Nat := 68
abbrev graph_of_i : Nat := 69
abbrev graph_weight_i : Nat := 70
abbrev slices_Clone_graph_Graph_graph_Node_i : Nat := 71
abbrev graph_which_graph_Node_i : Nat := 72
abbrev graph_Outs_1_i : Nat := 73
abbrev slices_Contains_int_int_i : Nat := 74
abbrev typ_check_i : Nat := 82
abbrev expr_find_string_expr_shape_i : Nat := 83
abbrev expr_shapes_i : Nat := 84
abbrev expr_Expr_fields_i : Nat := 85
abbrev val_Check_i : Nat := 86
abbrev expr_fits_i : Nat := 87
abbrev expr_Expr_comes_i : Nat := 88
abbrev internal_strconv_FormatBool_i : Nat := 97
abbrev slices_IndexFunc_graph_Graph_graph_Node_i : Nat := 98
abbrev op_of_op_shape_i : Nat := 99
abbrev op_shapes_i : Nat := 100
abbrev op_Op_fields_i : Nat := 101
abbrev op_types_i : Nat := 102
abbrev op_Op_es_i : Nat := 103
abbrev op_Op_fits_i : Nat := 104
abbrev op_Op_goes_i : Nat := 105
abbrev slices_Clip_int_int_i : Nat := 106
abbrev slices_Index_int_int_i : Nat := 107
abbrev typ_Row_i : Nat := 117
abbrev typ_each_typ_Type_i : Nat := 118
abbrev typ_check_1_i : Nat := 119
abbrev expr_none_i : Nat := 120
abbrev val_check_i : Nat := 121
abbrev typ_Same_i : Nat := 122
abbrev val_TypeOf_i : Nat := 123
abbrev op_nothing_i : Nat := 129
abbrev op_span_in_i : Nat := 130
abbrev op_alike_i : Nat := 131
abbrev val_Same_i : Nat := 139
abbrev val_spare_i : Nat := 140
abbrev slices_EqualFunc_typ_Type_typ_Type_typ_Type_typ_Type_i : Nat := 141
abbrev val_kind_i : Nat := 142
abbrev val_Compare_i : Nat := 146
abbrev cmp_Or_int_i : Nat := 147
abbrev cmp_Compare_int_i : Nat := 148
abbrev cmp_Compare_int64_i : Nat := 149
abbrev val_truth_i : Nat := 150
abbrev strings_Compare_i : Nat := 151
abbrev val_rows_val_Value_i : Nat := 152
abbrev cmp_isNaN_int_i : Nat := 153
abbrev cmp_isNaN_int64_i : Nat := 154
abbrev internal_bytealg_CompareString_i : Nat := 155
abbrev slices_CompareFunc_val_Value_val_Value_val_Value_val_Value_i : Nat := 156
end Go.Proofs.YtijnpcociedigaaGreatDoor
end

section
/- Made by program (Gen.lean): functions of the dump, over trees. -/
set_option maxRecDepth 4000
set_option linter.unusedVariables false
namespace Go.Proofs.YtijnpcociedigaaGreatDoor
open Go Go.Abs

/- runnel/typ.Text -/
def typ_Text_L1 (q1s13 q1s14 y0 y1 : AV) (H : List Ob) (B1 : List AV → List Ob → Prop) (K : AV → List Ob → Prop) : Prop :=
  aBin false false .lss y1 q1s14 fun v12 =>
  aGuard v12
  (aIndexAddr 2 q1s13 y1 fun v13 =>
  aLoad true 2 v13 H fun v14 =>
  aAlloc [(.p (.int .i64 0)), (.full [])] H fun v15 h16 =>
  aStore 2 v15 v14 h16 fun _ h18 =>
  aLoad true 2 v15 h18 fun v19 =>
  aCall Tryz.prog (.p (.func typ_Text_i [])) [v19] h18 fun v20 h21 =>
  aBuildSlice 1 [v20] fun v22 =>
  aAppend false 1 16 y0 v22 h21 fun v23 h24 =>
  aBin false false .add y1 (.p (.int .i64 1)) fun v25 =>
  B1 [v23, v25] h24)
  (aCall Tryz.prog (.p (.func strings_Join_i [])) [y0, (.p (.str [44]))] H fun v26 h27 =>
  aBin false false .add (.p (.str [40])) v26 fun v28 =>
  aBin false false .add v28 (.p (.str [41])) fun v29 =>
  K v29 h27)

def typ_Text (x0 : AV) (H : List Ob) (K : AV → List Ob → Prop) : Prop :=
  aBox x0 H fun v0 h1 =>
  aFieldAddr 0 v0 fun v2 =>
  aLoad false 1 v2 h1 fun v3 =>
  aBin false false .neq v3 (.p (.int .i64 4)) fun v4 =>
  aGuard v4
  (aFieldAddr 0 v0 fun v5 =>
  aLoad false 1 v5 h1 fun v6 =>
  aCall Tryz.prog (.p (.func typ_word_i [])) [v6] h1 fun v7 h8 =>
  K v7 h8)
  (aFieldAddr 1 v0 fun v9 =>
  aLoad false 1 v9 h1 fun v10 =>
  aLen false false v10 fun v11 =>
  aLoopN 2 [(.full []), (.p (.int .i64 0))] h1 fun xs H B1 => typ_Text_L1 v10 v11 (xs.getD 0 .top) (xs.getD 1 .top) H B1 K)

def typ_Text_ann : Nat → List Nat := fun k => match k with | 5 => [3, 15] | _ => []

theorem typ_Text_eq (x0 : AV) (H : List Ob) (r : AV) (Ho : List Ob) : aBody Tryz.prog typ_Text_ann Tryz.f33 H [x0] r Ho = typ_Text x0 H (fun v H' => Gives H.length v H' r Ho) := by kernel_rfl

theorem typ_Text_fn {x0 : AV} {r : AV} {Ho : List Ob} (h : typ_Text x0 [] (fun v H' => Gives 0 v H' r Ho)) : Abs.Fn Tryz.prog typ_Text_i [] [x0] r Ho :=
  fn_intro mixed typ_Text_ann (fn := Tryz.f33) (by kernel_rfl) (by kernel_rfl) (by rw [typ_Text_eq]; exact h)

/- slices.Clip[[]runnel/typ.Type,runnel/typ.Type] -/
def slices_Clip_typ_Type_typ_Type (x0 : AV) (H : List Ob) (K : AV → List Ob → Prop) : Prop :=
  aLen false false x0 fun v0 =>
  aLen false false x0 fun v1 =>
  aSlice false 2 x0 none (some v0) (some v1) fun v2 =>
  K v2 H

def slices_Clip_typ_Type_typ_Type_ann : Nat → List Nat := fun _ => []

theorem slices_Clip_typ_Type_typ_Type_eq (x0 : AV) (H : List Ob) (r : AV) (Ho : List Ob) : aBody Tryz.prog slices_Clip_typ_Type_typ_Type_ann Tryz.f49 H [x0] r Ho = slices_Clip_typ_Type_typ_Type x0 H (fun v H' => Gives H.length v H' r Ho) := by kernel_rfl

theorem slices_Clip_typ_Type_typ_Type_fn {x0 : AV} {r : AV} {Ho : List Ob} (h : slices_Clip_typ_Type_typ_Type x0 [] (fun v H' => Gives 0 v H' r Ho)) : Abs.Fn Tryz.prog slices_Clip_typ_Type_typ_Type_i [] [x0] r Ho :=
  fn_intro mixed slices_Clip_typ_Type_typ_Type_ann (fn := Tryz.f49) (by kernel_rfl) (by kernel_rfl) (by rw [slices_Clip_typ_Type_typ_Type_eq]; exact h)

/- runnel/typ.Check -/
def typ_Check (x0 : AV) (H : List Ob) (K : AV → List Ob → Prop) : Prop :=
  aBox x0 H fun v0 h1 =>
  aLoad true 2 v0 h1 fun v2 =>
  aCall Tryz.prog (.p (.func typ_check_i [])) [v2, (.p (.int .i64 0))] h1 fun v3 h4 =>
  K v3 h4

def typ_Check_ann : Nat → List Nat := fun _ => []

theorem typ_Check_eq (x0 : AV) (H : List Ob) (r : AV) (Ho : List Ob) : aBody Tryz.prog typ_Check_ann Tryz.f50 H [x0] r Ho = typ_Check x0 H (fun v H' => Gives H.length v H' r Ho) := by kernel_rfl

theorem typ_Check_fn {x0 : AV} {r : AV} {Ho : List Ob} (h : typ_Check x0 [] (fun v H' => Gives 0 v H' r Ho)) : Abs.Fn Tryz.prog typ_Check_i [] [x0] r Ho :=
  fn_intro mixed typ_Check_ann (fn := Tryz.f50) (by kernel_rfl) (by kernel_rfl) (by rw [typ_Check_eq]; exact h)

/- runnel/typ.word -/
def typ_word (x0 : AV) (H : List Ob) (K : AV → List Ob → Prop) : Prop :=
  aBin false false .eql x0 (.p (.int .i64 1)) fun v0 =>
  aGuard v0
  (K (.p (.str [105, 110, 116])) H)
  (aBin false false .eql x0 (.p (.int .i64 2)) fun v1 =>
  aGuard v1
  (K (.p (.str [98, 111, 111, 108])) H)
  (aBin false false .eql x0 (.p (.int .i64 3)) fun v2 =>
  aGuard v2
  (K (.p (.str [116, 101, 120, 116])) H)
  (K (.p (.str [])) H)))

def typ_word_ann : Nat → List Nat := fun _ => []

theorem typ_word_eq (x0 : AV) (H : List Ob) (r : AV) (Ho : List Ob) : aBody Tryz.prog typ_word_ann Tryz.f53 H [x0] r Ho = typ_word x0 H (fun v H' => Gives H.length v H' r Ho) := by kernel_rfl

theorem typ_word_fn {x0 : AV} {r : AV} {Ho : List Ob} (h : typ_word x0 [] (fun v H' => Gives 0 v H' r Ho)) : Abs.Fn Tryz.prog typ_word_i [] [x0] r Ho :=
  fn_intro mixed typ_word_ann (fn := Tryz.f53) (by kernel_rfl) (by kernel_rfl) (by rw [typ_word_eq]; exact h)

/- runnel/typ.check -/
def typ_check (x0 x1 : AV) (H : List Ob) (K : AV → List Ob → Prop) : Prop :=
  aBox x0 H fun v0 h1 =>
  aBox x1 h1 fun v2 h3 =>
  aFieldAddr 0 v0 fun v4 =>
  aLoad false 1 v4 h3 fun v5 =>
  aBin false false .eql v5 (.p (.int .i64 1)) fun v6 =>
  aMerge false v6 (fun Q7 =>
  aBin false false .eql v5 (.p (.int .i64 2)) fun v8 =>
  aMerge false v8 (fun Q9 =>
  aBin false false .eql v5 (.p (.int .i64 3)) fun v10 =>
  (h3 = h3 ∧ Q9 v10)) fun v11 =>
  (h3 = h3 ∧ Q7 v11)) fun v12 =>
  aGuard v12
  (aFieldAddr 1 v0 fun v13 =>
  aLoad false 1 v13 h3 fun v14 =>
  aLen false false v14 fun v15 =>
  aBin false false .gtr v15 (.p (.int .i64 0)) fun v16 =>
  aGuard v16
  (K (.p (.int .i64 5)) h3)
  (K (.p (.int .i64 0)) h3))
  (aBin false false .eql v5 (.p (.int .i64 4)) fun v17 =>
  aGuard v17
  (aFieldAddr 1 v0 fun v18 =>
  aLoad false 1 v18 h3 fun v19 =>
  aLen false false v19 fun v20 =>
  aLoad false 1 v2 h3 fun v21 =>
  aCall Tryz.prog (.p (.func typ_Row_i [])) [v20, v21] h3 fun v22 h23 =>
  aBin false false .neq v22 (.p (.int .i64 0)) fun v24 =>
  aGuard v24
  (K v22 h23)
  (aFieldAddr 1 v0 fun v25 =>
  aLoad false 1 v25 h23 fun v26 =>
  aMakeFunc typ_check_1_i [v2] h23 fun v27 h28 =>
  aCall Tryz.prog (.p (.func typ_each_typ_Type_i [])) [v26, v27] h28 fun v29 h30 =>
  K v29 h30))
  (K (.p (.int .i64 5)) h3))

def typ_check_ann : Nat → List Nat := fun k => match k with | 1000004 => [1] | 1000003 => [1] | _ => []

theorem typ_check_eq (x0 x1 : AV) (H : List Ob) (r : AV) (Ho : List Ob) : aBody Tryz.prog typ_check_ann Tryz.f82 H [x0, x1] r Ho = typ_check x0 x1 H (fun v H' => Gives H.length v H' r Ho) := by kernel_rfl

theorem typ_check_fn {x0 x1 : AV} {r : AV} {Ho : List Ob} (h : typ_check x0 x1 [] (fun v H' => Gives 0 v H' r Ho)) : Abs.Fn Tryz.prog typ_check_i [] [x0, x1] r Ho :=
  fn_intro mixed typ_check_ann (fn := Tryz.f82) (by kernel_rfl) (by kernel_rfl) (by rw [typ_check_eq]; exact h)

/- runnel/typ.Row -/
def typ_Row (x0 x1 : AV) (H : List Ob) (K : AV → List Ob → Prop) : Prop :=
  aBin false false .eql x0 (.p (.int .i64 0)) fun v0 =>
  aGuard v0
  (K (.p (.int .i64 1)) H)
  (aBin false false .gtr x0 (.p (.int .i64 8)) fun v1 =>
  aGuard v1
  (K (.p (.int .i64 10)) H)
  (aBin false false .gtr x1 (.p (.int .i64 4)) fun v2 =>
  aGuard v2
  (K (.p (.int .i64 9)) H)
  (K (.p (.int .i64 0)) H)))

def typ_Row_ann : Nat → List Nat := fun _ => []

theorem typ_Row_eq (x0 x1 : AV) (H : List Ob) (r : AV) (Ho : List Ob) : aBody Tryz.prog typ_Row_ann Tryz.f117 H [x0, x1] r Ho = typ_Row x0 x1 H (fun v H' => Gives H.length v H' r Ho) := by kernel_rfl

theorem typ_Row_fn {x0 x1 : AV} {r : AV} {Ho : List Ob} (h : typ_Row x0 x1 [] (fun v H' => Gives 0 v H' r Ho)) : Abs.Fn Tryz.prog typ_Row_i [] [x0, x1] r Ho :=
  fn_intro mixed typ_Row_ann (fn := Tryz.f117) (by kernel_rfl) (by kernel_rfl) (by rw [typ_Row_eq]; exact h)

/- runnel/typ.each[runnel/typ.Type] -/
def typ_each_typ_Type_L1 (q1s1 q1s8 q1s9 y0 : AV) (H : List Ob) (B1 : List AV → List Ob → Prop) (K : AV → List Ob → Prop) : Prop :=
  aBin false false .lss y0 q1s9 fun v1 =>
  aGuard v1
  (aIndexAddr 2 q1s8 y0 fun v2 =>
  aLoad true 2 v2 H fun v3 =>
  aAlloc [(.p (.int .i64 0)), (.full [])] H fun v4 h5 =>
  aStore 2 v4 v3 h5 fun _ h7 =>
  aLoad true 2 v4 h7 fun v8 =>
  aCall Tryz.prog q1s1 [v8] h7 fun v9 h10 =>
  aBin false false .neq v9 (.p (.int .i64 0)) fun v11 =>
  aGuard v11
  (K v9 h10)
  (aBin false false .add y0 (.p (.int .i64 1)) fun v12 =>
  B1 [v12] h10))
  (K (.p (.int .i64 0)) H)

def typ_each_typ_Type (x0 x1 : AV) (H : List Ob) (K : AV → List Ob → Prop) : Prop :=
  aLen false false x0 fun v0 =>
  aLoopN 1 [(.p (.int .i64 0))] H fun xs H B1 => typ_each_typ_Type_L1 x1 x0 v0 (xs.getD 0 .top) H B1 K

def typ_each_typ_Type_ann : Nat → List Nat := fun k => match k with | 2 => [10] | _ => []

theorem typ_each_typ_Type_eq (x0 x1 : AV) (H : List Ob) (r : AV) (Ho : List Ob) : aBody Tryz.prog typ_each_typ_Type_ann Tryz.f118 H [x0, x1] r Ho = typ_each_typ_Type x0 x1 H (fun v H' => Gives H.length v H' r Ho) := by kernel_rfl

theorem typ_each_typ_Type_fn {x0 x1 : AV} {r : AV} {Ho : List Ob} (h : typ_each_typ_Type x0 x1 [] (fun v H' => Gives 0 v H' r Ho)) : Abs.Fn Tryz.prog typ_each_typ_Type_i [] [x0, x1] r Ho :=
  fn_intro mixed typ_each_typ_Type_ann (fn := Tryz.f118) (by kernel_rfl) (by kernel_rfl) (by rw [typ_each_typ_Type_eq]; exact h)

/- runnel/typ.check$1 -/
def typ_check_1 (x0 x1 : AV) (H : List Ob) (K : AV → List Ob → Prop) : Prop :=
  aBox x0 H fun v0 h1 =>
  aLoad true 2 v0 h1 fun v2 =>
  aLoad false 1 x1 h1 fun v3 =>
  aBin false false .add v3 (.p (.int .i64 1)) fun v4 =>
  aCall Tryz.prog (.p (.func typ_check_i [])) [v2, v4] h1 fun v5 h6 =>
  K v5 h6

def typ_check_1_ann : Nat → List Nat := fun _ => []

theorem typ_check_1_eq (x0 x1 : AV) (H : List Ob) (r : AV) (Ho : List Ob) : aBody Tryz.prog typ_check_1_ann Tryz.f119 H [x0, x1] r Ho = typ_check_1 x0 x1 H (fun v H' => Gives H.length v H' r Ho) := by kernel_rfl

theorem typ_check_1_fn {x0 x1 : AV} {r : AV} {Ho : List Ob} (h : typ_check_1 x0 x1 [] (fun v H' => Gives 0 v H' r Ho)) : Abs.Fn Tryz.prog typ_check_1_i [] [x0, x1] r Ho :=
  fn_intro mixed typ_check_1_ann (fn := Tryz.f119) (by kernel_rfl) (by kernel_rfl) (by rw [typ_check_1_eq]; exact h)

/- runnel/typ.Same -/
def typ_Same (x0 x1 : AV) (H : List Ob) (K : AV → List Ob → Prop) : Prop :=
  aBox x0 H fun v0 h1 =>
  aBox x1 h1 fun v2 h3 =>
  aFieldAddr 0 v0 fun v4 =>
  aLoad false 1 v4 h3 fun v5 =>
  aFieldAddr 0 v2 fun v6 =>
  aLoad false 1 v6 h3 fun v7 =>
  aBin false false .eql v5 v7 fun v8 =>
  aMerge true v8 (fun Q9 =>
  aFieldAddr 1 v0 fun v10 =>
  aLoad false 1 v10 h3 fun v11 =>
  aFieldAddr 1 v2 fun v12 =>
  aLoad false 1 v12 h3 fun v13 =>
  aCall Tryz.prog (.p (.func slices_EqualFunc_typ_Type_typ_Type_typ_Type_typ_Type_i [])) [v11, v13, (.p (.func typ_Same_i []))] h3 fun v14 h15 =>
  (h15 = h3 ∧ Q9 v14)) fun v16 =>
  K v16 h3

def typ_Same_ann : Nat → List Nat := fun _ => []

theorem typ_Same_eq (x0 x1 : AV) (H : List Ob) (r : AV) (Ho : List Ob) : aBody Tryz.prog typ_Same_ann Tryz.f122 H [x0, x1] r Ho = typ_Same x0 x1 H (fun v H' => Gives H.length v H' r Ho) := by kernel_rfl

theorem typ_Same_fn {x0 x1 : AV} {r : AV} {Ho : List Ob} (h : typ_Same x0 x1 [] (fun v H' => Gives 0 v H' r Ho)) : Abs.Fn Tryz.prog typ_Same_i [] [x0, x1] r Ho :=
  fn_intro mixed typ_Same_ann (fn := Tryz.f122) (by kernel_rfl) (by kernel_rfl) (by rw [typ_Same_eq]; exact h)

/- slices.EqualFunc[[]runnel/typ.Type,[]runnel/typ.Type,runnel/typ.Type,runnel/typ.Type] -/
def slices_EqualFunc_typ_Type_typ_Type_typ_Type_typ_Type_L1 (q1s1 q1s2 q1s15 q1s16 y0 : AV) (H : List Ob) (B1 : List AV → List Ob → Prop) (K : AV → List Ob → Prop) : Prop :=
  aBin false false .lss y0 q1s16 fun v4 =>
  aGuard v4
  (aIndexAddr 2 q1s15 y0 fun v5 =>
  aLoad true 2 v5 H fun v6 =>
  aAlloc [(.p (.int .i64 0)), (.full [])] H fun v7 h8 =>
  aStore 2 v7 v6 h8 fun _ h10 =>
  aIndexAddr 2 q1s1 y0 fun v11 =>
  aLoad true 2 v11 h10 fun v12 =>
  aAlloc [(.p (.int .i64 0)), (.full [])] h10 fun v13 h14 =>
  aStore 2 v13 v12 h14 fun _ h16 =>
  aLoad true 2 v7 h16 fun v17 =>
  aLoad true 2 v13 h16 fun v18 =>
  aCall Tryz.prog q1s2 [v17, v18] h16 fun v19 h20 =>
  aUn .not v19 fun v21 =>
  aGuard v21
  (K (.p (.bool false)) h20)
  (aBin false false .add y0 (.p (.int .i64 1)) fun v22 =>
  B1 [v22] h20))
  (K (.p (.bool true)) H)

def slices_EqualFunc_typ_Type_typ_Type_typ_Type_typ_Type (x0 x1 x2 : AV) (H : List Ob) (K : AV → List Ob → Prop) : Prop :=
  aLen false false x0 fun v0 =>
  aLen false false x1 fun v1 =>
  aBin false false .neq v0 v1 fun v2 =>
  aGuard v2
  (K (.p (.bool false)) H)
  (aLen false false x0 fun v3 =>
  aLoopN 1 [(.p (.int .i64 0))] H fun xs H B1 => slices_EqualFunc_typ_Type_typ_Type_typ_Type_typ_Type_L1 x1 x2 x0 v3 (xs.getD 0 .top) H B1 K)

def slices_EqualFunc_typ_Type_typ_Type_typ_Type_typ_Type_ann : Nat → List Nat := fun k => match k with | 4 => [17] | _ => []

theorem slices_EqualFunc_typ_Type_typ_Type_typ_Type_typ_Type_eq (x0 x1 x2 : AV) (H : List Ob) (r : AV) (Ho : List Ob) : aBody Tryz.prog slices_EqualFunc_typ_Type_typ_Type_typ_Type_typ_Type_ann Tryz.f141 H [x0, x1, x2] r Ho = slices_EqualFunc_typ_Type_typ_Type_typ_Type_typ_Type x0 x1 x2 H (fun v H' => Gives H.length v H' r Ho) := by kernel_rfl

theorem slices_EqualFunc_typ_Type_typ_Type_typ_Type_typ_Type_fn {x0 x1 x2 : AV} {r : AV} {Ho : List Ob} (h : slices_EqualFunc_typ_Type_typ_Type_typ_Type_typ_Type x0 x1 x2 [] (fun v H' => Gives 0 v H' r Ho)) : Abs.Fn Tryz.prog slices_EqualFunc_typ_Type_typ_Type_typ_Type_typ_Type_i [] [x0, x1, x2] r Ho :=
  fn_intro mixed slices_EqualFunc_typ_Type_typ_Type_typ_Type_typ_Type_ann (fn := Tryz.f141) (by kernel_rfl) (by kernel_rfl) (by rw [slices_EqualFunc_typ_Type_typ_Type_typ_Type_typ_Type_eq]; exact h)

end Go.Proofs.YtijnpcociedigaaGreatDoor
end

section
/- Made by program (Gen.lean): functions of the dump, over trees. -/
set_option maxRecDepth 4000
set_option linter.unusedVariables false
namespace Go.Proofs.YtijnpcociedigaaGreatDoor
open Go Go.Abs

/- runnel/val.Int -/
def val_Int (x0 : AV) (H : List Ob) (K : AV → List Ob → Prop) : Prop :=
  aAlloc [(.p (.int .i64 0)), (.p (.int .i64 0)), (.p (.bool false)), (.p (.str [])), (.full [])] H fun v0 h1 =>
  aBuild [(.p (.int .i64 0)), (.p (.int .i64 0)), (.p (.bool false)), (.p (.str [])), (.full [])] [(0, 1, (.p (.int .i64 1))), (1, 1, x0)] fun v2 =>
  aStore 5 v0 v2 h1 fun _ h4 =>
  aLoad true 5 v0 h4 fun v5 =>
  K v5 h4

def val_Int_ann : Nat → List Nat := fun _ => []

theorem val_Int_eq (x0 : AV) (H : List Ob) (r : AV) (Ho : List Ob) : aBody Tryz.prog val_Int_ann Tryz.f18 H [x0] r Ho = val_Int x0 H (fun v H' => Gives H.length v H' r Ho) := by kernel_rfl

theorem val_Int_fn {x0 : AV} {r : AV} {Ho : List Ob} (h : val_Int x0 [] (fun v H' => Gives 0 v H' r Ho)) : Abs.Fn Tryz.prog val_Int_i [] [x0] r Ho :=
  fn_intro mixed val_Int_ann (fn := Tryz.f18) (by kernel_rfl) (by kernel_rfl) (by rw [val_Int_eq]; exact h)

/- runnel/val.Text -/
def val_Text_L1 (q1s24 q1s25 y0 y1 : AV) (H : List Ob) (B1 : List AV → List Ob → Prop) (K : AV → List Ob → Prop) : Prop :=
  aBin false false .lss y1 q1s25 fun v22 =>
  aGuard v22
  (aIndexAddr 5 q1s24 y1 fun v23 =>
  aLoad true 5 v23 H fun v24 =>
  aAlloc [(.p (.int .i64 0)), (.p (.int .i64 0)), (.p (.bool false)), (.p (.str [])), (.full [])] H fun v25 h26 =>
  aStore 5 v25 v24 h26 fun _ h28 =>
  aLoad true 5 v25 h28 fun v29 =>
  aCall Tryz.prog (.p (.func val_Text_i [])) [v29] h28 fun v30 h31 =>
  aBuildSlice 1 [v30] fun v32 =>
  aAppend false 1 16 y0 v32 h31 fun v33 h34 =>
  aBin false false .add y1 (.p (.int .i64 1)) fun v35 =>
  B1 [v33, v35] h34)
  (aCall Tryz.prog (.p (.func strings_Join_i [])) [y0, (.p (.str [44]))] H fun v36 h37 =>
  aBin false false .add (.p (.str [40])) v36 fun v38 =>
  aBin false false .add v38 (.p (.str [41])) fun v39 =>
  K v39 h37)

def val_Text (x0 : AV) (H : List Ob) (K : AV → List Ob → Prop) : Prop :=
  aBox x0 H fun v0 h1 =>
  aFieldAddr 0 v0 fun v2 =>
  aLoad false 1 v2 h1 fun v3 =>
  aBin false false .eql v3 (.p (.int .i64 1)) fun v4 =>
  aGuard v4
  (aFieldAddr 1 v0 fun v5 =>
  aLoad false 1 v5 h1 fun v6 =>
  aCall Tryz.prog (.p (.func strconv_FormatInt_i [])) [v6, (.p (.int .i64 10))] h1 fun v7 h8 =>
  K v7 h8)
  (aBin false false .eql v3 (.p (.int .i64 2)) fun v9 =>
  aGuard v9
  (aFieldAddr 2 v0 fun v10 =>
  aLoad false 1 v10 h1 fun v11 =>
  aCall Tryz.prog (.p (.func strconv_FormatBool_i [])) [v11] h1 fun v12 h13 =>
  K v12 h13)
  (aBin false false .eql v3 (.p (.int .i64 3)) fun v14 =>
  aGuard v14
  (aFieldAddr 3 v0 fun v15 =>
  aLoad false 1 v15 h1 fun v16 =>
  aCall Tryz.prog (.p (.func val_quote_i [])) [v16] h1 fun v17 h18 =>
  K v17 h18)
  (aFieldAddr 4 v0 fun v19 =>
  aLoad false 1 v19 h1 fun v20 =>
  aLen false false v20 fun v21 =>
  aLoopN 2 [(.full []), (.p (.int .i64 0))] h1 fun xs H B1 => val_Text_L1 v20 v21 (xs.getD 0 .top) (xs.getD 1 .top) H B1 K)))

def val_Text_ann : Nat → List Nat := fun k => match k with | 10 => [3, 26] | _ => []

theorem val_Text_eq (x0 : AV) (H : List Ob) (r : AV) (Ho : List Ob) : aBody Tryz.prog val_Text_ann Tryz.f39 H [x0] r Ho = val_Text x0 H (fun v H' => Gives H.length v H' r Ho) := by kernel_rfl

theorem val_Text_fn {x0 : AV} {r : AV} {Ho : List Ob} (h : val_Text x0 [] (fun v H' => Gives 0 v H' r Ho)) : Abs.Fn Tryz.prog val_Text_i [] [x0] r Ho :=
  fn_intro mixed val_Text_ann (fn := Tryz.f39) (by kernel_rfl) (by kernel_rfl) (by rw [val_Text_eq]; exact h)

/- strconv.FormatBool -/
def strconv_FormatBool (x0 : AV) (H : List Ob) (K : AV → List Ob → Prop) : Prop :=
  aCall Tryz.prog (.p (.func internal_strconv_FormatBool_i [])) [x0] H fun v0 h1 =>
  K v0 h1

def strconv_FormatBool_ann : Nat → List Nat := fun _ => []

theorem strconv_FormatBool_eq (x0 : AV) (H : List Ob) (r : AV) (Ho : List Ob) : aBody Tryz.prog strconv_FormatBool_ann Tryz.f61 H [x0] r Ho = strconv_FormatBool x0 H (fun v H' => Gives H.length v H' r Ho) := by kernel_rfl

theorem strconv_FormatBool_fn {x0 : AV} {r : AV} {Ho : List Ob} (h : strconv_FormatBool x0 [] (fun v H' => Gives 0 v H' r Ho)) : Abs.Fn Tryz.prog strconv_FormatBool_i [] [x0] r Ho :=
  fn_intro mixed strconv_FormatBool_ann (fn := Tryz.f61) (by kernel_rfl) (by kernel_rfl) (by rw [strconv_FormatBool_eq]; exact h)

/- runnel/val.quote -/
def val_quote_L1 (q1s8 q1s9 y0 y1 : AV) (H : List Ob) (B1 : List AV → List Ob → Prop) (K : AV → List Ob → Prop) : Prop :=
  aBin false false .lss y1 q1s9 fun v3 =>
  aGuard v3
  (aIndexAddr 1 q1s8 y1 fun v4 =>
  aLoad false 1 v4 H fun v5 =>
  aBin false false .lss v5 (.p (.int .u8 32)) fun v6 =>
  aMerge false v6 (fun Q7 =>
  aBin false false .gtr v5 (.p (.int .u8 126)) fun v8 =>
  (H = H ∧ Q7 v8)) fun v9 =>
  aMerge false v9 (fun Q10 =>
  aBin false false .eql v5 (.p (.int .u8 34)) fun v11 =>
  (H = H ∧ Q10 v11)) fun v12 =>
  aMerge false v12 (fun Q13 =>
  aBin false false .eql v5 (.p (.int .u8 92)) fun v14 =>
  (H = H ∧ Q13 v14)) fun v15 =>
  aGuard v15
  (aBin false false .shr v5 (.p (.int .u64 4)) fun v16 =>
  aIndex (.p (.str [48, 49, 50, 51, 52, 53, 54, 55, 56, 57, 97, 98, 99, 100, 101, 102])) v16 fun v17 =>
  aBin false false .and v5 (.p (.int .u8 15)) fun v18 =>
  aIndex (.p (.str [48, 49, 50, 51, 52, 53, 54, 55, 56, 57, 97, 98, 99, 100, 101, 102])) v18 fun v19 =>
  aBuildSlice 1 [(.p (.int .u8 92)), v17, v19] fun v20 =>
  aCalm [y0, v20] <|
  aAppend false 1 1 y0 v20 H fun v21 h22 =>
  aBin false false .add y1 (.p (.int .i64 1)) fun v23 =>
  B1 [v21, v23] h22)
  (aBuildSlice 1 [v5] fun v24 =>
  aAppend false 1 1 y0 v24 H fun v25 h26 =>
  aBin false false .add y1 (.p (.int .i64 1)) fun v27 =>
  B1 [v25, v27] h26))
  (aBuildSlice 1 [(.p (.int .u8 34))] fun v28 =>
  aAppend false 1 1 y0 v28 H fun v29 h30 =>
  aBytesStr v29 fun v31 =>
  K v31 h30)

def val_quote (x0 : AV) (H : List Ob) (K : AV → List Ob → Prop) : Prop :=
  aBuildSlice 1 [(.p (.int .u8 34))] fun v0 =>
  aStrBytes x0 fun v1 =>
  aLen false false v1 fun v2 =>
  aLoopN 2 [v0, (.p (.int .i64 0))] H fun xs H B1 => val_quote_L1 v1 v2 (xs.getD 0 .top) (xs.getD 1 .top) H B1 K

def val_quote_ann : Nat → List Nat := fun k => match k with | 3 => [3, 10] | _ => []

theorem val_quote_eq (x0 : AV) (H : List Ob) (r : AV) (Ho : List Ob) : aBody Tryz.prog val_quote_ann Tryz.f62 H [x0] r Ho = val_quote x0 H (fun v H' => Gives H.length v H' r Ho) := by kernel_rfl

theorem val_quote_fn {x0 : AV} {r : AV} {Ho : List Ob} (h : val_quote x0 [] (fun v H' => Gives 0 v H' r Ho)) : Abs.Fn Tryz.prog val_quote_i [] [x0] r Ho :=
  fn_intro mixed val_quote_ann (fn := Tryz.f62) (by kernel_rfl) (by kernel_rfl) (by rw [val_quote_eq]; exact h)

/- runnel/val.Check -/
def val_Check (x0 : AV) (H : List Ob) (K : AV → List Ob → Prop) : Prop :=
  aBox x0 H fun v0 h1 =>
  aLoad true 5 v0 h1 fun v2 =>
  aCall Tryz.prog (.p (.func val_check_i [])) [v2, (.p (.int .i64 0))] h1 fun v3 h4 =>
  K v3 h4

def val_Check_ann : Nat → List Nat := fun _ => []

theorem val_Check_eq (x0 : AV) (H : List Ob) (r : AV) (Ho : List Ob) : aBody Tryz.prog val_Check_ann Tryz.f86 H [x0] r Ho = val_Check x0 H (fun v H' => Gives H.length v H' r Ho) := by kernel_rfl

theorem val_Check_fn {x0 : AV} {r : AV} {Ho : List Ob} (h : val_Check x0 [] (fun v H' => Gives 0 v H' r Ho)) : Abs.Fn Tryz.prog val_Check_i [] [x0] r Ho :=
  fn_intro mixed val_Check_ann (fn := Tryz.f86) (by kernel_rfl) (by kernel_rfl) (by rw [val_Check_eq]; exact h)

/- internal/strconv.FormatBool -/
def internal_strconv_FormatBool (x0 : AV) (H : List Ob) (K : AV → List Ob → Prop) : Prop :=
  aGuard x0
  (K (.p (.str [116, 114, 117, 101])) H)
  (K (.p (.str [102, 97, 108, 115, 101])) H)

def internal_strconv_FormatBool_ann : Nat → List Nat := fun _ => []

theorem internal_strconv_FormatBool_eq (x0 : AV) (H : List Ob) (r : AV) (Ho : List Ob) : aBody Tryz.prog internal_strconv_FormatBool_ann Tryz.f97 H [x0] r Ho = internal_strconv_FormatBool x0 H (fun v H' => Gives H.length v H' r Ho) := by kernel_rfl

theorem internal_strconv_FormatBool_fn {x0 : AV} {r : AV} {Ho : List Ob} (h : internal_strconv_FormatBool x0 [] (fun v H' => Gives 0 v H' r Ho)) : Abs.Fn Tryz.prog internal_strconv_FormatBool_i [] [x0] r Ho :=
  fn_intro mixed internal_strconv_FormatBool_ann (fn := Tryz.f97) (by kernel_rfl) (by kernel_rfl) (by rw [internal_strconv_FormatBool_eq]; exact h)

/- runnel/val.check -/
def val_check_L1 (q1s1 q1s2 y0 y1 : AV) (H : List Ob) (B1 : List AV → List Ob → Prop) (K : AV → List Ob → Prop) : Prop :=
  aFieldAddr 4 q1s2 fun v25 =>
  aLoad false 1 v25 H fun v26 =>
  aLen false false v26 fun v27 =>
  aBin false false .lss y1 v27 fun v28 =>
  aMerge true v28 (fun Q29 =>
  aBin false false .eql y0 (.p (.int .i64 0)) fun v30 =>
  (H = H ∧ Q29 v30)) fun v31 =>
  aGuard v31
  (aFieldAddr 4 q1s2 fun v32 =>
  aLoad false 1 v32 H fun v33 =>
  aIndexAddr 5 v33 y1 fun v34 =>
  aLoad true 5 v34 H fun v35 =>
  aBin false false .add q1s1 (.p (.int .i64 1)) fun v36 =>
  aCall Tryz.prog (.p (.func val_check_i [])) [v35, v36] H fun v37 h38 =>
  aBin false false .add y1 (.p (.int .i64 1)) fun v39 =>
  B1 [v37, v39] h38)
  (K y0 H)

def val_check (x0 x1 : AV) (H : List Ob) (K : AV → List Ob → Prop) : Prop :=
  aBox x0 H fun v0 h1 =>
  aFieldAddr 0 v0 fun v2 =>
  aLoad false 1 v2 h1 fun v3 =>
  aBin false false .lss v3 (.p (.int .i64 1)) fun v4 =>
  aMerge false v4 (fun Q5 =>
  aFieldAddr 0 v0 fun v6 =>
  aLoad false 1 v6 h1 fun v7 =>
  aBin false false .gtr v7 (.p (.int .i64 4)) fun v8 =>
  (h1 = h1 ∧ Q5 v8)) fun v9 =>
  aGuard v9
  (K (.p (.int .i64 5)) h1)
  (aLoad true 5 v0 h1 fun v10 =>
  aCall Tryz.prog (.p (.func val_spare_i [])) [v10] h1 fun v11 h12 =>
  aGuard v11
  (K (.p (.int .i64 2)) h12)
  (aFieldAddr 3 v0 fun v13 =>
  aLoad false 1 v13 h12 fun v14 =>
  aLen false true v14 fun v15 =>
  aBin false false .gtr v15 (.p (.int .i64 255)) fun v16 =>
  aGuard v16
  (K (.p (.int .i64 4)) h12)
  (aFieldAddr 0 v0 fun v17 =>
  aLoad false 1 v17 h12 fun v18 =>
  aBin false false .neq v18 (.p (.int .i64 4)) fun v19 =>
  aGuard v19
  (K (.p (.int .i64 0)) h12)
  (aFieldAddr 4 v0 fun v20 =>
  aLoad false 1 v20 h12 fun v21 =>
  aLen false false v21 fun v22 =>
  aCall Tryz.prog (.p (.func typ_Row_i [])) [v22, x1] h12 fun v23 h24 =>
  aLoopN 2 [v23, (.p (.int .i64 0))] h24 fun xs H B1 => val_check_L1 x1 v0 (xs.getD 0 .top) (xs.getD 1 .top) H B1 K))))

def val_check_ann : Nat → List Nat := fun k => match k with | 11 => [5, 6] | _ => []

theorem val_check_eq (x0 x1 : AV) (H : List Ob) (r : AV) (Ho : List Ob) : aBody Tryz.prog val_check_ann Tryz.f121 H [x0, x1] r Ho = val_check x0 x1 H (fun v H' => Gives H.length v H' r Ho) := by kernel_rfl

theorem val_check_fn {x0 x1 : AV} {r : AV} {Ho : List Ob} (h : val_check x0 x1 [] (fun v H' => Gives 0 v H' r Ho)) : Abs.Fn Tryz.prog val_check_i [] [x0, x1] r Ho :=
  fn_intro mixed val_check_ann (fn := Tryz.f121) (by kernel_rfl) (by kernel_rfl) (by rw [val_check_eq]; exact h)

/- runnel/val.TypeOf -/
def val_TypeOf (x0 : AV) (H : List Ob) (K : AV → List Ob → Prop) : Prop :=
  aBox x0 H fun v0 h1 =>
  aAlloc [(.p (.int .i64 0)), (.full [])] h1 fun v2 h3 =>
  aLoad true 5 v0 h3 fun v4 =>
  aCall Tryz.prog (.p (.func val_Check_i [])) [v4] h3 fun v5 h6 =>
  aBin false false .neq v5 (.p (.int .i64 0)) fun v7 =>
  aGuard v7
  (aBuild [(.p (.int .i64 0)), (.full [])] [] fun v8 =>
  aStore 2 v2 v8 h6 fun _ h10 =>
  aLoad true 2 v2 h10 fun v11 =>
  K v11 h10)
  (aLoad true 5 v0 h6 fun v12 =>
  aCall Tryz.prog (.p (.func val_kind_i [])) [v12] h6 fun v13 h14 =>
  aStore 2 v2 v13 h14 fun _ h16 =>
  aLoad true 2 v2 h16 fun v17 =>
  K v17 h16)

def val_TypeOf_ann : Nat → List Nat := fun _ => []

theorem val_TypeOf_eq (x0 : AV) (H : List Ob) (r : AV) (Ho : List Ob) : aBody Tryz.prog val_TypeOf_ann Tryz.f123 H [x0] r Ho = val_TypeOf x0 H (fun v H' => Gives H.length v H' r Ho) := by kernel_rfl

theorem val_TypeOf_fn {x0 : AV} {r : AV} {Ho : List Ob} (h : val_TypeOf x0 [] (fun v H' => Gives 0 v H' r Ho)) : Abs.Fn Tryz.prog val_TypeOf_i [] [x0] r Ho :=
  fn_intro mixed val_TypeOf_ann (fn := Tryz.f123) (by kernel_rfl) (by kernel_rfl) (by rw [val_TypeOf_eq]; exact h)

/- runnel/val.Same -/
def val_Same (x0 x1 : AV) (H : List Ob) (K : AV → List Ob → Prop) : Prop :=
  aBox x0 H fun v0 h1 =>
  aBox x1 h1 fun v2 h3 =>
  aLoad true 5 v0 h3 fun v4 =>
  aLoad true 5 v2 h3 fun v5 =>
  aCall Tryz.prog (.p (.func val_Compare_i [])) [v4, v5] h3 fun v6 h7 =>
  aBin false false .eql v6 (.p (.int .i64 0)) fun v8 =>
  K v8 h7

def val_Same_ann : Nat → List Nat := fun _ => []

theorem val_Same_eq (x0 x1 : AV) (H : List Ob) (r : AV) (Ho : List Ob) : aBody Tryz.prog val_Same_ann Tryz.f139 H [x0, x1] r Ho = val_Same x0 x1 H (fun v H' => Gives H.length v H' r Ho) := by kernel_rfl

theorem val_Same_fn {x0 x1 : AV} {r : AV} {Ho : List Ob} (h : val_Same x0 x1 [] (fun v H' => Gives 0 v H' r Ho)) : Abs.Fn Tryz.prog val_Same_i [] [x0, x1] r Ho :=
  fn_intro mixed val_Same_ann (fn := Tryz.f139) (by kernel_rfl) (by kernel_rfl) (by rw [val_Same_eq]; exact h)

/- runnel/val.spare -/
def val_spare (x0 : AV) (H : List Ob) (K : AV → List Ob → Prop) : Prop :=
  aBox x0 H fun v0 h1 =>
  aFieldAddr 0 v0 fun v2 =>
  aLoad false 1 v2 h1 fun v3 =>
  aBin false false .neq v3 (.p (.int .i64 1)) fun v4 =>
  aMerge true v4 (fun Q5 =>
  aFieldAddr 1 v0 fun v6 =>
  aLoad false 1 v6 h1 fun v7 =>
  aBin false false .neq v7 (.p (.int .i64 0)) fun v8 =>
  (h1 = h1 ∧ Q5 v8)) fun v9 =>
  aMerge false v9 (fun Q10 =>
  aFieldAddr 0 v0 fun v11 =>
  aLoad false 1 v11 h1 fun v12 =>
  aBin false false .neq v12 (.p (.int .i64 2)) fun v13 =>
  aMerge true v13 (fun Q14 =>
  aFieldAddr 2 v0 fun v15 =>
  aLoad false 1 v15 h1 fun v16 =>
  (h1 = h1 ∧ Q14 v16)) fun v17 =>
  (h1 = h1 ∧ Q10 v17)) fun v18 =>
  aMerge false v18 (fun Q19 =>
  aFieldAddr 0 v0 fun v20 =>
  aLoad false 1 v20 h1 fun v21 =>
  aBin false false .neq v21 (.p (.int .i64 3)) fun v22 =>
  aMerge true v22 (fun Q23 =>
  aFieldAddr 3 v0 fun v24 =>
  aLoad false 1 v24 h1 fun v25 =>
  aBin false false .neq v25 (.p (.str [])) fun v26 =>
  (h1 = h1 ∧ Q23 v26)) fun v27 =>
  (h1 = h1 ∧ Q19 v27)) fun v28 =>
  aMerge false v28 (fun Q29 =>
  aFieldAddr 0 v0 fun v30 =>
  aLoad false 1 v30 h1 fun v31 =>
  aBin false false .neq v31 (.p (.int .i64 4)) fun v32 =>
  aMerge true v32 (fun Q33 =>
  aFieldAddr 4 v0 fun v34 =>
  aLoad false 1 v34 h1 fun v35 =>
  aLenS false v35 fun v36 =>
  aBin false false .gtr v36 (.p (.int .i64 0)) fun v37 =>
  (h1 = h1 ∧ Q33 v37)) fun v38 =>
  (h1 = h1 ∧ Q29 v38)) fun v39 =>
  K v39 h1

def val_spare_ann : Nat → List Nat := fun _ => []

theorem val_spare_eq (x0 : AV) (H : List Ob) (r : AV) (Ho : List Ob) : aBody Tryz.prog val_spare_ann Tryz.f140 H [x0] r Ho = val_spare x0 H (fun v H' => Gives H.length v H' r Ho) := by kernel_rfl

theorem val_spare_fn {x0 : AV} {r : AV} {Ho : List Ob} (h : val_spare x0 [] (fun v H' => Gives 0 v H' r Ho)) : Abs.Fn Tryz.prog val_spare_i [] [x0] r Ho :=
  fn_intro mixed val_spare_ann (fn := Tryz.f140) (by kernel_rfl) (by kernel_rfl) (by rw [val_spare_eq]; exact h)

/- runnel/val.kind -/
def val_kind_L1 (q1s2 q1s3 q1s10 q1s11 y0 : AV) (H : List Ob) (B1 : List AV → List Ob → Prop) (K : AV → List Ob → Prop) : Prop :=
  aBin false false .lss y0 q1s11 fun v14 =>
  aGuard v14
  (aIndexAddr 5 q1s10 y0 fun v15 =>
  aLoad true 5 v15 H fun v16 =>
  aAlloc [(.p (.int .i64 0)), (.p (.int .i64 0)), (.p (.bool false)), (.p (.str [])), (.full [])] H fun v17 h18 =>
  aStore 5 v17 v16 h18 fun _ h20 =>
  aFieldAddr 1 q1s3 fun v21 =>
  aLoad false 1 v21 h20 fun v22 =>
  aLoad true 5 v17 h20 fun v23 =>
  aCallT Tryz.prog (.p (.func val_kind_i [])) [v23] fun v24 =>
  aBuildSlice 2 [v24] fun v25 =>
  aCalm [v22, v25] <|
  aAppend false 2 32 v22 v25 h20 fun v26 h27 =>
  aFieldAddr 1 q1s3 fun v28 =>
  aStore 1 v28 v26 h27 fun _ h30 =>
  aBin false false .add y0 (.p (.int .i64 1)) fun v31 =>
  B1 [v31] h30)
  (aLoad true 2 q1s3 H fun v32 =>
  aStore 2 q1s2 v32 H fun _ h34 =>
  aLoad true 2 q1s2 h34 fun v35 =>
  K v35 h34)

def val_kind (x0 : AV) (H : List Ob) (K : AV → List Ob → Prop) : Prop :=
  aBox x0 H fun v0 h1 =>
  aAlloc [(.p (.int .i64 0)), (.full [])] h1 fun v2 h3 =>
  aFieldAddr 0 v0 fun v4 =>
  aLoad false 1 v4 h3 fun v5 =>
  aBuild [(.p (.int .i64 0)), (.full [])] [(0, 1, v5)] fun v6 =>
  aAlloc [(.p (.int .i64 0)), (.full [])] h3 fun v7 h8 =>
  aStore 2 v7 v6 h8 fun _ h10 =>
  aFieldAddr 4 v0 fun v11 =>
  aLoad false 1 v11 h10 fun v12 =>
  aLen false false v12 fun v13 =>
  aLoopN 1 [(.p (.int .i64 0))] h10 fun xs H B1 => val_kind_L1 v2 v7 v12 v13 (xs.getD 0 .top) H B1 K

def val_kind_ann : Nat → List Nat := fun k => match k with | 3 => [12] | _ => []

theorem val_kind_eq (x0 : AV) (H : List Ob) (r : AV) (Ho : List Ob) : aBody Tryz.prog val_kind_ann Tryz.f142 H [x0] r Ho = val_kind x0 H (fun v H' => Gives H.length v H' r Ho) := by kernel_rfl

theorem val_kind_fn {x0 : AV} {r : AV} {Ho : List Ob} (h : val_kind x0 [] (fun v H' => Gives 0 v H' r Ho)) : Abs.Fn Tryz.prog val_kind_i [] [x0] r Ho :=
  fn_intro mixed val_kind_ann (fn := Tryz.f142) (by kernel_rfl) (by kernel_rfl) (by rw [val_kind_eq]; exact h)

/- runnel/val.Compare -/
def val_Compare (x0 x1 : AV) (H : List Ob) (K : AV → List Ob → Prop) : Prop :=
  aBox x0 H fun v0 h1 =>
  aBox x1 h1 fun v2 h3 =>
  aFieldAddr 0 v0 fun v4 =>
  aLoad false 1 v4 h3 fun v5 =>
  aFieldAddr 0 v2 fun v6 =>
  aLoad false 1 v6 h3 fun v7 =>
  aCallT Tryz.prog (.p (.func cmp_Compare_int_i [])) [v5, v7] fun v8 =>
  aFieldAddr 1 v0 fun v9 =>
  aLoad false 1 v9 h3 fun v10 =>
  aFieldAddr 1 v2 fun v11 =>
  aLoad false 1 v11 h3 fun v12 =>
  aCallT Tryz.prog (.p (.func cmp_Compare_int64_i [])) [v10, v12] fun v13 =>
  aFieldAddr 2 v0 fun v14 =>
  aLoad false 1 v14 h3 fun v15 =>
  aCallT Tryz.prog (.p (.func val_truth_i [])) [v15] fun v16 =>
  aFieldAddr 2 v2 fun v17 =>
  aLoad false 1 v17 h3 fun v18 =>
  aCallT Tryz.prog (.p (.func val_truth_i [])) [v18] fun v19 =>
  aCallT Tryz.prog (.p (.func cmp_Compare_int_i [])) [v16, v19] fun v20 =>
  aFieldAddr 3 v0 fun v21 =>
  aLoad false 1 v21 h3 fun v22 =>
  aFieldAddr 3 v2 fun v23 =>
  aLoad false 1 v23 h3 fun v24 =>
  aCallT Tryz.prog (.p (.func strings_Compare_i [])) [v22, v24] fun v25 =>
  aBuildSlice 1 [v8, v13, v20, v25] fun v26 =>
  aCallT Tryz.prog (.p (.func cmp_Or_int_i [])) [v26] fun v27 =>
  aBin false false .neq v27 (.p (.int .i64 0)) fun v28 =>
  aGuard v28
  (K v27 h3)
  (aFieldAddr 4 v0 fun v29 =>
  aLoad false 1 v29 h3 fun v30 =>
  aFieldAddr 4 v2 fun v31 =>
  aLoad false 1 v31 h3 fun v32 =>
  aCall Tryz.prog (.p (.func val_rows_val_Value_i [])) [v30, v32, (.p (.func val_Compare_i []))] h3 fun v33 h34 =>
  K v33 h34)

def val_Compare_ann : Nat → List Nat := fun _ => []

theorem val_Compare_eq (x0 x1 : AV) (H : List Ob) (r : AV) (Ho : List Ob) : aBody Tryz.prog val_Compare_ann Tryz.f146 H [x0, x1] r Ho = val_Compare x0 x1 H (fun v H' => Gives H.length v H' r Ho) := by kernel_rfl

theorem val_Compare_fn {x0 x1 : AV} {r : AV} {Ho : List Ob} (h : val_Compare x0 x1 [] (fun v H' => Gives 0 v H' r Ho)) : Abs.Fn Tryz.prog val_Compare_i [] [x0, x1] r Ho :=
  fn_intro mixed val_Compare_ann (fn := Tryz.f146) (by kernel_rfl) (by kernel_rfl) (by rw [val_Compare_eq]; exact h)

/- cmp.Or[int] -/
def cmp_Or_int_L1 (q1s3 q1s6 q1s7 y0 : AV) (H : List Ob) (B1 : List AV → List Ob → Prop) (K : AV → List Ob → Prop) : Prop :=
  aBin false false .lss y0 q1s7 fun v1 =>
  aGuard v1
  (aIndexAddr 1 q1s6 y0 fun v2 =>
  aLoad false 1 v2 H fun v3 =>
  aBin false false .neq v3 q1s3 fun v4 =>
  aGuard v4
  (K v3 H)
  (aBin false false .add y0 (.p (.int .i64 1)) fun v5 =>
  B1 [v5] H))
  (K q1s3 H)

def cmp_Or_int (x0 : AV) (H : List Ob) (K : AV → List Ob → Prop) : Prop :=
  aLen false false x0 fun v0 =>
  aLoopN 1 [(.p (.int .i64 0))] H fun xs H B1 => cmp_Or_int_L1 (.p (.int .i64 0)) x0 v0 (xs.getD 0 .top) H B1 K

def cmp_Or_int_ann : Nat → List Nat := fun k => match k with | 3 => [8] | _ => []

theorem cmp_Or_int_eq (x0 : AV) (H : List Ob) (r : AV) (Ho : List Ob) : aBody Tryz.prog cmp_Or_int_ann Tryz.f147 H [x0] r Ho = cmp_Or_int x0 H (fun v H' => Gives H.length v H' r Ho) := by kernel_rfl

theorem cmp_Or_int_fn {x0 : AV} {r : AV} {Ho : List Ob} (h : cmp_Or_int x0 [] (fun v H' => Gives 0 v H' r Ho)) : Abs.Fn Tryz.prog cmp_Or_int_i [] [x0] r Ho :=
  fn_intro mixed cmp_Or_int_ann (fn := Tryz.f147) (by kernel_rfl) (by kernel_rfl) (by rw [cmp_Or_int_eq]; exact h)

/- cmp.Compare[int] -/
def cmp_Compare_int (x0 x1 : AV) (H : List Ob) (K : AV → List Ob → Prop) : Prop :=
  aCall Tryz.prog (.p (.func cmp_isNaN_int_i [])) [x0] H fun v0 h1 =>
  aCall Tryz.prog (.p (.func cmp_isNaN_int_i [])) [x1] h1 fun v2 h3 =>
  aGuard v0
  (aGuard v2
  (K (.p (.int .i64 0)) h3)
  (K (.p (.int .i64 (-1))) h3))
  (aGuard v2
  (K (.p (.int .i64 1)) h3)
  (aBin false false .lss x0 x1 fun v4 =>
  aGuard v4
  (K (.p (.int .i64 (-1))) h3)
  (aBin false false .gtr x0 x1 fun v5 =>
  aGuard v5
  (K (.p (.int .i64 1)) h3)
  (K (.p (.int .i64 0)) h3))))

def cmp_Compare_int_ann : Nat → List Nat := fun _ => []

theorem cmp_Compare_int_eq (x0 x1 : AV) (H : List Ob) (r : AV) (Ho : List Ob) : aBody Tryz.prog cmp_Compare_int_ann Tryz.f148 H [x0, x1] r Ho = cmp_Compare_int x0 x1 H (fun v H' => Gives H.length v H' r Ho) := by kernel_rfl

theorem cmp_Compare_int_fn {x0 x1 : AV} {r : AV} {Ho : List Ob} (h : cmp_Compare_int x0 x1 [] (fun v H' => Gives 0 v H' r Ho)) : Abs.Fn Tryz.prog cmp_Compare_int_i [] [x0, x1] r Ho :=
  fn_intro mixed cmp_Compare_int_ann (fn := Tryz.f148) (by kernel_rfl) (by kernel_rfl) (by rw [cmp_Compare_int_eq]; exact h)

/- cmp.Compare[int64] -/
def cmp_Compare_int64 (x0 x1 : AV) (H : List Ob) (K : AV → List Ob → Prop) : Prop :=
  aCall Tryz.prog (.p (.func cmp_isNaN_int64_i [])) [x0] H fun v0 h1 =>
  aCall Tryz.prog (.p (.func cmp_isNaN_int64_i [])) [x1] h1 fun v2 h3 =>
  aGuard v0
  (aGuard v2
  (K (.p (.int .i64 0)) h3)
  (K (.p (.int .i64 (-1))) h3))
  (aGuard v2
  (K (.p (.int .i64 1)) h3)
  (aBin false false .lss x0 x1 fun v4 =>
  aGuard v4
  (K (.p (.int .i64 (-1))) h3)
  (aBin false false .gtr x0 x1 fun v5 =>
  aGuard v5
  (K (.p (.int .i64 1)) h3)
  (K (.p (.int .i64 0)) h3))))

def cmp_Compare_int64_ann : Nat → List Nat := fun _ => []

theorem cmp_Compare_int64_eq (x0 x1 : AV) (H : List Ob) (r : AV) (Ho : List Ob) : aBody Tryz.prog cmp_Compare_int64_ann Tryz.f149 H [x0, x1] r Ho = cmp_Compare_int64 x0 x1 H (fun v H' => Gives H.length v H' r Ho) := by kernel_rfl

theorem cmp_Compare_int64_fn {x0 x1 : AV} {r : AV} {Ho : List Ob} (h : cmp_Compare_int64 x0 x1 [] (fun v H' => Gives 0 v H' r Ho)) : Abs.Fn Tryz.prog cmp_Compare_int64_i [] [x0, x1] r Ho :=
  fn_intro mixed cmp_Compare_int64_ann (fn := Tryz.f149) (by kernel_rfl) (by kernel_rfl) (by rw [cmp_Compare_int64_eq]; exact h)

/- runnel/val.truth -/
def val_truth (x0 : AV) (H : List Ob) (K : AV → List Ob → Prop) : Prop :=
  aGuard x0
  (K (.p (.int .i64 1)) H)
  (K (.p (.int .i64 0)) H)

def val_truth_ann : Nat → List Nat := fun _ => []

theorem val_truth_eq (x0 : AV) (H : List Ob) (r : AV) (Ho : List Ob) : aBody Tryz.prog val_truth_ann Tryz.f150 H [x0] r Ho = val_truth x0 H (fun v H' => Gives H.length v H' r Ho) := by kernel_rfl

theorem val_truth_fn {x0 : AV} {r : AV} {Ho : List Ob} (h : val_truth x0 [] (fun v H' => Gives 0 v H' r Ho)) : Abs.Fn Tryz.prog val_truth_i [] [x0] r Ho :=
  fn_intro mixed val_truth_ann (fn := Tryz.f150) (by kernel_rfl) (by kernel_rfl) (by rw [val_truth_eq]; exact h)

/- strings.Compare -/
def strings_Compare (x0 x1 : AV) (H : List Ob) (K : AV → List Ob → Prop) : Prop :=
  aCall Tryz.prog (.p (.func internal_bytealg_CompareString_i [])) [x0, x1] H fun v0 h1 =>
  K v0 h1

def strings_Compare_ann : Nat → List Nat := fun _ => []

theorem strings_Compare_eq (x0 x1 : AV) (H : List Ob) (r : AV) (Ho : List Ob) : aBody Tryz.prog strings_Compare_ann Tryz.f151 H [x0, x1] r Ho = strings_Compare x0 x1 H (fun v H' => Gives H.length v H' r Ho) := by kernel_rfl

theorem strings_Compare_fn {x0 x1 : AV} {r : AV} {Ho : List Ob} (h : strings_Compare x0 x1 [] (fun v H' => Gives 0 v H' r Ho)) : Abs.Fn Tryz.prog strings_Compare_i [] [x0, x1] r Ho :=
  fn_intro mixed strings_Compare_ann (fn := Tryz.f151) (by kernel_rfl) (by kernel_rfl) (by rw [strings_Compare_eq]; exact h)

/- runnel/val.rows[runnel/val.Value] -/
def val_rows_val_Value (x0 x1 x2 : AV) (H : List Ob) (K : AV → List Ob → Prop) : Prop :=
  aCall Tryz.prog (.p (.func slices_CompareFunc_val_Value_val_Value_val_Value_val_Value_i [])) [x0, x1, x2] H fun v0 h1 =>
  K v0 h1

def val_rows_val_Value_ann : Nat → List Nat := fun _ => []

theorem val_rows_val_Value_eq (x0 x1 x2 : AV) (H : List Ob) (r : AV) (Ho : List Ob) : aBody Tryz.prog val_rows_val_Value_ann Tryz.f152 H [x0, x1, x2] r Ho = val_rows_val_Value x0 x1 x2 H (fun v H' => Gives H.length v H' r Ho) := by kernel_rfl

theorem val_rows_val_Value_fn {x0 x1 x2 : AV} {r : AV} {Ho : List Ob} (h : val_rows_val_Value x0 x1 x2 [] (fun v H' => Gives 0 v H' r Ho)) : Abs.Fn Tryz.prog val_rows_val_Value_i [] [x0, x1, x2] r Ho :=
  fn_intro mixed val_rows_val_Value_ann (fn := Tryz.f152) (by kernel_rfl) (by kernel_rfl) (by rw [val_rows_val_Value_eq]; exact h)

/- cmp.isNaN[int] -/
def cmp_isNaN_int (x0 : AV) (H : List Ob) (K : AV → List Ob → Prop) : Prop :=
  aBin false false .neq x0 x0 fun v0 =>
  K v0 H

def cmp_isNaN_int_ann : Nat → List Nat := fun _ => []

theorem cmp_isNaN_int_eq (x0 : AV) (H : List Ob) (r : AV) (Ho : List Ob) : aBody Tryz.prog cmp_isNaN_int_ann Tryz.f153 H [x0] r Ho = cmp_isNaN_int x0 H (fun v H' => Gives H.length v H' r Ho) := by kernel_rfl

theorem cmp_isNaN_int_fn {x0 : AV} {r : AV} {Ho : List Ob} (h : cmp_isNaN_int x0 [] (fun v H' => Gives 0 v H' r Ho)) : Abs.Fn Tryz.prog cmp_isNaN_int_i [] [x0] r Ho :=
  fn_intro mixed cmp_isNaN_int_ann (fn := Tryz.f153) (by kernel_rfl) (by kernel_rfl) (by rw [cmp_isNaN_int_eq]; exact h)

/- cmp.isNaN[int64] -/
def cmp_isNaN_int64 (x0 : AV) (H : List Ob) (K : AV → List Ob → Prop) : Prop :=
  aBin false false .neq x0 x0 fun v0 =>
  K v0 H

def cmp_isNaN_int64_ann : Nat → List Nat := fun _ => []

theorem cmp_isNaN_int64_eq (x0 : AV) (H : List Ob) (r : AV) (Ho : List Ob) : aBody Tryz.prog cmp_isNaN_int64_ann Tryz.f154 H [x0] r Ho = cmp_isNaN_int64 x0 H (fun v H' => Gives H.length v H' r Ho) := by kernel_rfl

theorem cmp_isNaN_int64_fn {x0 : AV} {r : AV} {Ho : List Ob} (h : cmp_isNaN_int64 x0 [] (fun v H' => Gives 0 v H' r Ho)) : Abs.Fn Tryz.prog cmp_isNaN_int64_i [] [x0] r Ho :=
  fn_intro mixed cmp_isNaN_int64_ann (fn := Tryz.f154) (by kernel_rfl) (by kernel_rfl) (by rw [cmp_isNaN_int64_eq]; exact h)

/- slices.CompareFunc[[]runnel/val.Value,[]runnel/val.Value,runnel/val.Value,runnel/val.Value] -/
def slices_CompareFunc_val_Value_val_Value_val_Value_val_Value_L1 (q1s0 q1s1 q1s2 q1s11 q1s12 y0 : AV) (H : List Ob) (B1 : List AV → List Ob → Prop) (K : AV → List Ob → Prop) : Prop :=
  aBin false false .lss y0 q1s12 fun v1 =>
  aGuard v1
  (aIndexAddr 5 q1s11 y0 fun v2 =>
  aLoad true 5 v2 H fun v3 =>
  aAlloc [(.p (.int .i64 0)), (.p (.int .i64 0)), (.p (.bool false)), (.p (.str [])), (.full [])] H fun v4 h5 =>
  aStore 5 v4 v3 h5 fun _ h7 =>
  aLen false false q1s1 fun v8 =>
  aBin false false .geq y0 v8 fun v9 =>
  aGuard v9
  (K (.p (.int .i64 1)) h7)
  (aIndexAddr 5 q1s1 y0 fun v10 =>
  aLoad true 5 v10 h7 fun v11 =>
  aAlloc [(.p (.int .i64 0)), (.p (.int .i64 0)), (.p (.bool false)), (.p (.str [])), (.full [])] h7 fun v12 h13 =>
  aStore 5 v12 v11 h13 fun _ h15 =>
  aLoad true 5 v4 h15 fun v16 =>
  aLoad true 5 v12 h15 fun v17 =>
  aCall Tryz.prog q1s2 [v16, v17] h15 fun v18 h19 =>
  aBin false false .neq v18 (.p (.int .i64 0)) fun v20 =>
  aGuard v20
  (K v18 h19)
  (aBin false false .add y0 (.p (.int .i64 1)) fun v21 =>
  B1 [v21] h19)))
  (aLen false false q1s0 fun v22 =>
  aLen false false q1s1 fun v23 =>
  aBin false false .lss v22 v23 fun v24 =>
  aGuard v24
  (K (.p (.int .i64 (-1))) H)
  (K (.p (.int .i64 0)) H))

def slices_CompareFunc_val_Value_val_Value_val_Value_val_Value (x0 x1 x2 : AV) (H : List Ob) (K : AV → List Ob → Prop) : Prop :=
  aLen false false x0 fun v0 =>
  aLoopN 1 [(.p (.int .i64 0))] H fun xs H B1 => slices_CompareFunc_val_Value_val_Value_val_Value_val_Value_L1 x0 x1 x2 x0 v0 (xs.getD 0 .top) H B1 K

def slices_CompareFunc_val_Value_val_Value_val_Value_val_Value_ann : Nat → List Nat := fun k => match k with | 2 => [13] | _ => []

theorem slices_CompareFunc_val_Value_val_Value_val_Value_val_Value_eq (x0 x1 x2 : AV) (H : List Ob) (r : AV) (Ho : List Ob) : aBody Tryz.prog slices_CompareFunc_val_Value_val_Value_val_Value_val_Value_ann Tryz.f156 H [x0, x1, x2] r Ho = slices_CompareFunc_val_Value_val_Value_val_Value_val_Value x0 x1 x2 H (fun v H' => Gives H.length v H' r Ho) := by kernel_rfl

theorem slices_CompareFunc_val_Value_val_Value_val_Value_val_Value_fn {x0 x1 x2 : AV} {r : AV} {Ho : List Ob} (h : slices_CompareFunc_val_Value_val_Value_val_Value_val_Value x0 x1 x2 [] (fun v H' => Gives 0 v H' r Ho)) : Abs.Fn Tryz.prog slices_CompareFunc_val_Value_val_Value_val_Value_val_Value_i [] [x0, x1, x2] r Ho :=
  fn_intro mixed slices_CompareFunc_val_Value_val_Value_val_Value_val_Value_ann (fn := Tryz.f156) (by kernel_rfl) (by kernel_rfl) (by rw [slices_CompareFunc_val_Value_val_Value_val_Value_val_Value_eq]; exact h)

end Go.Proofs.YtijnpcociedigaaGreatDoor
end

section
/- Made by program (Gen.lean): functions of the dump, over trees. -/
set_option maxRecDepth 4000
set_option linter.unusedVariables false
namespace Go.Proofs.YtijnpcociedigaaGreatDoor
open Go Go.Abs

/- runnel/runnellaw4.Op -/
def runnellaw4_Op (x0 x1 : AV) (H : List Ob) (K : AV → List Ob → Prop) : Prop :=
  aAlloc [(.p (.str [])), (.p (.int .i64 0)), (.p (.int .i64 0)), (.p (.bool false)), (.p (.str [])), (.full []), (.p (.int .i64 0)), (.full [])] H fun v0 h1 =>
  aBuild [(.p (.str [])), (.p (.int .i64 0)), (.p (.int .i64 0)), (.p (.bool false)), (.p (.str [])), (.full []), (.p (.int .i64 0)), (.full [])] [(0, 1, x0), (7, 1, x1)] fun v2 =>
  aStore 8 v0 v2 h1 fun _ h4 =>
  aLoad true 8 v0 h4 fun v5 =>
  K v5 h4

def runnellaw4_Op_ann : Nat → List Nat := fun _ => []

theorem runnellaw4_Op_eq (x0 x1 : AV) (H : List Ob) (r : AV) (Ho : List Ob) : aBody Tryz.prog runnellaw4_Op_ann Tryz.f15 H [x0, x1] r Ho = runnellaw4_Op x0 x1 H (fun v H' => Gives H.length v H' r Ho) := by kernel_rfl

theorem runnellaw4_Op_fn {x0 x1 : AV} {r : AV} {Ho : List Ob} (h : runnellaw4_Op x0 x1 [] (fun v H' => Gives 0 v H' r Ho)) : Abs.Fn Tryz.prog runnellaw4_Op_i [] [x0, x1] r Ho :=
  fn_intro mixed runnellaw4_Op_ann (fn := Tryz.f15) (by kernel_rfl) (by kernel_rfl) (by rw [runnellaw4_Op_eq]; exact h)

/- runnel/runnellaw4.X -/
def runnellaw4_X (H : List Ob) (K : AV → List Ob → Prop) : Prop :=
  aAlloc [(.p (.str [])), (.p (.int .i64 0)), (.p (.int .i64 0)), (.p (.bool false)), (.p (.str [])), (.full []), (.p (.int .i64 0)), (.full [])] H fun v0 h1 =>
  aBuild [(.p (.str [])), (.p (.int .i64 0)), (.p (.int .i64 0)), (.p (.bool false)), (.p (.str [])), (.full []), (.p (.int .i64 0)), (.full [])] [(0, 1, (.p (.str [120])))] fun v2 =>
  aStore 8 v0 v2 h1 fun _ h4 =>
  aLoad true 8 v0 h4 fun v5 =>
  K v5 h4

def runnellaw4_X_ann : Nat → List Nat := fun _ => []

theorem runnellaw4_X_eq (H : List Ob) (r : AV) (Ho : List Ob) : aBody Tryz.prog runnellaw4_X_ann Tryz.f16 H [] r Ho = runnellaw4_X H (fun v H' => Gives H.length v H' r Ho) := by kernel_rfl

theorem runnellaw4_X_fn {r : AV} {Ho : List Ob} (h : runnellaw4_X [] (fun v H' => Gives 0 v H' r Ho)) : Abs.Fn Tryz.prog runnellaw4_X_i [] [] r Ho :=
  fn_intro mixed runnellaw4_X_ann (fn := Tryz.f16) (by kernel_rfl) (by kernel_rfl) (by rw [runnellaw4_X_eq]; exact h)

/- runnel/runnellaw4.Lit -/
def runnellaw4_Lit (x0 : AV) (H : List Ob) (K : AV → List Ob → Prop) : Prop :=
  aBox x0 H fun v0 h1 =>
  aAlloc [(.p (.str [])), (.p (.int .i64 0)), (.p (.int .i64 0)), (.p (.bool false)), (.p (.str [])), (.full []), (.p (.int .i64 0)), (.full [])] h1 fun v2 h3 =>
  aLoad true 5 v0 h3 fun v4 =>
  aBuild [(.p (.str [])), (.p (.int .i64 0)), (.p (.int .i64 0)), (.p (.bool false)), (.p (.str [])), (.full []), (.p (.int .i64 0)), (.full [])] [(0, 1, (.p (.str [108, 105, 116]))), (1, 5, v4)] fun v5 =>
  aStore 8 v2 v5 h3 fun _ h7 =>
  aLoad true 8 v2 h7 fun v8 =>
  K v8 h7

def runnellaw4_Lit_ann : Nat → List Nat := fun _ => []

theorem runnellaw4_Lit_eq (x0 : AV) (H : List Ob) (r : AV) (Ho : List Ob) : aBody Tryz.prog runnellaw4_Lit_ann Tryz.f17 H [x0] r Ho = runnellaw4_Lit x0 H (fun v H' => Gives H.length v H' r Ho) := by kernel_rfl

theorem runnellaw4_Lit_fn {x0 : AV} {r : AV} {Ho : List Ob} (h : runnellaw4_Lit x0 [] (fun v H' => Gives 0 v H' r Ho)) : Abs.Fn Tryz.prog runnellaw4_Lit_i [] [x0] r Ho :=
  fn_intro mixed runnellaw4_Lit_ann (fn := Tryz.f17) (by kernel_rfl) (by kernel_rfl) (by rw [runnellaw4_Lit_eq]; exact h)

/- runnel/expr.Check -/
def expr_Check (x0 x1 : AV) (H : List Ob) (K : AV → List Ob → Prop) : Prop :=
  aBox x0 H fun v0 h1 =>
  aBox x1 h1 fun v2 h3 =>
  aAlloc [(.p (.int .i64 0)), (.full [])] h3 fun v4 h5 =>
  aLoad true 2 v2 h5 fun v6 =>
  aCall Tryz.prog (.p (.func typ_Check_i [])) [v6] h5 fun v7 h8 =>
  aBin false false .neq v7 (.p (.int .i64 0)) fun v9 =>
  aGuard v9
  (aBuild [(.p (.int .i64 0)), (.full [])] [] fun v10 =>
  aStore 2 v4 v10 h8 fun _ h12 =>
  aLoad true 2 v4 h12 fun v13 =>
  K (.tup [v13, (.p (.int .i64 5))]) h12)
  (aLoad true 8 v0 h8 fun v14 =>
  aCall Tryz.prog (.p (.func expr_Size_i [])) [v14] h8 fun v15 h16 =>
  aBin false false .gtr v15 (.p (.int .i64 256)) fun v17 =>
  aGuard v17
  (aBuild [(.p (.int .i64 0)), (.full [])] [] fun v18 =>
  aStore 2 v4 v18 h16 fun _ h20 =>
  aLoad true 2 v4 h20 fun v21 =>
  K (.tup [v21, (.p (.int .i64 10))]) h20)
  (aLoad true 8 v0 h16 fun v22 =>
  aLoad true 2 v2 h16 fun v23 =>
  aCall Tryz.prog (.p (.func expr_check_i [])) [v22, v23, (.p (.int .i64 0))] h16 fun v24 h25 =>
  aExtract v24 0 fun v26 =>
  aExtract v24 1 fun v27 =>
  aStore 2 v4 v26 h25 fun _ h29 =>
  aLoad true 2 v4 h29 fun v30 =>
  K (.tup [v30, v27]) h29))

def expr_Check_ann : Nat → List Nat := fun _ => []

theorem expr_Check_eq (x0 x1 : AV) (H : List Ob) (r : AV) (Ho : List Ob) : aBody Tryz.prog expr_Check_ann Tryz.f32 H [x0, x1] r Ho = expr_Check x0 x1 H (fun v H' => Gives H.length v H' r Ho) := by kernel_rfl

theorem expr_Check_fn {x0 x1 : AV} {r : AV} {Ho : List Ob} (h : expr_Check x0 x1 [] (fun v H' => Gives 0 v H' r Ho)) : Abs.Fn Tryz.prog expr_Check_i [] [x0, x1] r Ho :=
  fn_intro mixed expr_Check_ann (fn := Tryz.f32) (by kernel_rfl) (by kernel_rfl) (by rw [expr_Check_eq]; exact h)

/- runnel/expr.Size -/
def expr_Size_L1 (q1s7 q1s8 y0 y1 : AV) (H : List Ob) (B1 : List AV → List Ob → Prop) (K : AV → List Ob → Prop) : Prop :=
  aBin false false .lss y1 q1s8 fun v5 =>
  aGuard v5
  (aIndexAddr 8 q1s7 y1 fun v6 =>
  aLoad true 8 v6 H fun v7 =>
  aAlloc [(.p (.str [])), (.p (.int .i64 0)), (.p (.int .i64 0)), (.p (.bool false)), (.p (.str [])), (.full []), (.p (.int .i64 0)), (.full [])] H fun v8 h9 =>
  aStore 8 v8 v7 h9 fun _ h11 =>
  aLoad true 8 v8 h11 fun v12 =>
  aCall Tryz.prog (.p (.func expr_Size_i [])) [v12] h11 fun v13 h14 =>
  aBin false false .add y0 v13 fun v15 =>
  aBin false false .add y1 (.p (.int .i64 1)) fun v16 =>
  B1 [v15, v16] h14)
  (K y0 H)

def expr_Size (x0 : AV) (H : List Ob) (K : AV → List Ob → Prop) : Prop :=
  aBox x0 H fun v0 h1 =>
  aFieldAddr 7 v0 fun v2 =>
  aLoad false 1 v2 h1 fun v3 =>
  aLen false false v3 fun v4 =>
  aLoopN 2 [(.p (.int .i64 1)), (.p (.int .i64 0))] h1 fun xs H B1 => expr_Size_L1 v3 v4 (xs.getD 0 .top) (xs.getD 1 .top) H B1 K

def expr_Size_ann : Nat → List Nat := fun k => match k with | 3 => [3, 9] | _ => []

theorem expr_Size_eq (x0 : AV) (H : List Ob) (r : AV) (Ho : List Ob) : aBody Tryz.prog expr_Size_ann Tryz.f51 H [x0] r Ho = expr_Size x0 H (fun v H' => Gives H.length v H' r Ho) := by kernel_rfl

theorem expr_Size_fn {x0 : AV} {r : AV} {Ho : List Ob} (h : expr_Size x0 [] (fun v H' => Gives 0 v H' r Ho)) : Abs.Fn Tryz.prog expr_Size_i [] [x0] r Ho :=
  fn_intro mixed expr_Size_ann (fn := Tryz.f51) (by kernel_rfl) (by kernel_rfl) (by rw [expr_Size_eq]; exact h)

/- runnel/expr.check -/
def expr_check_L1 (q1s2 q1s3 q1s4 q1s6 q1s8 q1s49 q1s50 y0 y1 : AV) (H : List Ob) (B1 : List AV → List Ob → Prop) (K : AV → List Ob → Prop) : Prop :=
  aBin false false .lss y1 q1s50 fun v19 =>
  aGuard v19
  (aIndexAddr 8 q1s49 y1 fun v20 =>
  aLoad true 8 v20 H fun v21 =>
  aAlloc [(.p (.str [])), (.p (.int .i64 0)), (.p (.int .i64 0)), (.p (.bool false)), (.p (.str [])), (.full []), (.p (.int .i64 0)), (.full [])] H fun v22 h23 =>
  aStore 8 v22 v21 h23 fun _ h25 =>
  aLoad true 8 v22 h25 fun v26 =>
  aLoad true 2 q1s4 h25 fun v27 =>
  aBin false false .add q1s2 (.p (.int .i64 1)) fun v28 =>
  aCall Tryz.prog (.p (.func expr_check_i [])) [v26, v27, v28] h25 fun v29 h30 =>
  aExtract v29 0 fun v31 =>
  aExtract v29 1 fun v32 =>
  aAlloc [(.p (.int .i64 0)), (.full [])] h30 fun v33 h34 =>
  aStore 2 v33 v31 h34 fun _ h36 =>
  aBin false false .neq v32 (.p (.int .i64 0)) fun v37 =>
  aGuard v37
  (aBuild [(.p (.int .i64 0)), (.full [])] [] fun v38 =>
  aStore 2 q1s6 v38 h36 fun _ h40 =>
  aLoad true 2 q1s6 h40 fun v41 =>
  K (.tup [v41, v32]) h40)
  (aLoad true 2 v33 h36 fun v42 =>
  aBuildSlice 2 [v42] fun v43 =>
  aAppend false 2 32 y0 v43 h36 fun v44 h45 =>
  aBin false false .add y1 (.p (.int .i64 1)) fun v46 =>
  B1 [v44, v46] h45))
  (aLoad true 5 q1s8 H fun v47 =>
  aCall Tryz.prog (.p (.func expr_fits_i [])) [v47, y0] H fun v48 h49 =>
  aUn .not v48 fun v50 =>
  aGuard v50
  (aBuild [(.p (.int .i64 0)), (.full [])] [] fun v51 =>
  aStore 2 q1s6 v51 h49 fun _ h53 =>
  aLoad true 2 q1s6 h53 fun v54 =>
  K (.tup [v54, (.p (.int .i64 5))]) h53)
  (aLoad true 8 q1s3 h49 fun v55 =>
  aLoad true 5 q1s8 h49 fun v56 =>
  aCallT Tryz.prog (.p (.func slices_Clip_typ_Type_typ_Type_i [])) [y0] fun v57 =>
  aLoad true 2 q1s4 h49 fun v58 =>
  aCallT Tryz.prog (.p (.func expr_Expr_comes_i [])) [v55, v56, v57, v58] fun v59 =>
  aExtract v59 0 fun v60 =>
  aExtract v59 1 fun v61 =>
  aStore 2 q1s6 v60 h49 fun _ h63 =>
  aLoad true 2 q1s6 h63 fun v64 =>
  K (.tup [v64, v61]) h63))

def expr_check_J1 (j1s2 j1s3 j1s4 j1s6 j1s8 : AV) (H : List Ob) (K : AV → List Ob → Prop) : Prop :=
  aFieldAddr 7 j1s3 fun v16 =>
  aLoad false 1 v16 H fun v17 =>
  aLen false false v17 fun v18 =>
  aLoopN 2 [(.full []), (.p (.int .i64 0))] H fun xs H B1 => expr_check_L1 j1s2 j1s3 j1s4 j1s6 j1s8 v17 v18 (xs.getD 0 .top) (xs.getD 1 .top) H B1 K

def expr_check (x0 x1 x2 : AV) (H : List Ob) (K : AV → List Ob → Prop) : Prop :=
  aBox x0 H fun v0 h1 =>
  aBox x1 h1 fun v2 h3 =>
  aAlloc [(.p (.int .i64 0)), (.full [])] h3 fun v4 h5 =>
  aAlloc [(.p (.int .i64 0)), (.p (.int .i64 0)), (.full []), (.p (.bool false)), (.p (.int .i64 0))] h5 fun v6 h7 =>
  aCallT Tryz.prog (.p (.func expr_shapes_i [])) [] fun v8 =>
  aFieldAddr 0 v0 fun v9 =>
  aLoad false 1 v9 h7 fun v10 =>
  aCallT Tryz.prog (.p (.func expr_find_string_expr_shape_i [])) [v8, v10] fun v11 =>
  aExtract v11 0 fun v12 =>
  aExtract v11 1 fun v13 =>
  aStore 5 v6 v12 h7 fun _ h15 =>
  aUn .not v13 fun v65 =>
  aGuard v65
  (aBuild [(.p (.int .i64 0)), (.full [])] [] fun v66 =>
  aStore 2 v4 v66 h15 fun _ h68 =>
  aLoad true 2 v4 h68 fun v69 =>
  K (.tup [v69, (.p (.int .i64 6))]) h68)
  (aBin false false .gtr x2 (.p (.int .i64 12)) fun v70 =>
  aGuard v70
  (aBuild [(.p (.int .i64 0)), (.full [])] [] fun v71 =>
  aStore 2 v4 v71 h15 fun _ h73 =>
  aLoad true 2 v4 h73 fun v74 =>
  K (.tup [v74, (.p (.int .i64 9))]) h73)
  (aLoad true 8 v0 h15 fun v75 =>
  aLoad true 5 v6 h15 fun v76 =>
  aCall Tryz.prog (.p (.func expr_Expr_fields_i [])) [v75, v76] h15 fun v77 h78 =>
  aUn .not v77 fun v79 =>
  aGuard v79
  (aBuild [(.p (.int .i64 0)), (.full [])] [] fun v80 =>
  aStore 2 v4 v80 h78 fun _ h82 =>
  aLoad true 2 v4 h82 fun v83 =>
  K (.tup [v83, (.p (.int .i64 1))]) h82)
  (aFieldAddr 0 v0 fun v84 =>
  aLoad false 1 v84 h78 fun v85 =>
  aBin false false .eql v85 (.p (.str [108, 105, 116])) fun v86 =>
  aGuard v86
  (aFieldAddr 1 v0 fun v87 =>
  aLoad true 5 v87 h78 fun v88 =>
  aCall Tryz.prog (.p (.func val_Check_i [])) [v88] h78 fun v89 h90 =>
  aBin false false .neq v89 (.p (.int .i64 0)) fun v91 =>
  aGuard v91
  (aBuild [(.p (.int .i64 0)), (.full [])] [] fun v92 =>
  aStore 2 v4 v92 h90 fun _ h94 =>
  aLoad true 2 v4 h94 fun v95 =>
  K (.tup [v95, v89]) h94)
  (expr_check_J1 x2 v0 v2 v4 v6 h90 K))
  (expr_check_J1 x2 v0 v2 v4 v6 h78 K))))

def expr_check_ann : Nat → List Nat := fun k => match k with | 14 => [11, 51] | _ => []

theorem expr_check_eq (x0 x1 x2 : AV) (H : List Ob) (r : AV) (Ho : List Ob) : aBody Tryz.prog expr_check_ann Tryz.f52 H [x0, x1, x2] r Ho = expr_check x0 x1 x2 H (fun v H' => Gives H.length v H' r Ho) := by kernel_rfl

theorem expr_check_fn {x0 x1 x2 : AV} {r : AV} {Ho : List Ob} (h : expr_check x0 x1 x2 [] (fun v H' => Gives 0 v H' r Ho)) : Abs.Fn Tryz.prog expr_check_i [] [x0, x1, x2] r Ho :=
  fn_intro mixed expr_check_ann (fn := Tryz.f52) (by kernel_rfl) (by kernel_rfl) (by rw [expr_check_eq]; exact h)

/- runnel/expr.find[string,runnel/expr.shape] -/
def expr_find_string_expr_shape_L1 (q1s1 q1s4 q1s9 q1s10 y0 : AV) (H : List Ob) (B1 : List AV → List Ob → Prop) (K : AV → List Ob → Prop) : Prop :=
  aBin false false .lss y0 q1s10 fun v3 =>
  aGuard v3
  (aIndexAddr 6 q1s9 y0 fun v4 =>
  aLoad true 6 v4 H fun v5 =>
  aAlloc [(.p (.str [])), (.p (.int .i64 0)), (.p (.int .i64 0)), (.full []), (.p (.bool false)), (.p (.int .i64 0))] H fun v6 h7 =>
  aStore 6 v6 v5 h7 fun _ h9 =>
  aFieldAddr 0 v6 fun v10 =>
  aLoad false 1 v10 h9 fun v11 =>
  aBin false false .eql v11 q1s1 fun v12 =>
  aGuard v12
  (aFieldAddr 1 v6 fun v13 =>
  aLoad true 5 v13 h9 fun v14 =>
  aStore 5 q1s4 v14 h9 fun _ h16 =>
  aLoad true 5 q1s4 h16 fun v17 =>
  K (.tup [v17, (.p (.bool true))]) h16)
  (aBin false false .add y0 (.p (.int .i64 1)) fun v18 =>
  B1 [v18] h9))
  (aAlloc [(.p (.int .i64 0)), (.p (.int .i64 0)), (.full []), (.p (.bool false)), (.p (.int .i64 0))] H fun v19 h20 =>
  aLoad true 5 v19 h20 fun v21 =>
  aStore 5 q1s4 v21 h20 fun _ h23 =>
  aLoad true 5 q1s4 h23 fun v24 =>
  K (.tup [v24, (.p (.bool false))]) h23)

def expr_find_string_expr_shape (x0 x1 : AV) (H : List Ob) (K : AV → List Ob → Prop) : Prop :=
  aAlloc [(.p (.int .i64 0)), (.p (.int .i64 0)), (.full []), (.p (.bool false)), (.p (.int .i64 0))] H fun v0 h1 =>
  aLen false false x0 fun v2 =>
  aLoopN 1 [(.p (.int .i64 0))] h1 fun xs H B1 => expr_find_string_expr_shape_L1 x1 v0 x0 v2 (xs.getD 0 .top) H B1 K

def expr_find_string_expr_shape_ann : Nat → List Nat := fun k => match k with | 2 => [11] | _ => []

theorem expr_find_string_expr_shape_eq (x0 x1 : AV) (H : List Ob) (r : AV) (Ho : List Ob) : aBody Tryz.prog expr_find_string_expr_shape_ann Tryz.f83 H [x0, x1] r Ho = expr_find_string_expr_shape x0 x1 H (fun v H' => Gives H.length v H' r Ho) := by kernel_rfl

theorem expr_find_string_expr_shape_fn {x0 x1 : AV} {r : AV} {Ho : List Ob} (h : expr_find_string_expr_shape x0 x1 [] (fun v H' => Gives 0 v H' r Ho)) : Abs.Fn Tryz.prog expr_find_string_expr_shape_i [] [x0, x1] r Ho :=
  fn_intro mixed expr_find_string_expr_shape_ann (fn := Tryz.f83) (by kernel_rfl) (by kernel_rfl) (by rw [expr_find_string_expr_shape_eq]; exact h)

/- runnel/expr.shapes -/
def expr_shapes (H : List Ob) (K : AV → List Ob → Prop) : Prop :=
  aBuildSlice 1 [(.p (.int .i64 1)), (.p (.int .i64 1))] fun v0 =>
  aBuild [(.p (.int .i64 0)), (.p (.int .i64 0)), (.full []), (.p (.bool false)), (.p (.int .i64 0))] [(0, 1, (.p (.int .i64 2))), (1, 1, (.p (.int .i64 2))), (2, 1, v0), (3, 1, (.p (.bool false))), (4, 1, (.p (.int .i64 1)))] fun v1 =>
  aAlloc [(.p (.int .i64 0)), (.p (.int .i64 0)), (.full []), (.p (.bool false)), (.p (.int .i64 0))] H fun v2 h3 =>
  aStore 5 v2 v1 h3 fun _ h5 =>
  aBuildSlice 1 [(.p (.int .i64 0)), (.p (.int .i64 0))] fun v6 =>
  aBuild [(.p (.int .i64 0)), (.p (.int .i64 0)), (.full []), (.p (.bool false)), (.p (.int .i64 0))] [(0, 1, (.p (.int .i64 2))), (1, 1, (.p (.int .i64 2))), (2, 1, v6), (3, 1, (.p (.bool true))), (4, 1, (.p (.int .i64 2)))] fun v7 =>
  aAlloc [(.p (.int .i64 0)), (.p (.int .i64 0)), (.full []), (.p (.bool false)), (.p (.int .i64 0))] h5 fun v8 h9 =>
  aStore 5 v8 v7 h9 fun _ h11 =>
  aBuildSlice 1 [(.p (.int .i64 2)), (.p (.int .i64 2))] fun v12 =>
  aBuild [(.p (.int .i64 0)), (.p (.int .i64 0)), (.full []), (.p (.bool false)), (.p (.int .i64 0))] [(0, 1, (.p (.int .i64 2))), (1, 1, (.p (.int .i64 2))), (2, 1, v12), (3, 1, (.p (.bool false))), (4, 1, (.p (.int .i64 2)))] fun v13 =>
  aAlloc [(.p (.int .i64 0)), (.p (.int .i64 0)), (.full []), (.p (.bool false)), (.p (.int .i64 0))] h11 fun v14 h15 =>
  aStore 5 v14 v13 h15 fun _ h17 =>
  aBuild [(.p (.int .i64 0)), (.p (.int .i64 0)), (.full []), (.p (.bool false)), (.p (.int .i64 0))] [] fun v18 =>
  aBuild [(.p (.str [])), (.p (.int .i64 0)), (.p (.int .i64 0)), (.full []), (.p (.bool false)), (.p (.int .i64 0))] [(0, 1, (.p (.str [108, 105, 116]))), (1, 5, v18)] fun v19 =>
  aBuild [(.p (.int .i64 0)), (.p (.int .i64 0)), (.full []), (.p (.bool false)), (.p (.int .i64 0))] [] fun v20 =>
  aBuild [(.p (.str [])), (.p (.int .i64 0)), (.p (.int .i64 0)), (.full []), (.p (.bool false)), (.p (.int .i64 0))] [(0, 1, (.p (.str [120]))), (1, 5, v20)] fun v21 =>
  aBuildSlice 1 [(.p (.int .i64 4))] fun v22 =>
  aBuild [(.p (.int .i64 0)), (.p (.int .i64 0)), (.full []), (.p (.bool false)), (.p (.int .i64 0))] [(0, 1, (.p (.int .i64 1))), (1, 1, (.p (.int .i64 1))), (2, 1, v22), (3, 1, (.p (.bool false))), (4, 1, (.p (.int .i64 0)))] fun v23 =>
  aBuild [(.p (.str [])), (.p (.int .i64 0)), (.p (.int .i64 0)), (.full []), (.p (.bool false)), (.p (.int .i64 0))] [(0, 1, (.p (.str [97, 116]))), (1, 5, v23)] fun v24 =>
  aBuild [(.p (.int .i64 0)), (.p (.int .i64 0)), (.full []), (.p (.bool false)), (.p (.int .i64 0))] [(0, 1, (.p (.int .i64 1))), (1, 1, (.p (.int .i64 8))), (2, 1, (.full [])), (3, 1, (.p (.bool false))), (4, 1, (.p (.int .i64 4)))] fun v25 =>
  aBuild [(.p (.str [])), (.p (.int .i64 0)), (.p (.int .i64 0)), (.full []), (.p (.bool false)), (.p (.int .i64 0))] [(0, 1, (.p (.str [116, 117, 112]))), (1, 5, v25)] fun v26 =>
  aBuildSlice 1 [(.p (.int .i64 1))] fun v27 =>
  aBuild [(.p (.int .i64 0)), (.p (.int .i64 0)), (.full []), (.p (.bool false)), (.p (.int .i64 0))] [(0, 1, (.p (.int .i64 1))), (1, 1, (.p (.int .i64 1))), (2, 1, v27), (3, 1, (.p (.bool false))), (4, 1, (.p (.int .i64 1)))] fun v28 =>
  aBuild [(.p (.str [])), (.p (.int .i64 0)), (.p (.int .i64 0)), (.full []), (.p (.bool false)), (.p (.int .i64 0))] [(0, 1, (.p (.str [110, 101, 103]))), (1, 5, v28)] fun v29 =>
  aBuildSlice 1 [(.p (.int .i64 2))] fun v30 =>
  aBuild [(.p (.int .i64 0)), (.p (.int .i64 0)), (.full []), (.p (.bool false)), (.p (.int .i64 0))] [(0, 1, (.p (.int .i64 1))), (1, 1, (.p (.int .i64 1))), (2, 1, v30), (3, 1, (.p (.bool false))), (4, 1, (.p (.int .i64 2)))] fun v31 =>
  aBuild [(.p (.str [])), (.p (.int .i64 0)), (.p (.int .i64 0)), (.full []), (.p (.bool false)), (.p (.int .i64 0))] [(0, 1, (.p (.str [110, 111, 116]))), (1, 5, v31)] fun v32 =>
  aBuildSlice 1 [(.p (.int .i64 3))] fun v33 =>
  aBuild [(.p (.int .i64 0)), (.p (.int .i64 0)), (.full []), (.p (.bool false)), (.p (.int .i64 0))] [(0, 1, (.p (.int .i64 1))), (1, 1, (.p (.int .i64 1))), (2, 1, v33), (3, 1, (.p (.bool false))), (4, 1, (.p (.int .i64 1)))] fun v34 =>
  aBuild [(.p (.str [])), (.p (.int .i64 0)), (.p (.int .i64 0)), (.full []), (.p (.bool false)), (.p (.int .i64 0))] [(0, 1, (.p (.str [108, 101, 110]))), (1, 5, v34)] fun v35 =>
  aLoad true 5 v2 h17 fun v36 =>
  aBuild [(.p (.str [])), (.p (.int .i64 0)), (.p (.int .i64 0)), (.full []), (.p (.bool false)), (.p (.int .i64 0))] [(0, 1, (.p (.str [97, 100, 100]))), (1, 5, v36)] fun v37 =>
  aLoad true 5 v2 h17 fun v38 =>
  aBuild [(.p (.str [])), (.p (.int .i64 0)), (.p (.int .i64 0)), (.full []), (.p (.bool false)), (.p (.int .i64 0))] [(0, 1, (.p (.str [115, 117, 98]))), (1, 5, v38)] fun v39 =>
  aLoad true 5 v2 h17 fun v40 =>
  aBuild [(.p (.str [])), (.p (.int .i64 0)), (.p (.int .i64 0)), (.full []), (.p (.bool false)), (.p (.int .i64 0))] [(0, 1, (.p (.str [109, 117, 108]))), (1, 5, v40)] fun v41 =>
  aLoad true 5 v2 h17 fun v42 =>
  aBuild [(.p (.str [])), (.p (.int .i64 0)), (.p (.int .i64 0)), (.full []), (.p (.bool false)), (.p (.int .i64 0))] [(0, 1, (.p (.str [100, 105, 118]))), (1, 5, v42)] fun v43 =>
  aLoad true 5 v2 h17 fun v44 =>
  aBuild [(.p (.str [])), (.p (.int .i64 0)), (.p (.int .i64 0)), (.full []), (.p (.bool false)), (.p (.int .i64 0))] [(0, 1, (.p (.str [114, 101, 109]))), (1, 5, v44)] fun v45 =>
  aLoad true 5 v8 h17 fun v46 =>
  aBuild [(.p (.str [])), (.p (.int .i64 0)), (.p (.int .i64 0)), (.full []), (.p (.bool false)), (.p (.int .i64 0))] [(0, 1, (.p (.str [101, 113]))), (1, 5, v46)] fun v47 =>
  aLoad true 5 v8 h17 fun v48 =>
  aBuild [(.p (.str [])), (.p (.int .i64 0)), (.p (.int .i64 0)), (.full []), (.p (.bool false)), (.p (.int .i64 0))] [(0, 1, (.p (.str [108, 116]))), (1, 5, v48)] fun v49 =>
  aLoad true 5 v14 h17 fun v50 =>
  aBuild [(.p (.str [])), (.p (.int .i64 0)), (.p (.int .i64 0)), (.full []), (.p (.bool false)), (.p (.int .i64 0))] [(0, 1, (.p (.str [97, 110, 100]))), (1, 5, v50)] fun v51 =>
  aLoad true 5 v14 h17 fun v52 =>
  aBuild [(.p (.str [])), (.p (.int .i64 0)), (.p (.int .i64 0)), (.full []), (.p (.bool false)), (.p (.int .i64 0))] [(0, 1, (.p (.str [111, 114]))), (1, 5, v52)] fun v53 =>
  aBuildSlice 1 [(.p (.int .i64 3)), (.p (.int .i64 3))] fun v54 =>
  aBuild [(.p (.int .i64 0)), (.p (.int .i64 0)), (.full []), (.p (.bool false)), (.p (.int .i64 0))] [(0, 1, (.p (.int .i64 2))), (1, 1, (.p (.int .i64 2))), (2, 1, v54), (3, 1, (.p (.bool false))), (4, 1, (.p (.int .i64 3)))] fun v55 =>
  aBuild [(.p (.str [])), (.p (.int .i64 0)), (.p (.int .i64 0)), (.full []), (.p (.bool false)), (.p (.int .i64 0))] [(0, 1, (.p (.str [99, 97, 116]))), (1, 5, v55)] fun v56 =>
  aBuildSlice 1 [(.p (.int .i64 2)), (.p (.int .i64 0)), (.p (.int .i64 0))] fun v57 =>
  aBuild [(.p (.int .i64 0)), (.p (.int .i64 0)), (.full []), (.p (.bool false)), (.p (.int .i64 0))] [(0, 1, (.p (.int .i64 3))), (1, 1, (.p (.int .i64 3))), (2, 1, v57), (3, 1, (.p (.bool true))), (4, 1, (.p (.int .i64 0)))] fun v58 =>
  aBuild [(.p (.str [])), (.p (.int .i64 0)), (.p (.int .i64 0)), (.full []), (.p (.bool false)), (.p (.int .i64 0))] [(0, 1, (.p (.str [105, 102]))), (1, 5, v58)] fun v59 =>
  aBuildSlice 6 [v19, v21, v24, v26, v29, v32, v35, v37, v39, v41, v43, v45, v47, v49, v51, v53, v56, v59] fun v60 =>
  K v60 h17

def expr_shapes_ann : Nat → List Nat := fun _ => []

theorem expr_shapes_eq (H : List Ob) (r : AV) (Ho : List Ob) : aBody Tryz.prog expr_shapes_ann Tryz.f84 H [] r Ho = expr_shapes H (fun v H' => Gives H.length v H' r Ho) := by kernel_rfl

theorem expr_shapes_fn {r : AV} {Ho : List Ob} (h : expr_shapes [] (fun v H' => Gives 0 v H' r Ho)) : Abs.Fn Tryz.prog expr_shapes_i [] [] r Ho :=
  fn_intro mixed expr_shapes_ann (fn := Tryz.f84) (by kernel_rfl) (by kernel_rfl) (by rw [expr_shapes_eq]; exact h)

/- (runnel/expr.Expr).fields -/
def expr_Expr_fields (x0 x1 : AV) (H : List Ob) (K : AV → List Ob → Prop) : Prop :=
  aBox x0 H fun v0 h1 =>
  aBox x1 h1 fun v2 h3 =>
  aFieldAddr 7 v0 fun v4 =>
  aLoad false 1 v4 h3 fun v5 =>
  aLen false false v5 fun v6 =>
  aFieldAddr 0 v2 fun v7 =>
  aLoad false 1 v7 h3 fun v8 =>
  aBin false false .geq v6 v8 fun v9 =>
  aMerge true v9 (fun Q10 =>
  aFieldAddr 7 v0 fun v11 =>
  aLoad false 1 v11 h3 fun v12 =>
  aLenS false v12 fun v13 =>
  aFieldAddr 1 v2 fun v14 =>
  aLoad false 1 v14 h3 fun v15 =>
  aBin false false .leq v13 v15 fun v16 =>
  (h3 = h3 ∧ Q10 v16)) fun v17 =>
  aMerge true v17 (fun Q18 =>
  aFieldAddr 0 v0 fun v19 =>
  aLoad false 1 v19 h3 fun v20 =>
  aBin false false .eql v20 (.p (.str [108, 105, 116])) fun v21 =>
  aMerge false v21 (fun Q22 =>
  aFieldAddr 1 v0 fun v23 =>
  aLoad true 5 v23 h3 fun v24 =>
  aCall Tryz.prog (.p (.func expr_none_i [])) [v24] h3 fun v25 h26 =>
  (h26 = h3 ∧ Q22 v25)) fun v27 =>
  (h3 = h3 ∧ Q18 v27)) fun v28 =>
  aMerge true v28 (fun Q29 =>
  aFieldAddr 0 v0 fun v30 =>
  aLoad false 1 v30 h3 fun v31 =>
  aBin false false .eql v31 (.p (.str [97, 116])) fun v32 =>
  aMerge false v32 (fun Q33 =>
  aFieldAddr 6 v0 fun v34 =>
  aLoad false 1 v34 h3 fun v35 =>
  aBin false false .eql v35 (.p (.int .i64 0)) fun v36 =>
  (h3 = h3 ∧ Q33 v36)) fun v37 =>
  (h3 = h3 ∧ Q29 v37)) fun v38 =>
  K v38 h3

def expr_Expr_fields_ann : Nat → List Nat := fun _ => []

theorem expr_Expr_fields_eq (x0 x1 : AV) (H : List Ob) (r : AV) (Ho : List Ob) : aBody Tryz.prog expr_Expr_fields_ann Tryz.f85 H [x0, x1] r Ho = expr_Expr_fields x0 x1 H (fun v H' => Gives H.length v H' r Ho) := by kernel_rfl

theorem expr_Expr_fields_fn {x0 x1 : AV} {r : AV} {Ho : List Ob} (h : expr_Expr_fields x0 x1 [] (fun v H' => Gives 0 v H' r Ho)) : Abs.Fn Tryz.prog expr_Expr_fields_i [] [x0, x1] r Ho :=
  fn_intro mixed expr_Expr_fields_ann (fn := Tryz.f85) (by kernel_rfl) (by kernel_rfl) (by rw [expr_Expr_fields_eq]; exact h)

/- runnel/expr.fits -/
def expr_fits_L1 (q1s1 q1s2 q1s8 q1s9 y0 : AV) (H : List Ob) (B1 : List AV → List Ob → Prop) (K : AV → List Ob → Prop) : Prop :=
  aBin false false .lss y0 q1s9 fun v5 =>
  aGuard v5
  (aIndexAddr 1 q1s8 y0 fun v6 =>
  aLoad false 1 v6 H fun v7 =>
  aBin false false .neq v7 (.p (.int .i64 0)) fun v8 =>
  aMerge true v8 (fun Q9 =>
  aIndexAddr 2 q1s1 y0 fun v10 =>
  aFieldAddr 0 v10 fun v11 =>
  aLoad false 1 v11 H fun v12 =>
  aBin false false .neq v12 v7 fun v13 =>
  (H = H ∧ Q9 v13)) fun v14 =>
  aGuard v14
  (K (.p (.bool false)) H)
  (aBin false false .add y0 (.p (.int .i64 1)) fun v15 =>
  B1 [v15] H))
  (aFieldAddr 3 q1s2 fun v16 =>
  aLoad false 1 v16 H fun v17 =>
  aUn .not v17 fun v18 =>
  aGuard v18
  (K (.p (.bool true)) H)
  (aLen true false q1s1 fun v19 =>
  aBin false false .sub v19 (.p (.int .i64 1)) fun v20 =>
  aIndexAddr 2 q1s1 v20 fun v21 =>
  aLoad true 2 v21 H fun v22 =>
  aLen true false q1s1 fun v23 =>
  aBin false false .sub v23 (.p (.int .i64 2)) fun v24 =>
  aIndexAddr 2 q1s1 v24 fun v25 =>
  aLoad true 2 v25 H fun v26 =>
  aCallT Tryz.prog (.p (.func typ_Same_i [])) [v22, v26] fun v27 =>
  K v27 H))

def expr_fits (x0 x1 : AV) (H : List Ob) (K : AV → List Ob → Prop) : Prop :=
  aBox x0 H fun v0 h1 =>
  aFieldAddr 2 v0 fun v2 =>
  aLoad false 1 v2 h1 fun v3 =>
  aLen false false v3 fun v4 =>
  aLoopN 1 [(.p (.int .i64 0))] h1 fun xs H B1 => expr_fits_L1 x1 v0 v3 v4 (xs.getD 0 .top) H B1 K

def expr_fits_ann : Nat → List Nat := fun k => match k with | 2 => [10] | _ => []

theorem expr_fits_eq (x0 x1 : AV) (H : List Ob) (r : AV) (Ho : List Ob) : aBody Tryz.prog expr_fits_ann Tryz.f87 H [x0, x1] r Ho = expr_fits x0 x1 H (fun v H' => Gives H.length v H' r Ho) := by kernel_rfl

theorem expr_fits_fn {x0 x1 : AV} {r : AV} {Ho : List Ob} (h : expr_fits x0 x1 [] (fun v H' => Gives 0 v H' r Ho)) : Abs.Fn Tryz.prog expr_fits_i [] [x0, x1] r Ho :=
  fn_intro mixed expr_fits_ann (fn := Tryz.f87) (by kernel_rfl) (by kernel_rfl) (by rw [expr_fits_eq]; exact h)

/- (runnel/expr.Expr).comes -/
def expr_Expr_comes (x0 x1 x2 x3 : AV) (H : List Ob) (K : AV → List Ob → Prop) : Prop :=
  aBox x0 H fun v0 h1 =>
  aBox x1 h1 fun v2 h3 =>
  aBox x3 h3 fun v4 h5 =>
  aAlloc [(.p (.int .i64 0)), (.full [])] h5 fun v6 h7 =>
  aFieldAddr 0 v0 fun v8 =>
  aLoad false 1 v8 h7 fun v9 =>
  aBin false false .eql v9 (.p (.str [108, 105, 116])) fun v10 =>
  aGuard v10
  (aFieldAddr 1 v0 fun v11 =>
  aLoad true 5 v11 h7 fun v12 =>
  aCall Tryz.prog (.p (.func val_TypeOf_i [])) [v12] h7 fun v13 h14 =>
  aStore 2 v6 v13 h14 fun _ h16 =>
  aLoad true 2 v6 h16 fun v17 =>
  K (.tup [v17, (.p (.int .i64 0))]) h16)
  (aBin false false .eql v9 (.p (.str [120])) fun v18 =>
  aGuard v18
  (aLoad true 2 v4 h7 fun v19 =>
  aStore 2 v6 v19 h7 fun _ h21 =>
  aLoad true 2 v6 h21 fun v22 =>
  K (.tup [v22, (.p (.int .i64 0))]) h21)
  (aBin false false .eql v9 (.p (.str [97, 116])) fun v23 =>
  aGuard v23
  (aFieldAddr 6 v0 fun v24 =>
  aLoad false 1 v24 h7 fun v25 =>
  aBin false false .lss v25 (.p (.int .i64 0)) fun v26 =>
  aGuard v26
  (aBuild [(.p (.int .i64 0)), (.full [])] [] fun v27 =>
  aStore 2 v6 v27 h7 fun _ h29 =>
  aLoad true 2 v6 h29 fun v30 =>
  K (.tup [v30, (.p (.int .i64 1))]) h29)
  (aFieldAddr 6 v0 fun v31 =>
  aLoad false 1 v31 h7 fun v32 =>
  aIndexAddr 2 x2 (.p (.int .i64 0)) fun v33 =>
  aFieldAddr 1 v33 fun v34 =>
  aLoad false 1 v34 h7 fun v35 =>
  aLen true false v35 fun v36 =>
  aBin false false .geq v32 v36 fun v37 =>
  aGuard v37
  (aBuild [(.p (.int .i64 0)), (.full [])] [] fun v38 =>
  aStore 2 v6 v38 h7 fun _ h40 =>
  aLoad true 2 v6 h40 fun v41 =>
  K (.tup [v41, (.p (.int .i64 1))]) h40)
  (aIndexAddr 2 x2 (.p (.int .i64 0)) fun v42 =>
  aFieldAddr 1 v42 fun v43 =>
  aLoad false 1 v43 h7 fun v44 =>
  aFieldAddr 6 v0 fun v45 =>
  aLoad false 1 v45 h7 fun v46 =>
  aIndexAddr 2 v44 v46 fun v47 =>
  aLoad true 2 v47 h7 fun v48 =>
  aStore 2 v6 v48 h7 fun _ h50 =>
  aLoad true 2 v6 h50 fun v51 =>
  K (.tup [v51, (.p (.int .i64 0))]) h50)))
  (aBin false false .eql v9 (.p (.str [116, 117, 112])) fun v52 =>
  aGuard v52
  (aBuild [(.p (.int .i64 0)), (.full [])] [(0, 1, (.p (.int .i64 4))), (1, 1, x2)] fun v53 =>
  aAlloc [(.p (.int .i64 0)), (.full [])] h7 fun v54 h55 =>
  aStore 2 v54 v53 h55 fun _ h57 =>
  aLoad true 2 v54 h57 fun v58 =>
  aCall Tryz.prog (.p (.func typ_Check_i [])) [v58] h57 fun v59 h60 =>
  aBin false false .neq v59 (.p (.int .i64 0)) fun v61 =>
  aGuard v61
  (aBuild [(.p (.int .i64 0)), (.full [])] [] fun v62 =>
  aStore 2 v6 v62 h60 fun _ h64 =>
  aLoad true 2 v6 h64 fun v65 =>
  K (.tup [v65, v59]) h64)
  (aLoad true 2 v54 h60 fun v66 =>
  aStore 2 v6 v66 h60 fun _ h68 =>
  aLoad true 2 v6 h68 fun v69 =>
  K (.tup [v69, (.p (.int .i64 0))]) h68))
  (aBin false false .eql v9 (.p (.str [105, 102])) fun v70 =>
  aGuard v70
  (aIndexAddr 2 x2 (.p (.int .i64 1)) fun v71 =>
  aLoad true 2 v71 h7 fun v72 =>
  aStore 2 v6 v72 h7 fun _ h74 =>
  aLoad true 2 v6 h74 fun v75 =>
  K (.tup [v75, (.p (.int .i64 0))]) h74)
  (aFieldAddr 4 v2 fun v76 =>
  aLoad false 1 v76 h7 fun v77 =>
  aBuild [(.p (.int .i64 0)), (.full [])] [(0, 1, v77)] fun v78 =>
  aStore 2 v6 v78 h7 fun _ h80 =>
  aLoad true 2 v6 h80 fun v81 =>
  K (.tup [v81, (.p (.int .i64 0))]) h80)))))

def expr_Expr_comes_ann : Nat → List Nat := fun _ => []

theorem expr_Expr_comes_eq (x0 x1 x2 x3 : AV) (H : List Ob) (r : AV) (Ho : List Ob) : aBody Tryz.prog expr_Expr_comes_ann Tryz.f88 H [x0, x1, x2, x3] r Ho = expr_Expr_comes x0 x1 x2 x3 H (fun v H' => Gives H.length v H' r Ho) := by kernel_rfl

theorem expr_Expr_comes_fn {x0 x1 x2 x3 : AV} {r : AV} {Ho : List Ob} (h : expr_Expr_comes x0 x1 x2 x3 [] (fun v H' => Gives 0 v H' r Ho)) : Abs.Fn Tryz.prog expr_Expr_comes_i [] [x0, x1, x2, x3] r Ho :=
  fn_intro mixed expr_Expr_comes_ann (fn := Tryz.f88) (by kernel_rfl) (by kernel_rfl) (by rw [expr_Expr_comes_eq]; exact h)

/- runnel/expr.none -/
def expr_none (x0 : AV) (H : List Ob) (K : AV → List Ob → Prop) : Prop :=
  aBox x0 H fun v0 h1 =>
  aLoad true 5 v0 h1 fun v2 =>
  aBuild [(.p (.int .i64 0)), (.p (.int .i64 0)), (.p (.bool false)), (.p (.str [])), (.full [])] [] fun v3 =>
  aCall Tryz.prog (.p (.func val_Same_i [])) [v2, v3] h1 fun v4 h5 =>
  K v4 h5

def expr_none_ann : Nat → List Nat := fun _ => []

theorem expr_none_eq (x0 : AV) (H : List Ob) (r : AV) (Ho : List Ob) : aBody Tryz.prog expr_none_ann Tryz.f120 H [x0] r Ho = expr_none x0 H (fun v H' => Gives H.length v H' r Ho) := by kernel_rfl

theorem expr_none_fn {x0 : AV} {r : AV} {Ho : List Ob} (h : expr_none x0 [] (fun v H' => Gives 0 v H' r Ho)) : Abs.Fn Tryz.prog expr_none_i [] [x0] r Ho :=
  fn_intro mixed expr_none_ann (fn := Tryz.f120) (by kernel_rfl) (by kernel_rfl) (by rw [expr_none_eq]; exact h)

end Go.Proofs.YtijnpcociedigaaGreatDoor
end

section
/- Made by program (Gen.lean): functions of the dump, over trees. -/
set_option maxRecDepth 4000
set_option linter.unusedVariables false
namespace Go.Proofs.YtijnpcociedigaaGreatDoor
open Go Go.Abs

/- runnel/op.Name -/
def op_Name_L1 (q1s0 q1s6 q1s7 y0 : AV) (H : List Ob) (B1 : List AV → List Ob → Prop) (K : AV → List Ob → Prop) : Prop :=
  aBin false false .lss y0 q1s7 fun v2 =>
  aGuard v2
  (aIndexAddr 1 q1s6 y0 fun v3 =>
  aLoad false 1 v3 H fun v4 =>
  aBin false false .geq v4 (.p (.int .u8 97)) fun v5 =>
  aMerge true v5 (fun Q6 =>
  aBin false false .leq v4 (.p (.int .u8 122)) fun v7 =>
  (H = H ∧ Q6 v7)) fun v8 =>
  aMerge false v8 (fun Q9 =>
  aBin false false .gtr y0 (.p (.int .i64 0)) fun v10 =>
  aMerge true v10 (fun Q11 =>
  aBin false false .geq v4 (.p (.int .u8 48)) fun v12 =>
  aMerge true v12 (fun Q13 =>
  aBin false false .leq v4 (.p (.int .u8 57)) fun v14 =>
  (H = H ∧ Q13 v14)) fun v15 =>
  aMerge false v15 (fun Q16 =>
  aBin false false .eql v4 (.p (.int .u8 95)) fun v17 =>
  (H = H ∧ Q16 v17)) fun v18 =>
  (H = H ∧ Q11 v18)) fun v19 =>
  (H = H ∧ Q9 v19)) fun v20 =>
  aUn .not v20 fun v21 =>
  aGuard v21
  (K (.p (.bool false)) H)
  (aBin false false .add y0 (.p (.int .i64 1)) fun v22 =>
  B1 [v22] H))
  (aBin false false .neq q1s0 (.p (.str [])) fun v23 =>
  aMerge true v23 (fun Q24 =>
  aLenS true q1s0 fun v25 =>
  aBin false false .leq v25 (.p (.int .i64 16)) fun v26 =>
  (H = H ∧ Q24 v26)) fun v27 =>
  K v27 H)

def op_Name (x0 : AV) (H : List Ob) (K : AV → List Ob → Prop) : Prop :=
  aStrBytes x0 fun v0 =>
  aLen false false v0 fun v1 =>
  aLoopN 1 [(.p (.int .i64 0))] H fun xs H B1 => op_Name_L1 x0 v0 v1 (xs.getD 0 .top) H B1 K

def op_Name_ann : Nat → List Nat := fun k => match k with | 2 => [8] | _ => []

theorem op_Name_eq (x0 : AV) (H : List Ob) (r : AV) (Ho : List Ob) : aBody Tryz.prog op_Name_ann Tryz.f65 H [x0] r Ho = op_Name x0 H (fun v H' => Gives H.length v H' r Ho) := by kernel_rfl

theorem op_Name_fn {x0 : AV} {r : AV} {Ho : List Ob} (h : op_Name x0 [] (fun v H' => Gives 0 v H' r Ho)) : Abs.Fn Tryz.prog op_Name_i [] [x0] r Ho :=
  fn_intro mixed op_Name_ann (fn := Tryz.f65) (by kernel_rfl) (by kernel_rfl) (by rw [op_Name_eq]; exact h)

/- runnel/op.Out -/
def op_Out_J2 (j2s1 j2s2 j2s4 j2s8 j2s10 : AV) (H : List Ob) (K : AV → List Ob → Prop) : Prop :=
  aLoad true 15 j2s2 H fun v61 =>
  aCall Tryz.prog (.p (.func op_Op_fits_i [])) [v61, j2s10, j2s1] H fun v62 h63 =>
  aUn .not v62 fun v64 =>
  aGuard v64
  (aBuild [(.p (.int .i64 0)), (.full [])] [] fun v65 =>
  aStore 2 j2s4 v65 h63 fun _ h67 =>
  aLoad true 2 j2s4 h67 fun v68 =>
  K (.tup [v68, (.p (.int .i64 5))]) h67)
  (aLoad true 15 j2s2 h63 fun v69 =>
  aLoad true 2 j2s8 h63 fun v70 =>
  aCall Tryz.prog (.p (.func op_Op_goes_i [])) [v69, v70, j2s10, j2s1] h63 fun v71 h72 =>
  aAlloc [(.p (.int .i64 0)), (.full [])] h72 fun v73 h74 =>
  aStore 2 v73 v71 h74 fun _ h76 =>
  aLoad true 2 v73 h76 fun v77 =>
  aCall Tryz.prog (.p (.func typ_Check_i [])) [v77] h76 fun v78 h79 =>
  aBin false false .neq v78 (.p (.int .i64 0)) fun v80 =>
  aGuard v80
  (aBuild [(.p (.int .i64 0)), (.full [])] [] fun v81 =>
  aStore 2 j2s4 v81 h79 fun _ h83 =>
  aLoad true 2 j2s4 h83 fun v84 =>
  K (.tup [v84, v78]) h83)
  (aLoad true 2 v73 h79 fun v85 =>
  aStore 2 j2s4 v85 h79 fun _ h87 =>
  aLoad true 2 j2s4 h87 fun v88 =>
  K (.tup [v88, (.p (.int .i64 0))]) h87))

def op_Out_J1 (j1s1 j1s2 j1s4 j1s8 : AV) (H : List Ob) (K : AV → List Ob → Prop) : Prop :=
  aFieldAddr 4 j1s2 fun v89 =>
  aLoad false 1 v89 H fun v90 =>
  aLen false false v90 fun v91 =>
  aBin false false .gtr v91 (.p (.int .i64 0)) fun v92 =>
  aGuard v92
  (aLoad true 15 j1s2 H fun v93 =>
  aIndexAddr 2 j1s1 (.p (.int .i64 0)) fun v94 =>
  aLoad true 2 v94 H fun v95 =>
  aCallT Tryz.prog (.p (.func op_Op_es_i [])) [v93, v95] fun v96 =>
  aExtract v96 0 fun v97 =>
  aExtract v96 1 fun v98 =>
  aBin false false .neq v98 (.p (.int .i64 0)) fun v99 =>
  aGuard v99
  (aBuild [(.p (.int .i64 0)), (.full [])] [] fun v100 =>
  aStore 2 j1s4 v100 H fun _ h102 =>
  aLoad true 2 j1s4 h102 fun v103 =>
  K (.tup [v103, v98]) h102)
  (op_Out_J2 j1s1 j1s2 j1s4 j1s8 v97 H K))
  (op_Out_J2 j1s1 j1s2 j1s4 j1s8 (.full []) H K)

def op_Out (x0 x1 : AV) (H : List Ob) (K : AV → List Ob → Prop) : Prop :=
  aBox x0 H fun v0 h1 =>
  aAlloc [(.p (.int .i64 0)), (.full [])] h1 fun v2 h3 =>
  aAlloc [(.p (.bool false)), (.p (.bool false)), (.p (.bool false)), (.p (.int .i64 0)), (.p (.int .i64 0)), (.p (.int .i64 0)), (.p (.int .i64 0)), (.p (.int .i64 0)), (.p (.int .i64 0)), (.p (.int .i64 0)), (.p (.int .i64 0))] h3 fun v4 h5 =>
  aCallT Tryz.prog (.p (.func op_shapes_i [])) [] fun v6 =>
  aFieldAddr 0 v0 fun v7 =>
  aLoad false 1 v7 h5 fun v8 =>
  aCallT Tryz.prog (.p (.func op_of_op_shape_i [])) [v6, v8] fun v9 =>
  aExtract v9 0 fun v10 =>
  aExtract v9 1 fun v11 =>
  aStore 11 v4 v10 h5 fun _ h13 =>
  aUn .not v11 fun v14 =>
  aMerge false v14 (fun Q15 =>
  aFieldAddr 0 v4 fun v16 =>
  aLoad false 1 v16 h13 fun v17 =>
  aMerge true v17 (fun Q18 =>
  aFieldAddr 1 v0 fun v19 =>
  aLoad false 1 v19 h13 fun v20 =>
  aCall Tryz.prog (.p (.func op_Name_i [])) [v20] h13 fun v21 h22 =>
  aUn .not v21 fun v23 =>
  (h22 = h13 ∧ Q18 v23)) fun v24 =>
  (h13 = h13 ∧ Q15 v24)) fun v25 =>
  aGuard v25
  (aBuild [(.p (.int .i64 0)), (.full [])] [] fun v26 =>
  aStore 2 v2 v26 h13 fun _ h28 =>
  aLoad true 2 v2 h28 fun v29 =>
  K (.tup [v29, (.p (.int .i64 6))]) h28)
  (aLoad true 15 v0 h13 fun v30 =>
  aLoad true 11 v4 h13 fun v31 =>
  aLen false false x1 fun v32 =>
  aCall Tryz.prog (.p (.func op_Op_fields_i [])) [v30, v31, v32] h13 fun v33 h34 =>
  aUn .not v33 fun v35 =>
  aGuard v35
  (aBuild [(.p (.int .i64 0)), (.full [])] [] fun v36 =>
  aStore 2 v2 v36 h34 fun _ h38 =>
  aLoad true 2 v2 h38 fun v39 =>
  K (.tup [v39, (.p (.int .i64 1))]) h38)
  (aCall Tryz.prog (.p (.func op_types_i [])) [x1] h34 fun v40 h41 =>
  aUn .not v40 fun v42 =>
  aMerge false v42 (fun Q43 =>
  aFieldAddr 1 v4 fun v44 =>
  aLoad false 1 v44 h41 fun v45 =>
  aMerge true v45 (fun Q46 =>
  aFieldAddr 2 v0 fun v47 =>
  aLoad true 2 v47 h41 fun v48 =>
  aBuildSlice 2 [v48] fun v49 =>
  aCall Tryz.prog (.p (.func op_types_i [])) [v49] h41 fun v50 h51 =>
  aUn .not v50 fun v52 =>
  (h51 = h41 ∧ Q46 v52)) fun v53 =>
  (h41 = h41 ∧ Q43 v53)) fun v54 =>
  aGuard v54
  (aBuild [(.p (.int .i64 0)), (.full [])] [] fun v55 =>
  aStore 2 v2 v55 h41 fun _ h57 =>
  aLoad true 2 v2 h57 fun v58 =>
  K (.tup [v58, (.p (.int .i64 5))]) h57)
  (aAlloc [(.p (.int .i64 0)), (.full [])] h41 fun v59 h60 =>
  aFieldAddr 2 v4 fun v104 =>
  aLoad false 1 v104 h60 fun v105 =>
  aGuard v105
  (aFieldAddr 5 v0 fun v106 =>
  aLoad true 8 v106 h60 fun v107 =>
  aIndexAddr 2 x1 (.p (.int .i64 0)) fun v108 =>
  aLoad true 2 v108 h60 fun v109 =>
  aCallT Tryz.prog (.p (.func expr_Check_i [])) [v107, v109] fun v110 =>
  aExtract v110 0 fun v111 =>
  aExtract v110 1 fun v112 =>
  aStore 2 v59 v111 h60 fun _ h114 =>
  aBin false false .neq v112 (.p (.int .i64 0)) fun v115 =>
  aGuard v115
  (aBuild [(.p (.int .i64 0)), (.full [])] [] fun v116 =>
  aStore 2 v2 v116 h114 fun _ h118 =>
  aLoad true 2 v2 h118 fun v119 =>
  K (.tup [v119, v112]) h118)
  (op_Out_J1 x1 v0 v2 v59 h114 K))
  (op_Out_J1 x1 v0 v2 v59 h60 K))))

def op_Out_ann : Nat → List Nat := fun k => match k with | 1000003 => [1] | 1000008 => [1] | _ => []

theorem op_Out_eq (x0 x1 : AV) (H : List Ob) (r : AV) (Ho : List Ob) : aBody Tryz.prog op_Out_ann Tryz.f68 H [x0, x1] r Ho = op_Out x0 x1 H (fun v H' => Gives H.length v H' r Ho) := by kernel_rfl

theorem op_Out_fn {x0 x1 : AV} {r : AV} {Ho : List Ob} (h : op_Out x0 x1 [] (fun v H' => Gives 0 v H' r Ho)) : Abs.Fn Tryz.prog op_Out_i [] [x0, x1] r Ho :=
  fn_intro mixed op_Out_ann (fn := Tryz.f68) (by kernel_rfl) (by kernel_rfl) (by rw [op_Out_eq]; exact h)

/- runnel/op.of[runnel/op.shape] -/
def op_of_op_shape_L1 (q1s1 q1s4 q1s9 q1s10 y0 : AV) (H : List Ob) (B1 : List AV → List Ob → Prop) (K : AV → List Ob → Prop) : Prop :=
  aBin false false .lss y0 q1s10 fun v3 =>
  aGuard v3
  (aIndexAddr 12 q1s9 y0 fun v4 =>
  aLoad true 12 v4 H fun v5 =>
  aAlloc [(.p (.int .i64 0)), (.p (.bool false)), (.p (.bool false)), (.p (.bool false)), (.p (.int .i64 0)), (.p (.int .i64 0)), (.p (.int .i64 0)), (.p (.int .i64 0)), (.p (.int .i64 0)), (.p (.int .i64 0)), (.p (.int .i64 0)), (.p (.int .i64 0))] H fun v6 h7 =>
  aStore 12 v6 v5 h7 fun _ h9 =>
  aFieldAddr 0 v6 fun v10 =>
  aLoad false 1 v10 h9 fun v11 =>
  aBin false false .eql v11 q1s1 fun v12 =>
  aGuard v12
  (aFieldAddr 1 v6 fun v13 =>
  aLoad true 11 v13 h9 fun v14 =>
  aStore 11 q1s4 v14 h9 fun _ h16 =>
  aLoad true 11 q1s4 h16 fun v17 =>
  K (.tup [v17, (.p (.bool true))]) h16)
  (aBin false false .add y0 (.p (.int .i64 1)) fun v18 =>
  B1 [v18] h9))
  (aAlloc [(.p (.bool false)), (.p (.bool false)), (.p (.bool false)), (.p (.int .i64 0)), (.p (.int .i64 0)), (.p (.int .i64 0)), (.p (.int .i64 0)), (.p (.int .i64 0)), (.p (.int .i64 0)), (.p (.int .i64 0)), (.p (.int .i64 0))] H fun v19 h20 =>
  aLoad true 11 v19 h20 fun v21 =>
  aStore 11 q1s4 v21 h20 fun _ h23 =>
  aLoad true 11 q1s4 h23 fun v24 =>
  K (.tup [v24, (.p (.bool false))]) h23)

def op_of_op_shape (x0 x1 : AV) (H : List Ob) (K : AV → List Ob → Prop) : Prop :=
  aAlloc [(.p (.bool false)), (.p (.bool false)), (.p (.bool false)), (.p (.int .i64 0)), (.p (.int .i64 0)), (.p (.int .i64 0)), (.p (.int .i64 0)), (.p (.int .i64 0)), (.p (.int .i64 0)), (.p (.int .i64 0)), (.p (.int .i64 0))] H fun v0 h1 =>
  aLen false false x0 fun v2 =>
  aLoopN 1 [(.p (.int .i64 0))] h1 fun xs H B1 => op_of_op_shape_L1 x1 v0 x0 v2 (xs.getD 0 .top) H B1 K

def op_of_op_shape_ann : Nat → List Nat := fun k => match k with | 2 => [11] | _ => []

theorem op_of_op_shape_eq (x0 x1 : AV) (H : List Ob) (r : AV) (Ho : List Ob) : aBody Tryz.prog op_of_op_shape_ann Tryz.f99 H [x0, x1] r Ho = op_of_op_shape x0 x1 H (fun v H' => Gives H.length v H' r Ho) := by kernel_rfl

theorem op_of_op_shape_fn {x0 x1 : AV} {r : AV} {Ho : List Ob} (h : op_of_op_shape x0 x1 [] (fun v H' => Gives 0 v H' r Ho)) : Abs.Fn Tryz.prog op_of_op_shape_i [] [x0, x1] r Ho :=
  fn_intro mixed op_of_op_shape_ann (fn := Tryz.f99) (by kernel_rfl) (by kernel_rfl) (by rw [op_of_op_shape_eq]; exact h)

/- runnel/op.shapes -/
def op_shapes (H : List Ob) (K : AV → List Ob → Prop) : Prop :=
  aBuild [(.p (.int .i64 0)), (.p (.int .i64 0))] [(0, 1, (.p (.int .i64 1))), (1, 1, (.p (.int .i64 1)))] fun v0 =>
  aAlloc [(.p (.int .i64 0)), (.p (.int .i64 0))] H fun v1 h2 =>
  aStore 2 v1 v0 h2 fun _ h4 =>
  aBuild [(.p (.bool false)), (.p (.bool false)), (.p (.bool false)), (.p (.int .i64 0)), (.p (.int .i64 0)), (.p (.int .i64 0)), (.p (.int .i64 0)), (.p (.int .i64 0)), (.p (.int .i64 0)), (.p (.int .i64 0)), (.p (.int .i64 0))] [(0, 1, (.p (.bool true))), (1, 1, (.p (.bool true)))] fun v5 =>
  aBuild [(.p (.int .i64 0)), (.p (.bool false)), (.p (.bool false)), (.p (.bool false)), (.p (.int .i64 0)), (.p (.int .i64 0)), (.p (.int .i64 0)), (.p (.int .i64 0)), (.p (.int .i64 0)), (.p (.int .i64 0)), (.p (.int .i64 0)), (.p (.int .i64 0))] [(0, 1, (.p (.int .i64 1))), (1, 11, v5)] fun v6 =>
  aLoad true 2 v1 h4 fun v7 =>
  aLoad true 2 v1 h4 fun v8 =>
  aBuild [(.p (.bool false)), (.p (.bool false)), (.p (.bool false)), (.p (.int .i64 0)), (.p (.int .i64 0)), (.p (.int .i64 0)), (.p (.int .i64 0)), (.p (.int .i64 0)), (.p (.int .i64 0)), (.p (.int .i64 0)), (.p (.int .i64 0))] [(3, 2, v7), (5, 2, v8)] fun v9 =>
  aBuild [(.p (.int .i64 0)), (.p (.bool false)), (.p (.bool false)), (.p (.bool false)), (.p (.int .i64 0)), (.p (.int .i64 0)), (.p (.int .i64 0)), (.p (.int .i64 0)), (.p (.int .i64 0)), (.p (.int .i64 0)), (.p (.int .i64 0)), (.p (.int .i64 0))] [(0, 1, (.p (.int .i64 2))), (1, 11, v9)] fun v10 =>
  aLoad true 2 v1 h4 fun v11 =>
  aLoad true 2 v1 h4 fun v12 =>
  aBuild [(.p (.bool false)), (.p (.bool false)), (.p (.bool false)), (.p (.int .i64 0)), (.p (.int .i64 0)), (.p (.int .i64 0)), (.p (.int .i64 0)), (.p (.int .i64 0)), (.p (.int .i64 0)), (.p (.int .i64 0)), (.p (.int .i64 0))] [(3, 2, v11), (5, 2, v12)] fun v13 =>
  aBuild [(.p (.int .i64 0)), (.p (.bool false)), (.p (.bool false)), (.p (.bool false)), (.p (.int .i64 0)), (.p (.int .i64 0)), (.p (.int .i64 0)), (.p (.int .i64 0)), (.p (.int .i64 0)), (.p (.int .i64 0)), (.p (.int .i64 0)), (.p (.int .i64 0))] [(0, 1, (.p (.int .i64 3))), (1, 11, v13)] fun v14 =>
  aBuild [(.p (.int .i64 0)), (.p (.int .i64 0))] [(0, 1, (.p (.int .i64 1))), (1, 1, (.p (.int .i64 4)))] fun v15 =>
  aLoad true 2 v1 h4 fun v16 =>
  aBuild [(.p (.bool false)), (.p (.bool false)), (.p (.bool false)), (.p (.int .i64 0)), (.p (.int .i64 0)), (.p (.int .i64 0)), (.p (.int .i64 0)), (.p (.int .i64 0)), (.p (.int .i64 0)), (.p (.int .i64 0)), (.p (.int .i64 0))] [(3, 2, v15), (5, 2, v16)] fun v17 =>
  aBuild [(.p (.int .i64 0)), (.p (.bool false)), (.p (.bool false)), (.p (.bool false)), (.p (.int .i64 0)), (.p (.int .i64 0)), (.p (.int .i64 0)), (.p (.int .i64 0)), (.p (.int .i64 0)), (.p (.int .i64 0)), (.p (.int .i64 0)), (.p (.int .i64 0))] [(0, 1, (.p (.int .i64 4))), (1, 11, v17)] fun v18 =>
  aLoad true 2 v1 h4 fun v19 =>
  aLoad true 2 v1 h4 fun v20 =>
  aBuild [(.p (.int .i64 0)), (.p (.int .i64 0))] [(0, 1, (.p (.int .i64 1))), (1, 1, (.p (.int .i64 4)))] fun v21 =>
  aBuild [(.p (.bool false)), (.p (.bool false)), (.p (.bool false)), (.p (.int .i64 0)), (.p (.int .i64 0)), (.p (.int .i64 0)), (.p (.int .i64 0)), (.p (.int .i64 0)), (.p (.int .i64 0)), (.p (.int .i64 0)), (.p (.int .i64 0))] [(2, 1, (.p (.bool true))), (3, 2, v19), (5, 2, v20), (7, 2, v21)] fun v22 =>
  aBuild [(.p (.int .i64 0)), (.p (.bool false)), (.p (.bool false)), (.p (.bool false)), (.p (.int .i64 0)), (.p (.int .i64 0)), (.p (.int .i64 0)), (.p (.int .i64 0)), (.p (.int .i64 0)), (.p (.int .i64 0)), (.p (.int .i64 0)), (.p (.int .i64 0))] [(0, 1, (.p (.int .i64 5))), (1, 11, v22)] fun v23 =>
  aLoad true 2 v1 h4 fun v24 =>
  aBuild [(.p (.int .i64 0)), (.p (.int .i64 0))] [(0, 1, (.p (.int .i64 1))), (1, 1, (.p (.int .i64 1000)))] fun v25 =>
  aBuild [(.p (.bool false)), (.p (.bool false)), (.p (.bool false)), (.p (.int .i64 0)), (.p (.int .i64 0)), (.p (.int .i64 0)), (.p (.int .i64 0)), (.p (.int .i64 0)), (.p (.int .i64 0)), (.p (.int .i64 0)), (.p (.int .i64 0))] [(2, 1, (.p (.bool true))), (5, 2, v24), (9, 2, v25)] fun v26 =>
  aBuild [(.p (.int .i64 0)), (.p (.bool false)), (.p (.bool false)), (.p (.bool false)), (.p (.int .i64 0)), (.p (.int .i64 0)), (.p (.int .i64 0)), (.p (.int .i64 0)), (.p (.int .i64 0)), (.p (.int .i64 0)), (.p (.int .i64 0)), (.p (.int .i64 0))] [(0, 1, (.p (.int .i64 6))), (1, 11, v26)] fun v27 =>
  aLoad true 2 v1 h4 fun v28 =>
  aBuild [(.p (.bool false)), (.p (.bool false)), (.p (.bool false)), (.p (.int .i64 0)), (.p (.int .i64 0)), (.p (.int .i64 0)), (.p (.int .i64 0)), (.p (.int .i64 0)), (.p (.int .i64 0)), (.p (.int .i64 0)), (.p (.int .i64 0))] [(2, 1, (.p (.bool true))), (5, 2, v28)] fun v29 =>
  aBuild [(.p (.int .i64 0)), (.p (.bool false)), (.p (.bool false)), (.p (.bool false)), (.p (.int .i64 0)), (.p (.int .i64 0)), (.p (.int .i64 0)), (.p (.int .i64 0)), (.p (.int .i64 0)), (.p (.int .i64 0)), (.p (.int .i64 0)), (.p (.int .i64 0))] [(0, 1, (.p (.int .i64 7))), (1, 11, v29)] fun v30 =>
  aBuild [(.p (.int .i64 0)), (.p (.int .i64 0))] [(0, 1, (.p (.int .i64 2))), (1, 1, (.p (.int .i64 4)))] fun v31 =>
  aBuild [(.p (.bool false)), (.p (.bool false)), (.p (.bool false)), (.p (.int .i64 0)), (.p (.int .i64 0)), (.p (.int .i64 0)), (.p (.int .i64 0)), (.p (.int .i64 0)), (.p (.int .i64 0)), (.p (.int .i64 0)), (.p (.int .i64 0))] [(5, 2, v31)] fun v32 =>
  aBuild [(.p (.int .i64 0)), (.p (.bool false)), (.p (.bool false)), (.p (.bool false)), (.p (.int .i64 0)), (.p (.int .i64 0)), (.p (.int .i64 0)), (.p (.int .i64 0)), (.p (.int .i64 0)), (.p (.int .i64 0)), (.p (.int .i64 0)), (.p (.int .i64 0))] [(0, 1, (.p (.int .i64 8))), (1, 11, v32)] fun v33 =>
  aLoad true 2 v1 h4 fun v34 =>
  aBuild [(.p (.bool false)), (.p (.bool false)), (.p (.bool false)), (.p (.int .i64 0)), (.p (.int .i64 0)), (.p (.int .i64 0)), (.p (.int .i64 0)), (.p (.int .i64 0)), (.p (.int .i64 0)), (.p (.int .i64 0)), (.p (.int .i64 0))] [(0, 1, (.p (.bool true))), (5, 2, v34)] fun v35 =>
  aBuild [(.p (.int .i64 0)), (.p (.bool false)), (.p (.bool false)), (.p (.bool false)), (.p (.int .i64 0)), (.p (.int .i64 0)), (.p (.int .i64 0)), (.p (.int .i64 0)), (.p (.int .i64 0)), (.p (.int .i64 0)), (.p (.int .i64 0)), (.p (.int .i64 0))] [(0, 1, (.p (.int .i64 9))), (1, 11, v35)] fun v36 =>
  aBuildSlice 12 [v6, v10, v14, v18, v23, v27, v30, v33, v36] fun v37 =>
  K v37 h4

def op_shapes_ann : Nat → List Nat := fun _ => []

theorem op_shapes_eq (H : List Ob) (r : AV) (Ho : List Ob) : aBody Tryz.prog op_shapes_ann Tryz.f100 H [] r Ho = op_shapes H (fun v H' => Gives H.length v H' r Ho) := by kernel_rfl

theorem op_shapes_fn {r : AV} {Ho : List Ob} (h : op_shapes [] (fun v H' => Gives 0 v H' r Ho)) : Abs.Fn Tryz.prog op_shapes_i [] [] r Ho :=
  fn_intro mixed op_shapes_ann (fn := Tryz.f100) (by kernel_rfl) (by kernel_rfl) (by rw [op_shapes_eq]; exact h)

/- (runnel/op.Op).fields -/
def op_Op_fields (x0 x1 x2 : AV) (H : List Ob) (K : AV → List Ob → Prop) : Prop :=
  aBox x0 H fun v0 h1 =>
  aBox x1 h1 fun v2 h3 =>
  aFieldAddr 0 v2 fun v4 =>
  aLoad false 1 v4 h3 fun v5 =>
  aMerge false v5 (fun Q6 =>
  aFieldAddr 1 v0 fun v7 =>
  aLoad false 1 v7 h3 fun v8 =>
  aBin false false .eql v8 (.p (.str [])) fun v9 =>
  (h3 = h3 ∧ Q6 v9)) fun v10 =>
  aMerge true v10 (fun Q11 =>
  aFieldAddr 1 v2 fun v12 =>
  aLoad false 1 v12 h3 fun v13 =>
  aMerge false v13 (fun Q14 =>
  aFieldAddr 2 v0 fun v15 =>
  aFieldAddr 0 v15 fun v16 =>
  aLoad false 1 v16 h3 fun v17 =>
  aBin false false .eql v17 (.p (.int .i64 0)) fun v18 =>
  aMerge true v18 (fun Q19 =>
  aFieldAddr 2 v0 fun v20 =>
  aFieldAddr 1 v20 fun v21 =>
  aLoad false 1 v21 h3 fun v22 =>
  aLenS false v22 fun v23 =>
  aBin false false .eql v23 (.p (.int .i64 0)) fun v24 =>
  (h3 = h3 ∧ Q19 v24)) fun v25 =>
  (h3 = h3 ∧ Q14 v25)) fun v26 =>
  (h3 = h3 ∧ Q11 v26)) fun v27 =>
  aMerge true v27 (fun Q28 =>
  aFieldAddr 2 v2 fun v29 =>
  aLoad false 1 v29 h3 fun v30 =>
  aMerge false v30 (fun Q31 =>
  aFieldAddr 5 v0 fun v32 =>
  aLoad true 8 v32 h3 fun v33 =>
  aCall Tryz.prog (.p (.func op_nothing_i [])) [v33] h3 fun v34 h35 =>
  (h35 = h3 ∧ Q31 v34)) fun v36 =>
  (h3 = h3 ∧ Q28 v36)) fun v37 =>
  aMerge true v37 (fun Q38 =>
  aFieldAddr 3 v2 fun v39 =>
  aLoad true 2 v39 h3 fun v40 =>
  aFieldAddr 4 v0 fun v41 =>
  aLoad false 1 v41 h3 fun v42 =>
  aLenS false v42 fun v43 =>
  aCall Tryz.prog (.p (.func op_span_in_i [])) [v40, v43] h3 fun v44 h45 =>
  (h45 = h3 ∧ Q38 v44)) fun v46 =>
  aMerge true v46 (fun Q47 =>
  aFieldAddr 7 v2 fun v48 =>
  aLoad true 2 v48 h3 fun v49 =>
  aFieldAddr 13 v0 fun v50 =>
  aLoad false 1 v50 h3 fun v51 =>
  aCall Tryz.prog (.p (.func op_span_in_i [])) [v49, v51] h3 fun v52 h53 =>
  (h53 = h3 ∧ Q47 v52)) fun v54 =>
  aMerge true v54 (fun Q55 =>
  aFieldAddr 9 v2 fun v56 =>
  aLoad true 2 v56 h3 fun v57 =>
  aFieldAddr 14 v0 fun v58 =>
  aLoad false 1 v58 h3 fun v59 =>
  aCall Tryz.prog (.p (.func op_span_in_i [])) [v57, v59] h3 fun v60 h61 =>
  (h61 = h3 ∧ Q55 v60)) fun v62 =>
  aMerge true v62 (fun Q63 =>
  aFieldAddr 5 v2 fun v64 =>
  aLoad true 2 v64 h3 fun v65 =>
  aCall Tryz.prog (.p (.func op_span_in_i [])) [v65, x2] h3 fun v66 h67 =>
  (h67 = h3 ∧ Q63 v66)) fun v68 =>
  K v68 h3

def op_Op_fields_ann : Nat → List Nat := fun _ => []

theorem op_Op_fields_eq (x0 x1 x2 : AV) (H : List Ob) (r : AV) (Ho : List Ob) : aBody Tryz.prog op_Op_fields_ann Tryz.f101 H [x0, x1, x2] r Ho = op_Op_fields x0 x1 x2 H (fun v H' => Gives H.length v H' r Ho) := by kernel_rfl

theorem op_Op_fields_fn {x0 x1 x2 : AV} {r : AV} {Ho : List Ob} (h : op_Op_fields x0 x1 x2 [] (fun v H' => Gives 0 v H' r Ho)) : Abs.Fn Tryz.prog op_Op_fields_i [] [x0, x1, x2] r Ho :=
  fn_intro mixed op_Op_fields_ann (fn := Tryz.f101) (by kernel_rfl) (by kernel_rfl) (by rw [op_Op_fields_eq]; exact h)

/- runnel/op.types -/
def op_types_L1 (q1s5 q1s6 y0 : AV) (H : List Ob) (B1 : List AV → List Ob → Prop) (K : AV → List Ob → Prop) : Prop :=
  aBin false false .lss y0 q1s6 fun v1 =>
  aGuard v1
  (aIndexAddr 2 q1s5 y0 fun v2 =>
  aLoad true 2 v2 H fun v3 =>
  aAlloc [(.p (.int .i64 0)), (.full [])] H fun v4 h5 =>
  aStore 2 v4 v3 h5 fun _ h7 =>
  aLoad true 2 v4 h7 fun v8 =>
  aCall Tryz.prog (.p (.func typ_Check_i [])) [v8] h7 fun v9 h10 =>
  aBin false false .neq v9 (.p (.int .i64 0)) fun v11 =>
  aGuard v11
  (K (.p (.bool false)) h10)
  (aBin false false .add y0 (.p (.int .i64 1)) fun v12 =>
  B1 [v12] h10))
  (K (.p (.bool true)) H)

def op_types (x0 : AV) (H : List Ob) (K : AV → List Ob → Prop) : Prop :=
  aLen false false x0 fun v0 =>
  aLoopN 1 [(.p (.int .i64 0))] H fun xs H B1 => op_types_L1 x0 v0 (xs.getD 0 .top) H B1 K

def op_types_ann : Nat → List Nat := fun k => match k with | 2 => [7] | _ => []

theorem op_types_eq (x0 : AV) (H : List Ob) (r : AV) (Ho : List Ob) : aBody Tryz.prog op_types_ann Tryz.f102 H [x0] r Ho = op_types x0 H (fun v H' => Gives H.length v H' r Ho) := by kernel_rfl

theorem op_types_fn {x0 : AV} {r : AV} {Ho : List Ob} (h : op_types x0 [] (fun v H' => Gives 0 v H' r Ho)) : Abs.Fn Tryz.prog op_types_i [] [x0] r Ho :=
  fn_intro mixed op_types_ann (fn := Tryz.f102) (by kernel_rfl) (by kernel_rfl) (by rw [op_types_eq]; exact h)

/- (runnel/op.Op).es -/
def op_Op_es_L1 (q1s3 q1s12 q1s13 y0 y1 : AV) (H : List Ob) (B1 : List AV → List Ob → Prop) (K : AV → List Ob → Prop) : Prop :=
  aBin false false .lss y1 q1s13 fun v7 =>
  aGuard v7
  (aIndexAddr 8 q1s12 y1 fun v8 =>
  aLoad true 8 v8 H fun v9 =>
  aAlloc [(.p (.str [])), (.p (.int .i64 0)), (.p (.int .i64 0)), (.p (.bool false)), (.p (.str [])), (.full []), (.p (.int .i64 0)), (.full [])] H fun v10 h11 =>
  aStore 8 v10 v9 h11 fun _ h13 =>
  aLoad true 8 v10 h13 fun v14 =>
  aLoad true 2 q1s3 h13 fun v15 =>
  aCall Tryz.prog (.p (.func expr_Check_i [])) [v14, v15] h13 fun v16 h17 =>
  aExtract v16 0 fun v18 =>
  aExtract v16 1 fun v19 =>
  aAlloc [(.p (.int .i64 0)), (.full [])] h17 fun v20 h21 =>
  aStore 2 v20 v18 h21 fun _ h23 =>
  aBin false false .neq v19 (.p (.int .i64 0)) fun v24 =>
  aGuard v24
  (K (.tup [(.full []), v19]) h23)
  (aLoad true 2 v20 h23 fun v25 =>
  aBuildSlice 2 [v25] fun v26 =>
  aAppend false 2 32 y0 v26 h23 fun v27 h28 =>
  aBin false false .add y1 (.p (.int .i64 1)) fun v29 =>
  B1 [v27, v29] h28))
  (K (.tup [y0, (.p (.int .i64 0))]) H)

def op_Op_es (x0 x1 : AV) (H : List Ob) (K : AV → List Ob → Prop) : Prop :=
  aBox x0 H fun v0 h1 =>
  aBox x1 h1 fun v2 h3 =>
  aFieldAddr 4 v0 fun v4 =>
  aLoad false 1 v4 h3 fun v5 =>
  aLen false false v5 fun v6 =>
  aLoopN 2 [(.full []), (.p (.int .i64 0))] h3 fun xs H B1 => op_Op_es_L1 v2 v5 v6 (xs.getD 0 .top) (xs.getD 1 .top) H B1 K

def op_Op_es_ann : Nat → List Nat := fun k => match k with | 3 => [6, 14] | _ => []

theorem op_Op_es_eq (x0 x1 : AV) (H : List Ob) (r : AV) (Ho : List Ob) : aBody Tryz.prog op_Op_es_ann Tryz.f103 H [x0, x1] r Ho = op_Op_es x0 x1 H (fun v H' => Gives H.length v H' r Ho) := by kernel_rfl

theorem op_Op_es_fn {x0 x1 : AV} {r : AV} {Ho : List Ob} (h : op_Op_es x0 x1 [] (fun v H' => Gives 0 v H' r Ho)) : Abs.Fn Tryz.prog op_Op_es_i [] [x0, x1] r Ho :=
  fn_intro mixed op_Op_es_ann (fn := Tryz.f103) (by kernel_rfl) (by kernel_rfl) (by rw [op_Op_es_eq]; exact h)

/- (runnel/op.Op).fits -/
def op_Op_fits (x0 x1 x2 : AV) (H : List Ob) (K : AV → List Ob → Prop) : Prop :=
  aBox x0 H fun v0 h1 =>
  aFieldAddr 0 v0 fun v2 =>
  aLoad false 1 v2 h1 fun v3 =>
  aBin false false .eql v3 (.p (.int .i64 3)) fun v4 =>
  aGuard v4
  (aIndexAddr 2 x1 (.p (.int .i64 0)) fun v5 =>
  aFieldAddr 0 v5 fun v6 =>
  aLoad false 1 v6 h1 fun v7 =>
  aBin false false .eql v7 (.p (.int .i64 2)) fun v8 =>
  K v8 h1)
  (aBin false false .eql v3 (.p (.int .i64 4)) fun v9 =>
  aGuard v9
  (aCall Tryz.prog (.p (.func op_alike_i [])) [x1] h1 fun v10 h11 =>
  K v10 h11)
  (aBin false false .eql v3 (.p (.int .i64 5)) fun v12 =>
  aGuard v12
  (aIndexAddr 2 x1 (.p (.int .i64 0)) fun v13 =>
  aFieldAddr 0 v13 fun v14 =>
  aLoad false 1 v14 h1 fun v15 =>
  aBin false false .eql v15 (.p (.int .i64 1)) fun v16 =>
  K v16 h1)
  (aBin false false .eql v3 (.p (.int .i64 8)) fun v17 =>
  aGuard v17
  (aCall Tryz.prog (.p (.func op_alike_i [])) [x2] h1 fun v18 h19 =>
  K v18 h19)
  (K (.p (.bool true)) h1))))

def op_Op_fits_ann : Nat → List Nat := fun _ => []

theorem op_Op_fits_eq (x0 x1 x2 : AV) (H : List Ob) (r : AV) (Ho : List Ob) : aBody Tryz.prog op_Op_fits_ann Tryz.f104 H [x0, x1, x2] r Ho = op_Op_fits x0 x1 x2 H (fun v H' => Gives H.length v H' r Ho) := by kernel_rfl

theorem op_Op_fits_fn {x0 x1 x2 : AV} {r : AV} {Ho : List Ob} (h : op_Op_fits x0 x1 x2 [] (fun v H' => Gives 0 v H' r Ho)) : Abs.Fn Tryz.prog op_Op_fits_i [] [x0, x1, x2] r Ho :=
  fn_intro mixed op_Op_fits_ann (fn := Tryz.f104) (by kernel_rfl) (by kernel_rfl) (by rw [op_Op_fits_eq]; exact h)

/- (runnel/op.Op).goes -/
def op_Op_goes (x0 x1 x2 x3 : AV) (H : List Ob) (K : AV → List Ob → Prop) : Prop :=
  aBox x0 H fun v0 h1 =>
  aBox x1 h1 fun v2 h3 =>
  aAlloc [(.p (.int .i64 0)), (.full [])] h3 fun v4 h5 =>
  aFieldAddr 0 v0 fun v6 =>
  aLoad false 1 v6 h5 fun v7 =>
  aBin false false .eql v7 (.p (.int .i64 1)) fun v8 =>
  aGuard v8
  (aFieldAddr 2 v0 fun v9 =>
  aLoad true 2 v9 h5 fun v10 =>
  aStore 2 v4 v10 h5 fun _ h12 =>
  aLoad true 2 v4 h12 fun v13 =>
  K v13 h12)
  (aBin false false .eql v7 (.p (.int .i64 2)) fun v14 =>
  aMerge false v14 (fun Q15 =>
  aBin false false .eql v7 (.p (.int .i64 4)) fun v16 =>
  (h5 = h5 ∧ Q15 v16)) fun v17 =>
  aGuard v17
  (aIndexAddr 2 x2 (.p (.int .i64 0)) fun v18 =>
  aLoad true 2 v18 h5 fun v19 =>
  aStore 2 v4 v19 h5 fun _ h21 =>
  aLoad true 2 v4 h21 fun v22 =>
  K v22 h21)
  (aBin false false .eql v7 (.p (.int .i64 5)) fun v23 =>
  aMerge false v23 (fun Q24 =>
  aBin false false .eql v7 (.p (.int .i64 6)) fun v25 =>
  (h5 = h5 ∧ Q24 v25)) fun v26 =>
  aGuard v26
  (aLoad true 2 v2 h5 fun v27 =>
  aBuild [(.p (.int .i64 0)), (.full [])] [(0, 1, (.p (.int .i64 1)))] fun v28 =>
  aBuildSlice 2 [v27, v28] fun v29 =>
  aBuild [(.p (.int .i64 0)), (.full [])] [(0, 1, (.p (.int .i64 4))), (1, 1, v29)] fun v30 =>
  aStore 2 v4 v30 h5 fun _ h32 =>
  aLoad true 2 v4 h32 fun v33 =>
  K v33 h32)
  (aBin false false .eql v7 (.p (.int .i64 7)) fun v34 =>
  aGuard v34
  (aLoad true 2 v2 h5 fun v35 =>
  aStore 2 v4 v35 h5 fun _ h37 =>
  aLoad true 2 v4 h37 fun v38 =>
  K v38 h37)
  (aIndexAddr 2 x3 (.p (.int .i64 0)) fun v39 =>
  aLoad true 2 v39 h5 fun v40 =>
  aStore 2 v4 v40 h5 fun _ h42 =>
  aLoad true 2 v4 h42 fun v43 =>
  K v43 h42))))

def op_Op_goes_ann : Nat → List Nat := fun k => match k with | 1000005 => [1] | 1000008 => [1] | _ => []

theorem op_Op_goes_eq (x0 x1 x2 x3 : AV) (H : List Ob) (r : AV) (Ho : List Ob) : aBody Tryz.prog op_Op_goes_ann Tryz.f105 H [x0, x1, x2, x3] r Ho = op_Op_goes x0 x1 x2 x3 H (fun v H' => Gives H.length v H' r Ho) := by kernel_rfl

theorem op_Op_goes_fn {x0 x1 x2 x3 : AV} {r : AV} {Ho : List Ob} (h : op_Op_goes x0 x1 x2 x3 [] (fun v H' => Gives 0 v H' r Ho)) : Abs.Fn Tryz.prog op_Op_goes_i [] [x0, x1, x2, x3] r Ho :=
  fn_intro mixed op_Op_goes_ann (fn := Tryz.f105) (by kernel_rfl) (by kernel_rfl) (by rw [op_Op_goes_eq]; exact h)

/- runnel/op.nothing -/
def op_nothing (x0 : AV) (H : List Ob) (K : AV → List Ob → Prop) : Prop :=
  aBox x0 H fun v0 h1 =>
  aFieldAddr 0 v0 fun v2 =>
  aLoad false 1 v2 h1 fun v3 =>
  aBin false false .eql v3 (.p (.str [])) fun v4 =>
  aMerge true v4 (fun Q5 =>
  aFieldAddr 1 v0 fun v6 =>
  aLoad true 5 v6 h1 fun v7 =>
  aBuild [(.p (.int .i64 0)), (.p (.int .i64 0)), (.p (.bool false)), (.p (.str [])), (.full [])] [] fun v8 =>
  aCall Tryz.prog (.p (.func val_Same_i [])) [v7, v8] h1 fun v9 h10 =>
  (h10 = h1 ∧ Q5 v9)) fun v11 =>
  aMerge true v11 (fun Q12 =>
  aFieldAddr 6 v0 fun v13 =>
  aLoad false 1 v13 h1 fun v14 =>
  aBin false false .eql v14 (.p (.int .i64 0)) fun v15 =>
  (h1 = h1 ∧ Q12 v15)) fun v16 =>
  aMerge true v16 (fun Q17 =>
  aFieldAddr 7 v0 fun v18 =>
  aLoad false 1 v18 h1 fun v19 =>
  aLenS false v19 fun v20 =>
  aBin false false .eql v20 (.p (.int .i64 0)) fun v21 =>
  (h1 = h1 ∧ Q17 v21)) fun v22 =>
  K v22 h1

def op_nothing_ann : Nat → List Nat := fun _ => []

theorem op_nothing_eq (x0 : AV) (H : List Ob) (r : AV) (Ho : List Ob) : aBody Tryz.prog op_nothing_ann Tryz.f129 H [x0] r Ho = op_nothing x0 H (fun v H' => Gives H.length v H' r Ho) := by kernel_rfl

theorem op_nothing_fn {x0 : AV} {r : AV} {Ho : List Ob} (h : op_nothing x0 [] (fun v H' => Gives 0 v H' r Ho)) : Abs.Fn Tryz.prog op_nothing_i [] [x0] r Ho :=
  fn_intro mixed op_nothing_ann (fn := Tryz.f129) (by kernel_rfl) (by kernel_rfl) (by rw [op_nothing_eq]; exact h)

/- (runnel/op.span).in -/
def op_span_in (x0 x1 : AV) (H : List Ob) (K : AV → List Ob → Prop) : Prop :=
  aBox x0 H fun v0 h1 =>
  aFieldAddr 0 v0 fun v2 =>
  aLoad false 1 v2 h1 fun v3 =>
  aBin false false .geq x1 v3 fun v4 =>
  aMerge true v4 (fun Q5 =>
  aFieldAddr 1 v0 fun v6 =>
  aLoad false 1 v6 h1 fun v7 =>
  aBin false false .leq x1 v7 fun v8 =>
  (h1 = h1 ∧ Q5 v8)) fun v9 =>
  K v9 h1

def op_span_in_ann : Nat → List Nat := fun _ => []

theorem op_span_in_eq (x0 x1 : AV) (H : List Ob) (r : AV) (Ho : List Ob) : aBody Tryz.prog op_span_in_ann Tryz.f130 H [x0, x1] r Ho = op_span_in x0 x1 H (fun v H' => Gives H.length v H' r Ho) := by kernel_rfl

theorem op_span_in_fn {x0 x1 : AV} {r : AV} {Ho : List Ob} (h : op_span_in x0 x1 [] (fun v H' => Gives 0 v H' r Ho)) : Abs.Fn Tryz.prog op_span_in_i [] [x0, x1] r Ho :=
  fn_intro mixed op_span_in_ann (fn := Tryz.f130) (by kernel_rfl) (by kernel_rfl) (by rw [op_span_in_eq]; exact h)

/- runnel/op.alike -/
def op_alike_L1 (q1s0 q1s5 q1s6 y0 : AV) (H : List Ob) (B1 : List AV → List Ob → Prop) (K : AV → List Ob → Prop) : Prop :=
  aBin false false .lss y0 q1s6 fun v1 =>
  aGuard v1
  (aIndexAddr 2 q1s5 y0 fun v2 =>
  aLoad true 2 v2 H fun v3 =>
  aAlloc [(.p (.int .i64 0)), (.full [])] H fun v4 h5 =>
  aStore 2 v4 v3 h5 fun _ h7 =>
  aLoad true 2 v4 h7 fun v8 =>
  aIndexAddr 2 q1s0 (.p (.int .i64 0)) fun v9 =>
  aLoad true 2 v9 h7 fun v10 =>
  aCallT Tryz.prog (.p (.func typ_Same_i [])) [v8, v10] fun v11 =>
  aUn .not v11 fun v12 =>
  aGuard v12
  (K (.p (.bool false)) h7)
  (aBin false false .add y0 (.p (.int .i64 1)) fun v13 =>
  B1 [v13] h7))
  (K (.p (.bool true)) H)

def op_alike (x0 : AV) (H : List Ob) (K : AV → List Ob → Prop) : Prop :=
  aLen false false x0 fun v0 =>
  aLoopN 1 [(.p (.int .i64 0))] H fun xs H B1 => op_alike_L1 x0 x0 v0 (xs.getD 0 .top) H B1 K

def op_alike_ann : Nat → List Nat := fun k => match k with | 2 => [7] | _ => []

theorem op_alike_eq (x0 : AV) (H : List Ob) (r : AV) (Ho : List Ob) : aBody Tryz.prog op_alike_ann Tryz.f131 H [x0] r Ho = op_alike x0 H (fun v H' => Gives H.length v H' r Ho) := by kernel_rfl

theorem op_alike_fn {x0 : AV} {r : AV} {Ho : List Ob} (h : op_alike x0 [] (fun v H' => Gives 0 v H' r Ho)) : Abs.Fn Tryz.prog op_alike_i [] [x0] r Ho :=
  fn_intro mixed op_alike_ann (fn := Tryz.f131) (by kernel_rfl) (by kernel_rfl) (by rw [op_alike_eq]; exact h)

end Go.Proofs.YtijnpcociedigaaGreatDoor
end

section
/- Made by program (Gen.lean): functions of the dump, over trees. -/
set_option maxRecDepth 4000
set_option linter.unusedVariables false
namespace Go.Proofs.YtijnpcociedigaaGreatDoor
open Go Go.Abs

/- slices.Contains[[]int,int] -/
def slices_Contains_int_int (x0 x1 : AV) (H : List Ob) (K : AV → List Ob → Prop) : Prop :=
  aCall Tryz.prog (.p (.func slices_Index_int_int_i [])) [x0, x1] H fun v0 h1 =>
  aBin false false .geq v0 (.p (.int .i64 0)) fun v2 =>
  K v2 h1

def slices_Contains_int_int_ann : Nat → List Nat := fun _ => []

theorem slices_Contains_int_int_eq (x0 x1 : AV) (H : List Ob) (r : AV) (Ho : List Ob) : aBody Tryz.prog slices_Contains_int_int_ann Tryz.f74 H [x0, x1] r Ho = slices_Contains_int_int x0 x1 H (fun v H' => Gives H.length v H' r Ho) := by kernel_rfl

theorem slices_Contains_int_int_fn {x0 x1 : AV} {r : AV} {Ho : List Ob} (h : slices_Contains_int_int x0 x1 [] (fun v H' => Gives 0 v H' r Ho)) : Abs.Fn Tryz.prog slices_Contains_int_int_i [] [x0, x1] r Ho :=
  fn_intro mixed slices_Contains_int_int_ann (fn := Tryz.f74) (by kernel_rfl) (by kernel_rfl) (by rw [slices_Contains_int_int_eq]; exact h)

/- slices.Clip[[]int,int] -/
def slices_Clip_int_int (x0 : AV) (H : List Ob) (K : AV → List Ob → Prop) : Prop :=
  aLen false false x0 fun v0 =>
  aLen false false x0 fun v1 =>
  aSlice false 1 x0 none (some v0) (some v1) fun v2 =>
  K v2 H

def slices_Clip_int_int_ann : Nat → List Nat := fun _ => []

theorem slices_Clip_int_int_eq (x0 : AV) (H : List Ob) (r : AV) (Ho : List Ob) : aBody Tryz.prog slices_Clip_int_int_ann Tryz.f106 H [x0] r Ho = slices_Clip_int_int x0 H (fun v H' => Gives H.length v H' r Ho) := by kernel_rfl

theorem slices_Clip_int_int_fn {x0 : AV} {r : AV} {Ho : List Ob} (h : slices_Clip_int_int x0 [] (fun v H' => Gives 0 v H' r Ho)) : Abs.Fn Tryz.prog slices_Clip_int_int_i [] [x0] r Ho :=
  fn_intro mixed slices_Clip_int_int_ann (fn := Tryz.f106) (by kernel_rfl) (by kernel_rfl) (by rw [slices_Clip_int_int_eq]; exact h)

/- slices.Index[[]int,int] -/
def slices_Index_int_int_L1 (q1s0 q1s1 q1s7 y0 : AV) (H : List Ob) (B1 : List AV → List Ob → Prop) (K : AV → List Ob → Prop) : Prop :=
  aBin false false .lss y0 q1s7 fun v1 =>
  aGuard v1
  (aIndexAddr 1 q1s0 y0 fun v2 =>
  aLoad false 1 v2 H fun v3 =>
  aBin false false .eql q1s1 v3 fun v4 =>
  aGuard v4
  (K y0 H)
  (aBin false false .add y0 (.p (.int .i64 1)) fun v5 =>
  B1 [v5] H))
  (K (.p (.int .i64 (-1))) H)

def slices_Index_int_int (x0 x1 : AV) (H : List Ob) (K : AV → List Ob → Prop) : Prop :=
  aLen false false x0 fun v0 =>
  aLoopN 1 [(.p (.int .i64 0))] H fun xs H B1 => slices_Index_int_int_L1 x0 x1 v0 (xs.getD 0 .top) H B1 K

def slices_Index_int_int_ann : Nat → List Nat := fun k => match k with | 2 => [8] | _ => []

theorem slices_Index_int_int_eq (x0 x1 : AV) (H : List Ob) (r : AV) (Ho : List Ob) : aBody Tryz.prog slices_Index_int_int_ann Tryz.f107 H [x0, x1] r Ho = slices_Index_int_int x0 x1 H (fun v H' => Gives H.length v H' r Ho) := by kernel_rfl

theorem slices_Index_int_int_fn {x0 x1 : AV} {r : AV} {Ho : List Ob} (h : slices_Index_int_int x0 x1 [] (fun v H' => Gives 0 v H' r Ho)) : Abs.Fn Tryz.prog slices_Index_int_int_i [] [x0, x1] r Ho :=
  fn_intro mixed slices_Index_int_int_ann (fn := Tryz.f107) (by kernel_rfl) (by kernel_rfl) (by rw [slices_Index_int_int_eq]; exact h)

end Go.Proofs.YtijnpcociedigaaGreatDoor
end

section
/- Made by program (Gen.lean): functions of the dump, over trees. -/
set_option maxRecDepth 4000
set_option linter.unusedVariables false
namespace Go.Proofs.YtijnpcociedigaaGreatDoor
open Go Go.Abs

/- runnel/graph.Check -/
def graph_Check_L2 (q2s0 q2s44 q2s45 y0 : AV) (H : List Ob) (B2 : List AV → List Ob → Prop) (K : AV → List Ob → Prop) : Prop :=
  aBin false false .lss y0 q2s45 fun v28 =>
  aGuard v28
  (aIndexAddr 21 q2s44 y0 fun v29 =>
  aLoad true 21 v29 H fun v30 =>
  aAlloc [(.p (.str [])), (.p (.int .i64 0)), (.p (.str [])), (.p (.int .i64 0)), (.full []), (.full []), (.p (.str [])), (.p (.int .i64 0)), (.p (.int .i64 0)), (.p (.bool false)), (.p (.str [])), (.full []), (.p (.int .i64 0)), (.full []), (.p (.int .i64 0)), (.p (.int .i64 0)), (.full []), (.p (.int .i64 0)), (.p (.int .i64 0)), (.p (.str [])), (.p (.bool false))] H fun v31 h32 =>
  aStore 21 v31 v30 h32 fun _ h34 =>
  aFieldAddr 1 v31 fun v35 =>
  aFieldAddr 0 v35 fun v36 =>
  aLoad false 1 v36 h34 fun v37 =>
  aBin false false .neq v37 (.p (.int .i64 9)) fun v38 =>
  aMerge true v38 (fun Q39 =>
  aCall Tryz.prog (.p (.func graph_Outs_i [])) [q2s0, y0] h34 fun v40 h41 =>
  aLenS false v40 fun v42 =>
  aBin false false .eql v42 (.p (.int .i64 0)) fun v43 =>
  (h41 = h34 ∧ Q39 v43)) fun v44 =>
  aGuard v44
  (K (.tup [y0, (.p (.int .i64 1))]) h34)
  (aBin false false .add y0 (.p (.int .i64 1)) fun v45 =>
  B2 [v45] h34))
  (K (.tup [(.p (.int .i64 0)), (.p (.int .i64 0))]) H)

def graph_Check_L1 (q1s0 q1s19 q1s20 y0 y1 : AV) (H : List Ob) (B1 : List AV → List Ob → Prop) (K : AV → List Ob → Prop) : Prop :=
  aBin false false .lss y1 q1s20 fun v5 =>
  aGuard v5
  (aIndexAddr 21 q1s19 y1 fun v6 =>
  aLoad true 21 v6 H fun v7 =>
  aAlloc [(.p (.str [])), (.p (.int .i64 0)), (.p (.str [])), (.p (.int .i64 0)), (.full []), (.full []), (.p (.str [])), (.p (.int .i64 0)), (.p (.int .i64 0)), (.p (.bool false)), (.p (.str [])), (.full []), (.p (.int .i64 0)), (.full []), (.p (.int .i64 0)), (.p (.int .i64 0)), (.full []), (.p (.int .i64 0)), (.p (.int .i64 0)), (.p (.str [])), (.p (.bool false))] H fun v8 h9 =>
  aStore 21 v8 v7 h9 fun _ h11 =>
  aAlloc [(.p (.int .i64 0)), (.full [])] h11 fun v12 h13 =>
  aLoad true 21 v8 h13 fun v14 =>
  aSlice false 21 q1s0 none (some y1) none fun v15 =>
  aCallT Tryz.prog (.p (.func graph_Node_check_i [])) [v14, v15, y0] fun v16 =>
  aExtract v16 0 fun v17 =>
  aExtract v16 1 fun v18 =>
  aStore 2 v12 v17 h13 fun _ h20 =>
  aBin false false .neq v18 (.p (.int .i64 0)) fun v21 =>
  aGuard v21
  (K (.tup [y1, v18]) h20)
  (aLoad true 2 v12 h20 fun v22 =>
  aBuildSlice 2 [v22] fun v23 =>
  aAppend false 2 32 y0 v23 h20 fun v24 h25 =>
  aBin false false .add y1 (.p (.int .i64 1)) fun v26 =>
  B1 [v24, v26] h25))
  (aLen false false q1s0 fun v27 =>
  aLoopN 1 [(.p (.int .i64 0))] H fun xs H B2 => graph_Check_L2 q1s0 q1s0 v27 (xs.getD 0 .top) H B2 K)

def graph_Check (x0 : AV) (H : List Ob) (K : AV → List Ob → Prop) : Prop :=
  aLen false false x0 fun v0 =>
  aBin false false .eql v0 (.p (.int .i64 0)) fun v1 =>
  aGuard v1
  (K (.tup [(.p (.int .i64 0)), (.p (.int .i64 3))]) H)
  (aLen false false x0 fun v2 =>
  aBin false false .gtr v2 (.p (.int .i64 16)) fun v3 =>
  aGuard v3
  (K (.tup [(.p (.int .i64 0)), (.p (.int .i64 10))]) H)
  (aLen false false x0 fun v4 =>
  aLoopN 2 [(.full []), (.p (.int .i64 0))] H fun xs H B1 => graph_Check_L1 x0 x0 v4 (xs.getD 0 .top) (xs.getD 1 .top) H B1 K))

def graph_Check_ann : Nat → List Nat := fun k => match k with | 7 => [4, 21] | 15 => [46] | _ => []

theorem graph_Check_eq (x0 : AV) (H : List Ob) (r : AV) (Ho : List Ob) : aBody Tryz.prog graph_Check_ann Tryz.f20 H [x0] r Ho = graph_Check x0 H (fun v H' => Gives H.length v H' r Ho) := by kernel_rfl

theorem graph_Check_fn {x0 : AV} {r : AV} {Ho : List Ob} (h : graph_Check x0 [] (fun v H' => Gives 0 v H' r Ho)) : Abs.Fn Tryz.prog graph_Check_i [] [x0] r Ho :=
  fn_intro mixed graph_Check_ann (fn := Tryz.f20) (by kernel_rfl) (by kernel_rfl) (by rw [graph_Check_eq]; exact h)

/- runnel/graph.Types -/
def graph_Types_L1 (q1s0 q1s8 q1s9 y0 y1 : AV) (H : List Ob) (B1 : List AV → List Ob → Prop) (K : AV → List Ob → Prop) : Prop :=
  aBin false false .lss y1 q1s9 fun v1 =>
  aGuard v1
  (aIndexAddr 21 q1s8 y1 fun v2 =>
  aLoad true 21 v2 H fun v3 =>
  aAlloc [(.p (.str [])), (.p (.int .i64 0)), (.p (.str [])), (.p (.int .i64 0)), (.full []), (.full []), (.p (.str [])), (.p (.int .i64 0)), (.p (.int .i64 0)), (.p (.bool false)), (.p (.str [])), (.full []), (.p (.int .i64 0)), (.full []), (.p (.int .i64 0)), (.p (.int .i64 0)), (.full []), (.p (.int .i64 0)), (.p (.int .i64 0)), (.p (.str [])), (.p (.bool false))] H fun v4 h5 =>
  aStore 21 v4 v3 h5 fun _ h7 =>
  aAlloc [(.p (.int .i64 0)), (.full [])] h7 fun v8 h9 =>
  aLoad true 21 v4 h9 fun v10 =>
  aSlice false 21 q1s0 none (some y1) none fun v11 =>
  aCallT Tryz.prog (.p (.func graph_Node_check_i [])) [v10, v11, y0] fun v12 =>
  aExtract v12 0 fun v13 =>
  aExtract v12 1 fun v14 =>
  aStore 2 v8 v13 h9 fun _ h16 =>
  aBin false false .neq v14 (.p (.int .i64 0)) fun v17 =>
  aGuard v17
  (K (.full []) h16)
  (aLoad true 2 v8 h16 fun v18 =>
  aBuildSlice 2 [v18] fun v19 =>
  aAppend false 2 32 y0 v19 h16 fun v20 h21 =>
  aBin false false .add y1 (.p (.int .i64 1)) fun v22 =>
  B1 [v20, v22] h21))
  (aCall Tryz.prog (.p (.func slices_Clip_typ_Type_typ_Type_i [])) [y0] H fun v23 h24 =>
  K v23 h24)

def graph_Types (x0 : AV) (H : List Ob) (K : AV → List Ob → Prop) : Prop :=
  aLen false false x0 fun v0 =>
  aLoopN 2 [(.full []), (.p (.int .i64 0))] H fun xs H B1 => graph_Types_L1 x0 x0 v0 (xs.getD 0 .top) (xs.getD 1 .top) H B1 K

def graph_Types_ann : Nat → List Nat := fun k => match k with | 3 => [3, 10] | _ => []

theorem graph_Types_eq (x0 : AV) (H : List Ob) (r : AV) (Ho : List Ob) : aBody Tryz.prog graph_Types_ann Tryz.f30 H [x0] r Ho = graph_Types x0 H (fun v H' => Gives H.length v H' r Ho) := by kernel_rfl

theorem graph_Types_fn {x0 : AV} {r : AV} {Ho : List Ob} (h : graph_Types x0 [] (fun v H' => Gives 0 v H' r Ho)) : Abs.Fn Tryz.prog graph_Types_i [] [x0] r Ho :=
  fn_intro mixed graph_Types_ann (fn := Tryz.f30) (by kernel_rfl) (by kernel_rfl) (by rw [graph_Types_eq]; exact h)

/- (runnel/graph.Node).check (in pieces) -/
def graph_Node_check_ann : Nat → List Nat := fun k => match k with | 1000999999 => [1] | 2000001 => [1, 2, 3, 6, 9999] | 2000002 => [1, 2, 3, 6, 8, 9999] | 2000003 => [1, 2, 3, 6, 8, 9, 9999] | 2000004 => [1, 2, 3, 6, 8, 9, 14, 9999] | 2000005 => [1, 2, 3, 6, 8, 9, 14, 9999] | 2000007 => [1, 2, 3, 6, 9, 29, 9999] | 2000009 => [1, 2, 3, 6, 9, 39, 9999] | 2000010 => [1, 2, 3, 6, 9, 39, 9999] | 2000011 => [1, 2, 3, 6, 9, 39, 9999] | 2000012 => [1, 2, 3, 6, 9, 39, 9999] | 2000013 => [1, 2, 3, 6, 9, 39, 9999] | 2000014 => [1, 2, 3, 6, 9, 9999] | 2000015 => [1, 3, 6, 9, 10, 11, 9999] | 2000017 => [1, 3, 6, 9, 10, 11, 9999] | 2000019 => [6, 10, 11, 9999] | 3000015 => [1000] | _ => []
def graph_Node_check_cut : Nat → Bool := fun k => match k with | 1 => true | 2 => true | 3 => true | 4 => true | 5 => true | 7 => true | 9 => true | 10 => true | 11 => true | 12 => true | 13 => true | 14 => true | 15 => true | 17 => true | 19 => true | _ => false
noncomputable def graph_Node_check_c : Code := Tryz.f40.body.getD .skip
noncomputable def graph_Node_check_c1 : Code := (cr graph_Node_check_c)
noncomputable def graph_Node_check_c2 : Code := (cr (cr graph_Node_check_c))
noncomputable def graph_Node_check_c3 : Code := (cr (cr (cr graph_Node_check_c)))
noncomputable def graph_Node_check_c4 : Code := (cr (cl (cl (cl (cr (cr (cr graph_Node_check_c)))))))
noncomputable def graph_Node_check_c5 : Code := (cr (cl (cl (cr (cr (cr graph_Node_check_c))))))
noncomputable def graph_Node_check_c7 : Code := (cr (cr (cr (cl (cl (cr (cr (cr graph_Node_check_c))))))))
noncomputable def graph_Node_check_c9 : Code := (cr (cl (cr (cr (cr (cr (cl (cl (cr (cr (cr graph_Node_check_c)))))))))))
noncomputable def graph_Node_check_c10 : Code := (cr (cr (cr (cl (cr (cr (cr (cr (cl (cl (cr (cr (cr graph_Node_check_c)))))))))))))
noncomputable def graph_Node_check_c11 : Code := (cr (cr (cr (cr (cr (cl (cr (cr (cr (cr (cl (cl (cr (cr (cr graph_Node_check_c)))))))))))))))
noncomputable def graph_Node_check_c12 : Code := (cr (cr (cr (cr (cr (cr (cr (cl (cr (cr (cr (cr (cl (cl (cr (cr (cr graph_Node_check_c)))))))))))))))))
noncomputable def graph_Node_check_c13 : Code := (cr (cr (cr (cr (cr (cl (cl (cr (cr (cr graph_Node_check_c))))))))))
noncomputable def graph_Node_check_c14 : Code := (cr (cr (cr (cr graph_Node_check_c))))
noncomputable def graph_Node_check_c15 : Code := (cr (cr (cr (cr (cr graph_Node_check_c)))))
noncomputable def graph_Node_check_c17 : Code := (cr (cr (cr (cr (cr (cr graph_Node_check_c))))))
noncomputable def graph_Node_check_c19 : Code := (cr (cr (cr (cr (cr (cr (cr graph_Node_check_c)))))))

def graph_Node_check_P0 (j0 j1 j2 : AV) (H : List Ob) (self : Code → List AV → List Ob → Ko → Prop) (kp : Ko) : Prop :=
  aBox j0 H fun v0 h1 =>
  aAlloc [(.p (.int .i64 0)), (.full [])] h1 fun v2 h3 =>
  self graph_Node_check_c1 (keepS [1, 2, 3, 6, 9999] 0 [j0,j1,j2,v0,.top,.top,v2,(.p (.int .i64 0)),.top,.top,.top,.top,.top,.top,.top,.top,.top,.top,.top,.top,.top,.top,.top,.top,.top,.top,.top,.top,.top,.top,.top,.top,.top,.top,.top,.top,.top,.top,.top,.top,.top,.top,.top,.top,.top,.top,.top,.top,.top,.top,.top,.top,.top,.top,.top,.top,.top,.top,.top,.top,.top,.top,.top,.top,.top,.top,.top,.top,.top,.top,.top,.top,.top,.top,.top,.top,.top,.top,.top,.top,.top,.top,.top,.top,.top,.top,.top,.top,.top,.top,.top,.top,.top,.top,.top]) h3 kp

theorem graph_Node_check_P0_x (j0 j1 j2 : AV) (H : List Ob) (self : Code → List AV → List Ob → Ko → Prop) (kp : Ko) : awpX Tryz.prog graph_Node_check_ann self graph_Node_check_cut graph_Node_check_c ([j0,j1,j2] ++ List.replicate 92 .top) H kp = graph_Node_check_P0 j0 j1 j2 H self kp := by kernel_rfl

theorem graph_Node_check_c_eq (j0 j1 j2 : AV) (H : List Ob) (kp : Ko) : awp Tryz.prog graph_Node_check_ann graph_Node_check_c [j0,j1,j2,.top,.top,.top,.top,.top,.top,.top,.top,.top,.top,.top,.top,.top,.top,.top,.top,.top,.top,.top,.top,.top,.top,.top,.top,.top,.top,.top,.top,.top,.top,.top,.top,.top,.top,.top,.top,.top,.top,.top,.top,.top,.top,.top,.top,.top,.top,.top,.top,.top,.top,.top,.top,.top,.top,.top,.top,.top,.top,.top,.top,.top,.top,.top,.top,.top,.top,.top,.top,.top,.top,.top,.top,.top,.top,.top,.top,.top,.top,.top,.top,.top,.top,.top,.top,.top,.top,.top,.top,.top,.top,.top,.top] H kp = graph_Node_check_P0 j0 j1 j2 H (awp Tryz.prog graph_Node_check_ann) kp :=
  Eq.trans (by kernel_rfl) ((awpX_eq Tryz.prog graph_Node_check_ann graph_Node_check_cut _ _ _ _).symm.trans (graph_Node_check_P0_x j0 j1 j2 H _ kp))

theorem graph_Node_check_eq (j0 j1 j2 : AV) (H : List Ob) (r : AV) (Ho : List Ob) : aBody Tryz.prog graph_Node_check_ann Tryz.f40 H [j0, j1, j2] r Ho = graph_Node_check_P0 j0 j1 j2 H (awp Tryz.prog graph_Node_check_ann) (kEnd Tryz.prog [.cell 6 39, .tmp 7] fun v H' => Gives H.length v H' r Ho) :=
  (show aBody Tryz.prog graph_Node_check_ann Tryz.f40 H [j0, j1, j2] r Ho = awp Tryz.prog graph_Node_check_ann graph_Node_check_c [j0,j1,j2,.top,.top,.top,.top,.top,.top,.top,.top,.top,.top,.top,.top,.top,.top,.top,.top,.top,.top,.top,.top,.top,.top,.top,.top,.top,.top,.top,.top,.top,.top,.top,.top,.top,.top,.top,.top,.top,.top,.top,.top,.top,.top,.top,.top,.top,.top,.top,.top,.top,.top,.top,.top,.top,.top,.top,.top,.top,.top,.top,.top,.top,.top,.top,.top,.top,.top,.top,.top,.top,.top,.top,.top,.top,.top,.top,.top,.top,.top,.top,.top,.top,.top,.top,.top,.top,.top,.top,.top,.top,.top,.top,.top] H (kEnd Tryz.prog [.cell 6 39, .tmp 7] fun v H' => Gives H.length v H' r Ho) from by kernel_rfl).trans (graph_Node_check_c_eq j0 j1 j2 H _)

theorem graph_Node_check_fn {j0 j1 j2 : AV} {r : AV} {Ho : List Ob} (h : graph_Node_check_P0 j0 j1 j2 [] (awp Tryz.prog graph_Node_check_ann) (kEnd Tryz.prog [.cell 6 39, .tmp 7] fun v H' => Gives 0 v H' r Ho)) : Abs.Fn Tryz.prog graph_Node_check_i [] [j0, j1, j2] r Ho :=
  fn_intro mixed graph_Node_check_ann (fn := Tryz.f40) (by kernel_rfl) (by kernel_rfl) (by rw [graph_Node_check_eq]; exact h)

def graph_Node_check_P1 (j1 j2 j3 j6 : AV) (H : List Ob) (self : Code → List AV → List Ob → Ko → Prop) (kp : Ko) : Prop :=
  aMakeFunc graph_Node_check_1_i [j3] H fun v4 h5 =>
  self graph_Node_check_c2 (keepS [1, 2, 3, 6, 8, 9999] 0 [.top,j1,j2,j3,.top,.top,j6,.top,v4,.top,.top,.top,v4,.top,.top,.top,.top,.top,.top,.top,.top,.top,.top,.top,.top,.top,.top,.top,.top,.top,.top,.top,.top,.top,.top,.top,.top,.top,.top,.top,.top,.top,.top,.top,.top,.top,.top,.top,.top,.top,.top,.top,.top,.top,.top,.top,.top,.top,.top,.top,.top,.top,.top,.top,.top,.top,.top,.top,.top,.top,.top,.top,.top,.top,.top,.top,.top,.top,.top,.top,.top,.top,.top,.top,.top,.top,.top,.top,.top,.top,.top,.top,.top,.top,.top]) h5 kp

theorem graph_Node_check_P1_x (j1 j2 j3 j6 : AV) (H : List Ob) (self : Code → List AV → List Ob → Ko → Prop) (kp : Ko) : awpX Tryz.prog graph_Node_check_ann self graph_Node_check_cut graph_Node_check_c1 ([.top,j1,j2,j3,.top,.top,j6] ++ List.replicate 88 .top) H kp = graph_Node_check_P1 j1 j2 j3 j6 H self kp := by kernel_rfl

theorem graph_Node_check_c1_eq (j0 j1 j2 j3 j4 j5 j6 j7 j8 j9 j10 j11 j12 j13 j14 j15 j16 j17 j18 j19 j20 j21 j22 j23 j24 j25 j26 j27 j28 j29 j30 j31 j32 j33 j34 j35 j36 j37 j38 j39 j40 j41 j42 j43 j44 j45 j46 j47 j48 j49 j50 j51 j52 j53 j54 j55 j56 j57 j58 j59 j60 j61 j62 j63 j64 j65 j66 j67 j68 j69 j70 j71 j72 j73 j74 j75 j76 j77 j78 j79 j80 j81 j82 j83 j84 j85 j86 j87 j88 j89 j90 j91 j92 j93 j94 : AV) (H : List Ob) (kp : Ko) : awp Tryz.prog graph_Node_check_ann graph_Node_check_c1 (keepS [1, 2, 3, 6, 9999] 0 [j0,j1,j2,j3,j4,j5,j6,j7,j8,j9,j10,j11,j12,j13,j14,j15,j16,j17,j18,j19,j20,j21,j22,j23,j24,j25,j26,j27,j28,j29,j30,j31,j32,j33,j34,j35,j36,j37,j38,j39,j40,j41,j42,j43,j44,j45,j46,j47,j48,j49,j50,j51,j52,j53,j54,j55,j56,j57,j58,j59,j60,j61,j62,j63,j64,j65,j66,j67,j68,j69,j70,j71,j72,j73,j74,j75,j76,j77,j78,j79,j80,j81,j82,j83,j84,j85,j86,j87,j88,j89,j90,j91,j92,j93,j94]) H kp = graph_Node_check_P1 j1 j2 j3 j6 H (awp Tryz.prog graph_Node_check_ann) kp :=
  Eq.trans (by kernel_rfl) ((awpX_eq Tryz.prog graph_Node_check_ann graph_Node_check_cut _ _ _ _).symm.trans (graph_Node_check_P1_x j1 j2 j3 j6 H _ kp))

def graph_Node_check_P2 (j1 j2 j3 j6 j8 : AV) (H : List Ob) (self : Code → List AV → List Ob → Ko → Prop) (kp : Ko) : Prop :=
  aMakeFunc graph_Node_check_2_i [j3] H fun v6 h7 =>
  self graph_Node_check_c3 (keepS [1, 2, 3, 6, 8, 9, 9999] 0 [.top,j1,j2,j3,.top,.top,j6,.top,j8,v6,.top,.top,.top,v6,.top,.top,.top,.top,.top,.top,.top,.top,.top,.top,.top,.top,.top,.top,.top,.top,.top,.top,.top,.top,.top,.top,.top,.top,.top,.top,.top,.top,.top,.top,.top,.top,.top,.top,.top,.top,.top,.top,.top,.top,.top,.top,.top,.top,.top,.top,.top,.top,.top,.top,.top,.top,.top,.top,.top,.top,.top,.top,.top,.top,.top,.top,.top,.top,.top,.top,.top,.top,.top,.top,.top,.top,.top,.top,.top,.top,.top,.top,.top,.top,.top]) h7 kp

theorem graph_Node_check_P2_x (j1 j2 j3 j6 j8 : AV) (H : List Ob) (self : Code → List AV → List Ob → Ko → Prop) (kp : Ko) : awpX Tryz.prog graph_Node_check_ann self graph_Node_check_cut graph_Node_check_c2 ([.top,j1,j2,j3,.top,.top,j6,.top,j8] ++ List.replicate 86 .top) H kp = graph_Node_check_P2 j1 j2 j3 j6 j8 H self kp := by kernel_rfl

theorem graph_Node_check_c2_eq (j0 j1 j2 j3 j4 j5 j6 j7 j8 j9 j10 j11 j12 j13 j14 j15 j16 j17 j18 j19 j20 j21 j22 j23 j24 j25 j26 j27 j28 j29 j30 j31 j32 j33 j34 j35 j36 j37 j38 j39 j40 j41 j42 j43 j44 j45 j46 j47 j48 j49 j50 j51 j52 j53 j54 j55 j56 j57 j58 j59 j60 j61 j62 j63 j64 j65 j66 j67 j68 j69 j70 j71 j72 j73 j74 j75 j76 j77 j78 j79 j80 j81 j82 j83 j84 j85 j86 j87 j88 j89 j90 j91 j92 j93 j94 : AV) (H : List Ob) (kp : Ko) : awp Tryz.prog graph_Node_check_ann graph_Node_check_c2 (keepS [1, 2, 3, 6, 8, 9999] 0 [j0,j1,j2,j3,j4,j5,j6,j7,j8,j9,j10,j11,j12,j13,j14,j15,j16,j17,j18,j19,j20,j21,j22,j23,j24,j25,j26,j27,j28,j29,j30,j31,j32,j33,j34,j35,j36,j37,j38,j39,j40,j41,j42,j43,j44,j45,j46,j47,j48,j49,j50,j51,j52,j53,j54,j55,j56,j57,j58,j59,j60,j61,j62,j63,j64,j65,j66,j67,j68,j69,j70,j71,j72,j73,j74,j75,j76,j77,j78,j79,j80,j81,j82,j83,j84,j85,j86,j87,j88,j89,j90,j91,j92,j93,j94]) H kp = graph_Node_check_P2 j1 j2 j3 j6 j8 H (awp Tryz.prog graph_Node_check_ann) kp :=
  Eq.trans (by kernel_rfl) ((awpX_eq Tryz.prog graph_Node_check_ann graph_Node_check_cut _ _ _ _).symm.trans (graph_Node_check_P2_x j1 j2 j3 j6 j8 H _ kp))

def graph_Node_check_P3 (j1 j2 j3 j6 j8 j9 : AV) (H : List Ob) (self : Code → List AV → List Ob → Ko → Prop) (kp : Ko) : Prop :=
  aFieldAddr 0 j3 fun v8 =>
  aLoad false 1 v8 H fun v9 =>
  aBin false false .neq v9 (.p (.str [])) fun v10 =>
  aMerge true v10 (fun Q11 =>
  aFieldAddr 0 j3 fun v12 =>
  aLoad false 1 v12 H fun v13 =>
  aCall Tryz.prog (.p (.func op_Name_i [])) [v13] H fun v14 h15 =>
  aUn .not v14 fun v16 =>
  (h15 = H ∧ Q11 v16)) fun v17 =>
  self graph_Node_check_c4 (keepS [1, 2, 3, 6, 8, 9, 14, 9999] 0 [.top,j1,j2,j3,.top,.top,j6,.top,j8,j9,.top,.top,.top,.top,v17,v8,v9,v10,v10,.top,.top,.top,.top,v17,.top,.top,.top,.top,.top,.top,.top,.top,.top,.top,.top,.top,.top,.top,.top,.top,.top,.top,.top,.top,.top,.top,.top,.top,.top,.top,.top,.top,.top,.top,.top,.top,.top,.top,.top,.top,.top,.top,.top,.top,.top,.top,.top,.top,.top,.top,.top,.top,.top,.top,.top,.top,.top,.top,.top,.top,.top,.top,.top,.top,.top,.top,.top,.top,.top,.top,.top,.top,.top,.top,.top]) H (kSeq self graph_Node_check_c5 [1, 2, 3, 6, 8, 9, 14, 9999] (kBlock 0 (kSeq self graph_Node_check_c14 [1, 2, 3, 6, 9, 9999] kp)))

theorem graph_Node_check_P3_x (j1 j2 j3 j6 j8 j9 : AV) (H : List Ob) (self : Code → List AV → List Ob → Ko → Prop) (kp : Ko) : awpX Tryz.prog graph_Node_check_ann self graph_Node_check_cut graph_Node_check_c3 ([.top,j1,j2,j3,.top,.top,j6,.top,j8,j9] ++ List.replicate 85 .top) H kp = graph_Node_check_P3 j1 j2 j3 j6 j8 j9 H self kp := by kernel_rfl

theorem graph_Node_check_c3_eq (j0 j1 j2 j3 j4 j5 j6 j7 j8 j9 j10 j11 j12 j13 j14 j15 j16 j17 j18 j19 j20 j21 j22 j23 j24 j25 j26 j27 j28 j29 j30 j31 j32 j33 j34 j35 j36 j37 j38 j39 j40 j41 j42 j43 j44 j45 j46 j47 j48 j49 j50 j51 j52 j53 j54 j55 j56 j57 j58 j59 j60 j61 j62 j63 j64 j65 j66 j67 j68 j69 j70 j71 j72 j73 j74 j75 j76 j77 j78 j79 j80 j81 j82 j83 j84 j85 j86 j87 j88 j89 j90 j91 j92 j93 j94 : AV) (H : List Ob) (kp : Ko) : awp Tryz.prog graph_Node_check_ann graph_Node_check_c3 (keepS [1, 2, 3, 6, 8, 9, 9999] 0 [j0,j1,j2,j3,j4,j5,j6,j7,j8,j9,j10,j11,j12,j13,j14,j15,j16,j17,j18,j19,j20,j21,j22,j23,j24,j25,j26,j27,j28,j29,j30,j31,j32,j33,j34,j35,j36,j37,j38,j39,j40,j41,j42,j43,j44,j45,j46,j47,j48,j49,j50,j51,j52,j53,j54,j55,j56,j57,j58,j59,j60,j61,j62,j63,j64,j65,j66,j67,j68,j69,j70,j71,j72,j73,j74,j75,j76,j77,j78,j79,j80,j81,j82,j83,j84,j85,j86,j87,j88,j89,j90,j91,j92,j93,j94]) H kp = graph_Node_check_P3 j1 j2 j3 j6 j8 j9 H (awp Tryz.prog graph_Node_check_ann) kp :=
  Eq.trans (by kernel_rfl) ((awpX_eq Tryz.prog graph_Node_check_ann graph_Node_check_cut _ _ _ _).symm.trans (graph_Node_check_P3_x j1 j2 j3 j6 j8 j9 H _ kp))

def graph_Node_check_P4 (j1 j2 j3 j6 j8 j9 j14 : AV) (H : List Ob) (_ : Code → List AV → List Ob → Ko → Prop) (kp : Ko) : Prop :=
  aGuard j14
  (kp .normal [.top,j1,j2,j3,.top,.top,j6,.top,j8,j9,.top,.top,.top,.top,(.p (.bool true)),.top,.top,.top,.top,.top,.top,.top,.top,.top,.top,.top,.top,.top,.top,.top,.top,.top,.top,.top,.top,.top,.top,.top,.top,.top,.top,.top,.top,.top,.top,.top,.top,.top,.top,.top,.top,.top,.top,.top,.top,.top,.top,.top,.top,.top,.top,.top,.top,.top,.top,.top,.top,.top,.top,.top,.top,.top,.top,.top,.top,.top,.top,.top,.top,.top,.top,.top,.top,.top,.top,.top,.top,.top,.top,.top,.top,.top,.top,.top,.top] H)
  (aFieldAddr 19 j3 fun v18 =>
  aLoad false 1 v18 H fun v19 =>
  aCall Tryz.prog (.p (.func op_Name_i [])) [v19] H fun v20 h21 =>
  aUn .not v20 fun v22 =>
  kp .normal [.top,j1,j2,j3,.top,.top,j6,.top,j8,j9,.top,.top,.top,.top,v22,.top,.top,.top,.top,.top,.top,.top,.top,.top,v18,v19,v20,v22,.top,.top,.top,.top,.top,.top,.top,.top,.top,.top,.top,.top,.top,.top,.top,.top,.top,.top,.top,.top,.top,.top,.top,.top,.top,.top,.top,.top,.top,.top,.top,.top,.top,.top,.top,.top,.top,.top,.top,.top,.top,.top,.top,.top,.top,.top,.top,.top,.top,.top,.top,.top,.top,.top,.top,.top,.top,.top,.top,.top,.top,.top,.top,.top,.top,.top,.top] h21)

theorem graph_Node_check_P4_x (j1 j2 j3 j6 j8 j9 j14 : AV) (H : List Ob) (self : Code → List AV → List Ob → Ko → Prop) (kp : Ko) : awpX Tryz.prog graph_Node_check_ann self graph_Node_check_cut graph_Node_check_c4 ([.top,j1,j2,j3,.top,.top,j6,.top,j8,j9,.top,.top,.top,.top,j14] ++ List.replicate 80 .top) H kp = graph_Node_check_P4 j1 j2 j3 j6 j8 j9 j14 H self kp := by kernel_rfl

theorem graph_Node_check_c4_eq (j0 j1 j2 j3 j4 j5 j6 j7 j8 j9 j10 j11 j12 j13 j14 j15 j16 j17 j18 j19 j20 j21 j22 j23 j24 j25 j26 j27 j28 j29 j30 j31 j32 j33 j34 j35 j36 j37 j38 j39 j40 j41 j42 j43 j44 j45 j46 j47 j48 j49 j50 j51 j52 j53 j54 j55 j56 j57 j58 j59 j60 j61 j62 j63 j64 j65 j66 j67 j68 j69 j70 j71 j72 j73 j74 j75 j76 j77 j78 j79 j80 j81 j82 j83 j84 j85 j86 j87 j88 j89 j90 j91 j92 j93 j94 : AV) (H : List Ob) (kp : Ko) : awp Tryz.prog graph_Node_check_ann graph_Node_check_c4 (keepS [1, 2, 3, 6, 8, 9, 14, 9999] 0 [j0,j1,j2,j3,j4,j5,j6,j7,j8,j9,j10,j11,j12,j13,j14,j15,j16,j17,j18,j19,j20,j21,j22,j23,j24,j25,j26,j27,j28,j29,j30,j31,j32,j33,j34,j35,j36,j37,j38,j39,j40,j41,j42,j43,j44,j45,j46,j47,j48,j49,j50,j51,j52,j53,j54,j55,j56,j57,j58,j59,j60,j61,j62,j63,j64,j65,j66,j67,j68,j69,j70,j71,j72,j73,j74,j75,j76,j77,j78,j79,j80,j81,j82,j83,j84,j85,j86,j87,j88,j89,j90,j91,j92,j93,j94]) H kp = graph_Node_check_P4 j1 j2 j3 j6 j8 j9 j14 H (awp Tryz.prog graph_Node_check_ann) kp :=
  Eq.trans (by kernel_rfl) ((awpX_eq Tryz.prog graph_Node_check_ann graph_Node_check_cut _ _ _ _).symm.trans (graph_Node_check_P4_x j1 j2 j3 j6 j8 j9 j14 H _ kp))

def graph_Node_check_P5 (j1 j2 j3 j6 j8 j9 j14 : AV) (H : List Ob) (self : Code → List AV → List Ob → Ko → Prop) (kp : Ko) : Prop :=
  aGuard j14
  (aBuild [(.p (.int .i64 0)), (.full [])] [] fun v23 =>
  aStore 2 j6 v23 H fun _ h25 =>
  kp .ret [.top,j1,j2,j3,.top,.top,j6,(.p (.int .i64 6)),j8,j9,.top,.top,.top,.top,(.p (.bool true)),.top,.top,.top,.top,.top,.top,.top,.top,.top,.top,.top,.top,.top,v23,.top,.top,.top,.top,.top,.top,.top,.top,.top,.top,.top,.top,.top,.top,.top,.top,.top,.top,.top,.top,.top,.top,.top,.top,.top,.top,.top,.top,.top,.top,.top,.top,.top,.top,.top,.top,.top,.top,.top,.top,.top,.top,.top,.top,.top,.top,.top,.top,.top,.top,.top,.top,.top,.top,.top,.top,.top,.top,.top,.top,.top,.top,.top,.top,.top,.top] h25)
  (aFieldAddr 0 j3 fun v26 =>
  aLoad false 1 v26 H fun v27 =>
  aBin false false .neq v27 (.p (.str [])) fun v28 =>
  aMerge true v28 (fun Q29 =>
  aCall Tryz.prog (.p (.func slices_ContainsFunc_graph_Graph_graph_Node_i [])) [j1, j8] H fun v30 h31 =>
  (h31 = H ∧ Q29 v30)) fun v32 =>
  self graph_Node_check_c7 (keepS [1, 2, 3, 6, 9, 29, 9999] 0 [.top,j1,j2,j3,.top,.top,j6,.top,j8,j9,.top,.top,.top,.top,(.p (.bool false)),.top,.top,.top,.top,.top,.top,.top,.top,.top,.top,.top,.top,.top,.top,v32,v26,v27,v28,v28,.top,.top,.top,v32,.top,.top,.top,.top,.top,.top,.top,.top,.top,.top,.top,.top,.top,.top,.top,.top,.top,.top,.top,.top,.top,.top,.top,.top,.top,.top,.top,.top,.top,.top,.top,.top,.top,.top,.top,.top,.top,.top,.top,.top,.top,.top,.top,.top,.top,.top,.top,.top,.top,.top,.top,.top,.top,.top,.top,.top,.top]) H kp)

theorem graph_Node_check_P5_x (j1 j2 j3 j6 j8 j9 j14 : AV) (H : List Ob) (self : Code → List AV → List Ob → Ko → Prop) (kp : Ko) : awpX Tryz.prog graph_Node_check_ann self graph_Node_check_cut graph_Node_check_c5 ([.top,j1,j2,j3,.top,.top,j6,.top,j8,j9,.top,.top,.top,.top,j14] ++ List.replicate 80 .top) H kp = graph_Node_check_P5 j1 j2 j3 j6 j8 j9 j14 H self kp := by kernel_rfl

theorem graph_Node_check_c5_eq (j0 j1 j2 j3 j4 j5 j6 j7 j8 j9 j10 j11 j12 j13 j14 j15 j16 j17 j18 j19 j20 j21 j22 j23 j24 j25 j26 j27 j28 j29 j30 j31 j32 j33 j34 j35 j36 j37 j38 j39 j40 j41 j42 j43 j44 j45 j46 j47 j48 j49 j50 j51 j52 j53 j54 j55 j56 j57 j58 j59 j60 j61 j62 j63 j64 j65 j66 j67 j68 j69 j70 j71 j72 j73 j74 j75 j76 j77 j78 j79 j80 j81 j82 j83 j84 j85 j86 j87 j88 j89 j90 j91 j92 j93 j94 : AV) (H : List Ob) (kp : Ko) : awp Tryz.prog graph_Node_check_ann graph_Node_check_c5 (keepS [1, 2, 3, 6, 8, 9, 14, 9999] 0 [j0,j1,j2,j3,j4,j5,j6,j7,j8,j9,j10,j11,j12,j13,j14,j15,j16,j17,j18,j19,j20,j21,j22,j23,j24,j25,j26,j27,j28,j29,j30,j31,j32,j33,j34,j35,j36,j37,j38,j39,j40,j41,j42,j43,j44,j45,j46,j47,j48,j49,j50,j51,j52,j53,j54,j55,j56,j57,j58,j59,j60,j61,j62,j63,j64,j65,j66,j67,j68,j69,j70,j71,j72,j73,j74,j75,j76,j77,j78,j79,j80,j81,j82,j83,j84,j85,j86,j87,j88,j89,j90,j91,j92,j93,j94]) H kp = graph_Node_check_P5 j1 j2 j3 j6 j8 j9 j14 H (awp Tryz.prog graph_Node_check_ann) kp :=
  Eq.trans (by kernel_rfl) ((awpX_eq Tryz.prog graph_Node_check_ann graph_Node_check_cut _ _ _ _).symm.trans (graph_Node_check_P5_x j1 j2 j3 j6 j8 j9 j14 H _ kp))

def graph_Node_check_P7 (j1 j2 j3 j6 j9 j29 : AV) (H : List Ob) (self : Code → List AV → List Ob → Ko → Prop) (kp : Ko) : Prop :=
  aGuard j29
  (aBuild [(.p (.int .i64 0)), (.full [])] [] fun v33 =>
  aStore 2 j6 v33 H fun _ h35 =>
  kp .ret [.top,j1,j2,j3,.top,.top,j6,(.p (.int .i64 7)),.top,j9,.top,.top,.top,.top,.top,.top,.top,.top,.top,.top,.top,.top,.top,.top,.top,.top,.top,.top,.top,(.p (.bool true)),.top,.top,.top,.top,.top,.top,.top,.top,v33,.top,.top,.top,.top,.top,.top,.top,.top,.top,.top,.top,.top,.top,.top,.top,.top,.top,.top,.top,.top,.top,.top,.top,.top,.top,.top,.top,.top,.top,.top,.top,.top,.top,.top,.top,.top,.top,.top,.top,.top,.top,.top,.top,.top,.top,.top,.top,.top,.top,.top,.top,.top,.top,.top,.top,.top] h35)
  (aFieldAddr 17 j3 fun v36 =>
  aLoad false 1 v36 H fun v37 =>
  aBin false false .lss v37 (.p (.int .i64 1)) fun v38 =>
  self graph_Node_check_c9 (keepS [1, 2, 3, 6, 9, 39, 9999] 0 [.top,j1,j2,j3,.top,.top,j6,.top,.top,j9,.top,.top,.top,.top,.top,.top,.top,.top,.top,.top,.top,.top,.top,.top,.top,.top,.top,.top,.top,(.p (.bool false)),.top,.top,.top,.top,.top,.top,.top,.top,.top,v38,v36,v37,v38,.top,.top,.top,.top,.top,.top,.top,.top,.top,.top,.top,.top,.top,.top,.top,.top,.top,.top,.top,.top,.top,.top,.top,.top,.top,.top,.top,.top,.top,.top,.top,.top,.top,.top,.top,.top,.top,.top,.top,.top,.top,.top,.top,.top,.top,.top,.top,.top,.top,.top,.top,.top]) H (kSeq self graph_Node_check_c13 [1, 2, 3, 6, 9, 39, 9999] kp))

theorem graph_Node_check_P7_x (j1 j2 j3 j6 j9 j29 : AV) (H : List Ob) (self : Code → List AV → List Ob → Ko → Prop) (kp : Ko) : awpX Tryz.prog graph_Node_check_ann self graph_Node_check_cut graph_Node_check_c7 ([.top,j1,j2,j3,.top,.top,j6,.top,.top,j9] ++ List.replicate 19 .top ++ [j29] ++ List.replicate 65 .top) H kp = graph_Node_check_P7 j1 j2 j3 j6 j9 j29 H self kp := by kernel_rfl

theorem graph_Node_check_c7_eq (j0 j1 j2 j3 j4 j5 j6 j7 j8 j9 j10 j11 j12 j13 j14 j15 j16 j17 j18 j19 j20 j21 j22 j23 j24 j25 j26 j27 j28 j29 j30 j31 j32 j33 j34 j35 j36 j37 j38 j39 j40 j41 j42 j43 j44 j45 j46 j47 j48 j49 j50 j51 j52 j53 j54 j55 j56 j57 j58 j59 j60 j61 j62 j63 j64 j65 j66 j67 j68 j69 j70 j71 j72 j73 j74 j75 j76 j77 j78 j79 j80 j81 j82 j83 j84 j85 j86 j87 j88 j89 j90 j91 j92 j93 j94 : AV) (H : List Ob) (kp : Ko) : awp Tryz.prog graph_Node_check_ann graph_Node_check_c7 (keepS [1, 2, 3, 6, 9, 29, 9999] 0 [j0,j1,j2,j3,j4,j5,j6,j7,j8,j9,j10,j11,j12,j13,j14,j15,j16,j17,j18,j19,j20,j21,j22,j23,j24,j25,j26,j27,j28,j29,j30,j31,j32,j33,j34,j35,j36,j37,j38,j39,j40,j41,j42,j43,j44,j45,j46,j47,j48,j49,j50,j51,j52,j53,j54,j55,j56,j57,j58,j59,j60,j61,j62,j63,j64,j65,j66,j67,j68,j69,j70,j71,j72,j73,j74,j75,j76,j77,j78,j79,j80,j81,j82,j83,j84,j85,j86,j87,j88,j89,j90,j91,j92,j93,j94]) H kp = graph_Node_check_P7 j1 j2 j3 j6 j9 j29 H (awp Tryz.prog graph_Node_check_ann) kp :=
  Eq.trans (by kernel_rfl) ((awpX_eq Tryz.prog graph_Node_check_ann graph_Node_check_cut _ _ _ _).symm.trans (graph_Node_check_P7_x j1 j2 j3 j6 j9 j29 H _ kp))

def graph_Node_check_P9 (j1 j2 j3 j6 j9 j39 : AV) (H : List Ob) (self : Code → List AV → List Ob → Ko → Prop) (kp : Ko) : Prop :=
  aGuard j39
  (kp .normal [.top,j1,j2,j3,.top,.top,j6,.top,.top,j9,.top,.top,.top,.top,.top,.top,.top,.top,.top,.top,.top,.top,.top,.top,.top,.top,.top,.top,.top,.top,.top,.top,.top,.top,.top,.top,.top,.top,.top,(.p (.bool true)),.top,.top,.top,.top,.top,.top,.top,.top,.top,.top,.top,.top,.top,.top,.top,.top,.top,.top,.top,.top,.top,.top,.top,.top,.top,.top,.top,.top,.top,.top,.top,.top,.top,.top,.top,.top,.top,.top,.top,.top,.top,.top,.top,.top,.top,.top,.top,.top,.top,.top,.top,.top,.top,.top,.top] H)
  (aFieldAddr 17 j3 fun v39 =>
  aLoad false 1 v39 H fun v40 =>
  aBin false false .gtr v40 (.p (.int .i64 4)) fun v41 =>
  self graph_Node_check_c10 (keepS [1, 2, 3, 6, 9, 39, 9999] 0 [.top,j1,j2,j3,.top,.top,j6,.top,.top,j9,.top,.top,.top,.top,.top,.top,.top,.top,.top,.top,.top,.top,.top,.top,.top,.top,.top,.top,.top,.top,.top,.top,.top,.top,.top,.top,.top,.top,.top,v41,.top,.top,.top,v39,v40,v41,.top,.top,.top,.top,.top,.top,.top,.top,.top,.top,.top,.top,.top,.top,.top,.top,.top,.top,.top,.top,.top,.top,.top,.top,.top,.top,.top,.top,.top,.top,.top,.top,.top,.top,.top,.top,.top,.top,.top,.top,.top,.top,.top,.top,.top,.top,.top,.top,.top]) H kp)

theorem graph_Node_check_P9_x (j1 j2 j3 j6 j9 j39 : AV) (H : List Ob) (self : Code → List AV → List Ob → Ko → Prop) (kp : Ko) : awpX Tryz.prog graph_Node_check_ann self graph_Node_check_cut graph_Node_check_c9 ([.top,j1,j2,j3,.top,.top,j6,.top,.top,j9] ++ List.replicate 29 .top ++ [j39] ++ List.replicate 55 .top) H kp = graph_Node_check_P9 j1 j2 j3 j6 j9 j39 H self kp := by kernel_rfl

theorem graph_Node_check_c9_eq (j0 j1 j2 j3 j4 j5 j6 j7 j8 j9 j10 j11 j12 j13 j14 j15 j16 j17 j18 j19 j20 j21 j22 j23 j24 j25 j26 j27 j28 j29 j30 j31 j32 j33 j34 j35 j36 j37 j38 j39 j40 j41 j42 j43 j44 j45 j46 j47 j48 j49 j50 j51 j52 j53 j54 j55 j56 j57 j58 j59 j60 j61 j62 j63 j64 j65 j66 j67 j68 j69 j70 j71 j72 j73 j74 j75 j76 j77 j78 j79 j80 j81 j82 j83 j84 j85 j86 j87 j88 j89 j90 j91 j92 j93 j94 : AV) (H : List Ob) (kp : Ko) : awp Tryz.prog graph_Node_check_ann graph_Node_check_c9 (keepS [1, 2, 3, 6, 9, 39, 9999] 0 [j0,j1,j2,j3,j4,j5,j6,j7,j8,j9,j10,j11,j12,j13,j14,j15,j16,j17,j18,j19,j20,j21,j22,j23,j24,j25,j26,j27,j28,j29,j30,j31,j32,j33,j34,j35,j36,j37,j38,j39,j40,j41,j42,j43,j44,j45,j46,j47,j48,j49,j50,j51,j52,j53,j54,j55,j56,j57,j58,j59,j60,j61,j62,j63,j64,j65,j66,j67,j68,j69,j70,j71,j72,j73,j74,j75,j76,j77,j78,j79,j80,j81,j82,j83,j84,j85,j86,j87,j88,j89,j90,j91,j92,j93,j94]) H kp = graph_Node_check_P9 j1 j2 j3 j6 j9 j39 H (awp Tryz.prog graph_Node_check_ann) kp :=
  Eq.trans (by kernel_rfl) ((awpX_eq Tryz.prog graph_Node_check_ann graph_Node_check_cut _ _ _ _).symm.trans (graph_Node_check_P9_x j1 j2 j3 j6 j9 j39 H _ kp))

def graph_Node_check_P10 (j1 j2 j3 j6 j9 j39 : AV) (H : List Ob) (self : Code → List AV → List Ob → Ko → Prop) (kp : Ko) : Prop :=
  aGuard j39
  (kp .normal [.top,j1,j2,j3,.top,.top,j6,.top,.top,j9,.top,.top,.top,.top,.top,.top,.top,.top,.top,.top,.top,.top,.top,.top,.top,.top,.top,.top,.top,.top,.top,.top,.top,.top,.top,.top,.top,.top,.top,(.p (.bool true)),.top,.top,.top,.top,.top,.top,.top,.top,.top,.top,.top,.top,.top,.top,.top,.top,.top,.top,.top,.top,.top,.top,.top,.top,.top,.top,.top,.top,.top,.top,.top,.top,.top,.top,.top,.top,.top,.top,.top,.top,.top,.top,.top,.top,.top,.top,.top,.top,.top,.top,.top,.top,.top,.top,.top] H)
  (aFieldAddr 18 j3 fun v42 =>
  aLoad false 1 v42 H fun v43 =>
  aFieldAddr 17 j3 fun v44 =>
  aLoad false 1 v44 H fun v45 =>
  aBin false false .lss v43 v45 fun v46 =>
  self graph_Node_check_c11 (keepS [1, 2, 3, 6, 9, 39, 9999] 0 [.top,j1,j2,j3,.top,.top,j6,.top,.top,j9,.top,.top,.top,.top,.top,.top,.top,.top,.top,.top,.top,.top,.top,.top,.top,.top,.top,.top,.top,.top,.top,.top,.top,.top,.top,.top,.top,.top,.top,v46,.top,.top,.top,.top,.top,.top,v42,v43,v44,v45,v46,.top,.top,.top,.top,.top,.top,.top,.top,.top,.top,.top,.top,.top,.top,.top,.top,.top,.top,.top,.top,.top,.top,.top,.top,.top,.top,.top,.top,.top,.top,.top,.top,.top,.top,.top,.top,.top,.top,.top,.top,.top,.top,.top,.top]) H kp)

theorem graph_Node_check_P10_x (j1 j2 j3 j6 j9 j39 : AV) (H : List Ob) (self : Code → List AV → List Ob → Ko → Prop) (kp : Ko) : awpX Tryz.prog graph_Node_check_ann self graph_Node_check_cut graph_Node_check_c10 ([.top,j1,j2,j3,.top,.top,j6,.top,.top,j9] ++ List.replicate 29 .top ++ [j39] ++ List.replicate 55 .top) H kp = graph_Node_check_P10 j1 j2 j3 j6 j9 j39 H self kp := by kernel_rfl

theorem graph_Node_check_c10_eq (j0 j1 j2 j3 j4 j5 j6 j7 j8 j9 j10 j11 j12 j13 j14 j15 j16 j17 j18 j19 j20 j21 j22 j23 j24 j25 j26 j27 j28 j29 j30 j31 j32 j33 j34 j35 j36 j37 j38 j39 j40 j41 j42 j43 j44 j45 j46 j47 j48 j49 j50 j51 j52 j53 j54 j55 j56 j57 j58 j59 j60 j61 j62 j63 j64 j65 j66 j67 j68 j69 j70 j71 j72 j73 j74 j75 j76 j77 j78 j79 j80 j81 j82 j83 j84 j85 j86 j87 j88 j89 j90 j91 j92 j93 j94 : AV) (H : List Ob) (kp : Ko) : awp Tryz.prog graph_Node_check_ann graph_Node_check_c10 (keepS [1, 2, 3, 6, 9, 39, 9999] 0 [j0,j1,j2,j3,j4,j5,j6,j7,j8,j9,j10,j11,j12,j13,j14,j15,j16,j17,j18,j19,j20,j21,j22,j23,j24,j25,j26,j27,j28,j29,j30,j31,j32,j33,j34,j35,j36,j37,j38,j39,j40,j41,j42,j43,j44,j45,j46,j47,j48,j49,j50,j51,j52,j53,j54,j55,j56,j57,j58,j59,j60,j61,j62,j63,j64,j65,j66,j67,j68,j69,j70,j71,j72,j73,j74,j75,j76,j77,j78,j79,j80,j81,j82,j83,j84,j85,j86,j87,j88,j89,j90,j91,j92,j93,j94]) H kp = graph_Node_check_P10 j1 j2 j3 j6 j9 j39 H (awp Tryz.prog graph_Node_check_ann) kp :=
  Eq.trans (by kernel_rfl) ((awpX_eq Tryz.prog graph_Node_check_ann graph_Node_check_cut _ _ _ _).symm.trans (graph_Node_check_P10_x j1 j2 j3 j6 j9 j39 H _ kp))

def graph_Node_check_P11 (j1 j2 j3 j6 j9 j39 : AV) (H : List Ob) (self : Code → List AV → List Ob → Ko → Prop) (kp : Ko) : Prop :=
  aGuard j39
  (kp .normal [.top,j1,j2,j3,.top,.top,j6,.top,.top,j9,.top,.top,.top,.top,.top,.top,.top,.top,.top,.top,.top,.top,.top,.top,.top,.top,.top,.top,.top,.top,.top,.top,.top,.top,.top,.top,.top,.top,.top,(.p (.bool true)),.top,.top,.top,.top,.top,.top,.top,.top,.top,.top,.top,.top,.top,.top,.top,.top,.top,.top,.top,.top,.top,.top,.top,.top,.top,.top,.top,.top,.top,.top,.top,.top,.top,.top,.top,.top,.top,.top,.top,.top,.top,.top,.top,.top,.top,.top,.top,.top,.top,.top,.top,.top,.top,.top,.top] H)
  (aFieldAddr 18 j3 fun v47 =>
  aLoad false 1 v47 H fun v48 =>
  aBin false false .gtr v48 (.p (.int .i64 16)) fun v49 =>
  self graph_Node_check_c12 (keepS [1, 2, 3, 6, 9, 39, 9999] 0 [.top,j1,j2,j3,.top,.top,j6,.top,.top,j9,.top,.top,.top,.top,.top,.top,.top,.top,.top,.top,.top,.top,.top,.top,.top,.top,.top,.top,.top,.top,.top,.top,.top,.top,.top,.top,.top,.top,.top,v49,.top,.top,.top,.top,.top,.top,.top,.top,.top,.top,.top,v47,v48,v49,.top,.top,.top,.top,.top,.top,.top,.top,.top,.top,.top,.top,.top,.top,.top,.top,.top,.top,.top,.top,.top,.top,.top,.top,.top,.top,.top,.top,.top,.top,.top,.top,.top,.top,.top,.top,.top,.top,.top,.top,.top]) H kp)

theorem graph_Node_check_P11_x (j1 j2 j3 j6 j9 j39 : AV) (H : List Ob) (self : Code → List AV → List Ob → Ko → Prop) (kp : Ko) : awpX Tryz.prog graph_Node_check_ann self graph_Node_check_cut graph_Node_check_c11 ([.top,j1,j2,j3,.top,.top,j6,.top,.top,j9] ++ List.replicate 29 .top ++ [j39] ++ List.replicate 55 .top) H kp = graph_Node_check_P11 j1 j2 j3 j6 j9 j39 H self kp := by kernel_rfl

theorem graph_Node_check_c11_eq (j0 j1 j2 j3 j4 j5 j6 j7 j8 j9 j10 j11 j12 j13 j14 j15 j16 j17 j18 j19 j20 j21 j22 j23 j24 j25 j26 j27 j28 j29 j30 j31 j32 j33 j34 j35 j36 j37 j38 j39 j40 j41 j42 j43 j44 j45 j46 j47 j48 j49 j50 j51 j52 j53 j54 j55 j56 j57 j58 j59 j60 j61 j62 j63 j64 j65 j66 j67 j68 j69 j70 j71 j72 j73 j74 j75 j76 j77 j78 j79 j80 j81 j82 j83 j84 j85 j86 j87 j88 j89 j90 j91 j92 j93 j94 : AV) (H : List Ob) (kp : Ko) : awp Tryz.prog graph_Node_check_ann graph_Node_check_c11 (keepS [1, 2, 3, 6, 9, 39, 9999] 0 [j0,j1,j2,j3,j4,j5,j6,j7,j8,j9,j10,j11,j12,j13,j14,j15,j16,j17,j18,j19,j20,j21,j22,j23,j24,j25,j26,j27,j28,j29,j30,j31,j32,j33,j34,j35,j36,j37,j38,j39,j40,j41,j42,j43,j44,j45,j46,j47,j48,j49,j50,j51,j52,j53,j54,j55,j56,j57,j58,j59,j60,j61,j62,j63,j64,j65,j66,j67,j68,j69,j70,j71,j72,j73,j74,j75,j76,j77,j78,j79,j80,j81,j82,j83,j84,j85,j86,j87,j88,j89,j90,j91,j92,j93,j94]) H kp = graph_Node_check_P11 j1 j2 j3 j6 j9 j39 H (awp Tryz.prog graph_Node_check_ann) kp :=
  Eq.trans (by kernel_rfl) ((awpX_eq Tryz.prog graph_Node_check_ann graph_Node_check_cut _ _ _ _).symm.trans (graph_Node_check_P11_x j1 j2 j3 j6 j9 j39 H _ kp))

def graph_Node_check_P12 (j1 j2 j3 j6 j9 j39 : AV) (H : List Ob) (_ : Code → List AV → List Ob → Ko → Prop) (kp : Ko) : Prop :=
  aGuard j39
  (kp .normal [.top,j1,j2,j3,.top,.top,j6,.top,.top,j9,.top,.top,.top,.top,.top,.top,.top,.top,.top,.top,.top,.top,.top,.top,.top,.top,.top,.top,.top,.top,.top,.top,.top,.top,.top,.top,.top,.top,.top,(.p (.bool true)),.top,.top,.top,.top,.top,.top,.top,.top,.top,.top,.top,.top,.top,.top,.top,.top,.top,.top,.top,.top,.top,.top,.top,.top,.top,.top,.top,.top,.top,.top,.top,.top,.top,.top,.top,.top,.top,.top,.top,.top,.top,.top,.top,.top,.top,.top,.top,.top,.top,.top,.top,.top,.top,.top,.top] H)
  (aLoad true 21 j3 H fun v50 =>
  aCall Tryz.prog (.p (.func graph_Node_ins_i [])) [v50, j1] H fun v51 h52 =>
  aUn .not v51 fun v53 =>
  kp .normal [.top,j1,j2,j3,.top,.top,j6,.top,.top,j9,.top,.top,.top,.top,.top,.top,.top,.top,.top,.top,.top,.top,.top,.top,.top,.top,.top,.top,.top,.top,.top,.top,.top,.top,.top,.top,.top,.top,.top,v53,.top,.top,.top,.top,.top,.top,.top,.top,.top,.top,.top,.top,.top,.top,v50,j1,v51,v53,.top,.top,.top,.top,.top,.top,.top,.top,.top,.top,.top,.top,.top,.top,.top,.top,.top,.top,.top,.top,.top,.top,.top,.top,.top,.top,.top,.top,.top,.top,.top,.top,.top,.top,.top,.top,.top] h52)

theorem graph_Node_check_P12_x (j1 j2 j3 j6 j9 j39 : AV) (H : List Ob) (self : Code → List AV → List Ob → Ko → Prop) (kp : Ko) : awpX Tryz.prog graph_Node_check_ann self graph_Node_check_cut graph_Node_check_c12 ([.top,j1,j2,j3,.top,.top,j6,.top,.top,j9] ++ List.replicate 29 .top ++ [j39] ++ List.replicate 55 .top) H kp = graph_Node_check_P12 j1 j2 j3 j6 j9 j39 H self kp := by kernel_rfl

theorem graph_Node_check_c12_eq (j0 j1 j2 j3 j4 j5 j6 j7 j8 j9 j10 j11 j12 j13 j14 j15 j16 j17 j18 j19 j20 j21 j22 j23 j24 j25 j26 j27 j28 j29 j30 j31 j32 j33 j34 j35 j36 j37 j38 j39 j40 j41 j42 j43 j44 j45 j46 j47 j48 j49 j50 j51 j52 j53 j54 j55 j56 j57 j58 j59 j60 j61 j62 j63 j64 j65 j66 j67 j68 j69 j70 j71 j72 j73 j74 j75 j76 j77 j78 j79 j80 j81 j82 j83 j84 j85 j86 j87 j88 j89 j90 j91 j92 j93 j94 : AV) (H : List Ob) (kp : Ko) : awp Tryz.prog graph_Node_check_ann graph_Node_check_c12 (keepS [1, 2, 3, 6, 9, 39, 9999] 0 [j0,j1,j2,j3,j4,j5,j6,j7,j8,j9,j10,j11,j12,j13,j14,j15,j16,j17,j18,j19,j20,j21,j22,j23,j24,j25,j26,j27,j28,j29,j30,j31,j32,j33,j34,j35,j36,j37,j38,j39,j40,j41,j42,j43,j44,j45,j46,j47,j48,j49,j50,j51,j52,j53,j54,j55,j56,j57,j58,j59,j60,j61,j62,j63,j64,j65,j66,j67,j68,j69,j70,j71,j72,j73,j74,j75,j76,j77,j78,j79,j80,j81,j82,j83,j84,j85,j86,j87,j88,j89,j90,j91,j92,j93,j94]) H kp = graph_Node_check_P12 j1 j2 j3 j6 j9 j39 H (awp Tryz.prog graph_Node_check_ann) kp :=
  Eq.trans (by kernel_rfl) ((awpX_eq Tryz.prog graph_Node_check_ann graph_Node_check_cut _ _ _ _).symm.trans (graph_Node_check_P12_x j1 j2 j3 j6 j9 j39 H _ kp))

def graph_Node_check_P13 (j1 j2 j3 j6 j9 j39 : AV) (H : List Ob) (_ : Code → List AV → List Ob → Ko → Prop) (kp : Ko) : Prop :=
  aGuard j39
  (aBuild [(.p (.int .i64 0)), (.full [])] [] fun v54 =>
  aStore 2 j6 v54 H fun _ h56 =>
  kp .ret [.top,j1,j2,j3,.top,.top,j6,(.p (.int .i64 1)),.top,j9,.top,.top,.top,.top,.top,.top,.top,.top,.top,.top,.top,.top,.top,.top,.top,.top,.top,.top,.top,.top,.top,.top,.top,.top,.top,.top,.top,.top,.top,(.p (.bool true)),.top,.top,.top,.top,.top,.top,.top,.top,.top,.top,.top,.top,.top,.top,.top,.top,.top,.top,v54,.top,.top,.top,.top,.top,.top,.top,.top,.top,.top,.top,.top,.top,.top,.top,.top,.top,.top,.top,.top,.top,.top,.top,.top,.top,.top,.top,.top,.top,.top,.top,.top,.top,.top,.top,.top] h56)
  (kp .normal [.top,j1,j2,j3,.top,.top,j6,.top,.top,j9,.top,.top,.top,.top,.top,.top,.top,.top,.top,.top,.top,.top,.top,.top,.top,.top,.top,.top,.top,.top,.top,.top,.top,.top,.top,.top,.top,.top,.top,(.p (.bool false)),.top,.top,.top,.top,.top,.top,.top,.top,.top,.top,.top,.top,.top,.top,.top,.top,.top,.top,.top,.top,.top,.top,.top,.top,.top,.top,.top,.top,.top,.top,.top,.top,.top,.top,.top,.top,.top,.top,.top,.top,.top,.top,.top,.top,.top,.top,.top,.top,.top,.top,.top,.top,.top,.top,.top] H)

theorem graph_Node_check_P13_x (j1 j2 j3 j6 j9 j39 : AV) (H : List Ob) (self : Code → List AV → List Ob → Ko → Prop) (kp : Ko) : awpX Tryz.prog graph_Node_check_ann self graph_Node_check_cut graph_Node_check_c13 ([.top,j1,j2,j3,.top,.top,j6,.top,.top,j9] ++ List.replicate 29 .top ++ [j39] ++ List.replicate 55 .top) H kp = graph_Node_check_P13 j1 j2 j3 j6 j9 j39 H self kp := by kernel_rfl

theorem graph_Node_check_c13_eq (j0 j1 j2 j3 j4 j5 j6 j7 j8 j9 j10 j11 j12 j13 j14 j15 j16 j17 j18 j19 j20 j21 j22 j23 j24 j25 j26 j27 j28 j29 j30 j31 j32 j33 j34 j35 j36 j37 j38 j39 j40 j41 j42 j43 j44 j45 j46 j47 j48 j49 j50 j51 j52 j53 j54 j55 j56 j57 j58 j59 j60 j61 j62 j63 j64 j65 j66 j67 j68 j69 j70 j71 j72 j73 j74 j75 j76 j77 j78 j79 j80 j81 j82 j83 j84 j85 j86 j87 j88 j89 j90 j91 j92 j93 j94 : AV) (H : List Ob) (kp : Ko) : awp Tryz.prog graph_Node_check_ann graph_Node_check_c13 (keepS [1, 2, 3, 6, 9, 39, 9999] 0 [j0,j1,j2,j3,j4,j5,j6,j7,j8,j9,j10,j11,j12,j13,j14,j15,j16,j17,j18,j19,j20,j21,j22,j23,j24,j25,j26,j27,j28,j29,j30,j31,j32,j33,j34,j35,j36,j37,j38,j39,j40,j41,j42,j43,j44,j45,j46,j47,j48,j49,j50,j51,j52,j53,j54,j55,j56,j57,j58,j59,j60,j61,j62,j63,j64,j65,j66,j67,j68,j69,j70,j71,j72,j73,j74,j75,j76,j77,j78,j79,j80,j81,j82,j83,j84,j85,j86,j87,j88,j89,j90,j91,j92,j93,j94]) H kp = graph_Node_check_P13 j1 j2 j3 j6 j9 j39 H (awp Tryz.prog graph_Node_check_ann) kp :=
  Eq.trans (by kernel_rfl) ((awpX_eq Tryz.prog graph_Node_check_ann graph_Node_check_cut _ _ _ _).symm.trans (graph_Node_check_P13_x j1 j2 j3 j6 j9 j39 H _ kp))

def graph_Node_check_P14 (j1 j2 j3 j6 j9 : AV) (H : List Ob) (self : Code → List AV → List Ob → Ko → Prop) (kp : Ko) : Prop :=
  aAlloc [(.p (.int .i64 0)), (.full [])] H fun v57 h58 =>
  aFieldAddr 1 j3 fun v59 =>
  aLoad true 15 v59 h58 fun v60 =>
  aFieldAddr 16 j3 fun v61 =>
  aLoad false 1 v61 h58 fun v62 =>
  aCallT Tryz.prog (.p (.func graph_of_i [])) [j2, v62] fun v63 =>
  aCallT Tryz.prog (.p (.func op_Out_i [])) [v60, v63] fun v64 =>
  aExtract v64 0 fun v65 =>
  aExtract v64 1 fun v66 =>
  aStore 2 v57 v65 h58 fun _ h68 =>
  self graph_Node_check_c15 (keepS [1, 3, 6, 9, 10, 11, 9999] 0 [.top,j1,j2,j3,.top,.top,j6,.top,.top,j9,v57,v66,.top,.top,.top,.top,.top,.top,.top,.top,.top,.top,.top,.top,.top,.top,.top,.top,.top,.top,.top,.top,.top,.top,.top,.top,.top,.top,.top,.top,.top,.top,.top,.top,.top,.top,.top,.top,.top,.top,.top,.top,.top,.top,.top,.top,.top,.top,.top,v64,v59,v60,j2,v61,v62,v63,v64,v65,v66,.top,.top,.top,.top,.top,.top,.top,.top,.top,.top,.top,.top,.top,.top,.top,.top,.top,.top,.top,.top,.top,.top,.top,.top,.top,.top]) h68 kp

theorem graph_Node_check_P14_x (j1 j2 j3 j6 j9 : AV) (H : List Ob) (self : Code → List AV → List Ob → Ko → Prop) (kp : Ko) : awpX Tryz.prog graph_Node_check_ann self graph_Node_check_cut graph_Node_check_c14 ([.top,j1,j2,j3,.top,.top,j6,.top,.top,j9] ++ List.replicate 85 .top) H kp = graph_Node_check_P14 j1 j2 j3 j6 j9 H self kp := by kernel_rfl

theorem graph_Node_check_c14_eq (j0 j1 j2 j3 j4 j5 j6 j7 j8 j9 j10 j11 j12 j13 j14 j15 j16 j17 j18 j19 j20 j21 j22 j23 j24 j25 j26 j27 j28 j29 j30 j31 j32 j33 j34 j35 j36 j37 j38 j39 j40 j41 j42 j43 j44 j45 j46 j47 j48 j49 j50 j51 j52 j53 j54 j55 j56 j57 j58 j59 j60 j61 j62 j63 j64 j65 j66 j67 j68 j69 j70 j71 j72 j73 j74 j75 j76 j77 j78 j79 j80 j81 j82 j83 j84 j85 j86 j87 j88 j89 j90 j91 j92 j93 j94 : AV) (H : List Ob) (kp : Ko) : awp Tryz.prog graph_Node_check_ann graph_Node_check_c14 (keepS [1, 2, 3, 6, 9, 9999] 0 [j0,j1,j2,j3,j4,j5,j6,j7,j8,j9,j10,j11,j12,j13,j14,j15,j16,j17,j18,j19,j20,j21,j22,j23,j24,j25,j26,j27,j28,j29,j30,j31,j32,j33,j34,j35,j36,j37,j38,j39,j40,j41,j42,j43,j44,j45,j46,j47,j48,j49,j50,j51,j52,j53,j54,j55,j56,j57,j58,j59,j60,j61,j62,j63,j64,j65,j66,j67,j68,j69,j70,j71,j72,j73,j74,j75,j76,j77,j78,j79,j80,j81,j82,j83,j84,j85,j86,j87,j88,j89,j90,j91,j92,j93,j94]) H kp = graph_Node_check_P14 j1 j2 j3 j6 j9 H (awp Tryz.prog graph_Node_check_ann) kp :=
  Eq.trans (by kernel_rfl) ((awpX_eq Tryz.prog graph_Node_check_ann graph_Node_check_cut _ _ _ _).symm.trans (graph_Node_check_P14_x j1 j2 j3 j6 j9 H _ kp))

def graph_Node_check_P15 (j1 j3 j6 j9 j10 j11 : AV) (H : List Ob) (self : Code → List AV → List Ob → Ko → Prop) (kp : Ko) : Prop :=
  aBin false false .eql j11 (.p (.int .i64 0)) fun v69 =>
  (aGuard v69
  ((aCall Tryz.prog (.p (.func slices_Clone_graph_Graph_graph_Node_i [])) [j1] H fun v70 h71 =>
  aLoad true 21 j3 h71 fun v72 =>
  aBuildSlice 21 [v72] fun v73 =>
  aAppend false 21 288 v70 v73 h71 fun v74 h75 =>
  aCall Tryz.prog (.p (.func graph_weight_i [])) [v74] h75 fun v76 h77 =>
  aBin false false .gtr v76 (.p (.int .i64 64)) fun v78 =>
  aGuard v78
  (self graph_Node_check_c17 (keepS [1, 3, 6, 9, 10, 11, 9999] 0 [.top,j1,.top,j3,.top,.top,j6,.top,.top,j9,j10,(.p (.int .i64 10)),.top,.top,.top,.top,.top,.top,.top,.top,.top,.top,.top,.top,.top,.top,.top,.top,.top,.top,.top,.top,.top,.top,.top,.top,.top,.top,.top,.top,.top,.top,.top,.top,.top,.top,.top,.top,.top,.top,.top,.top,.top,.top,.top,.top,.top,.top,.top,.top,.top,.top,.top,.top,.top,.top,.top,.top,.top,j11,v69,(.p (.bool true)),j1,v70,v72,v73,v74,v76,v78,(.p (.bool true)),.top,.top,.top,.top,.top,.top,.top,.top,.top,.top,.top,.top,.top,.top,.top]) h77 kp)
  (self graph_Node_check_c17 (keepS [1, 3, 6, 9, 10, 11, 9999] 0 [.top,j1,.top,j3,.top,.top,j6,.top,.top,j9,j10,j11,.top,.top,.top,.top,.top,.top,.top,.top,.top,.top,.top,.top,.top,.top,.top,.top,.top,.top,.top,.top,.top,.top,.top,.top,.top,.top,.top,.top,.top,.top,.top,.top,.top,.top,.top,.top,.top,.top,.top,.top,.top,.top,.top,.top,.top,.top,.top,.top,.top,.top,.top,.top,.top,.top,.top,.top,.top,j11,v69,(.p (.bool true)),j1,v70,v72,v73,v74,v76,v78,(.p (.bool false)),.top,.top,.top,.top,.top,.top,.top,.top,.top,.top,.top,.top,.top,.top,.top]) h77 kp)) ∧
  (aLoad true 21 j3 H fun v79 =>
  (aCall Tryz.prog (.p (.func slices_Clone_graph_Graph_graph_Node_i [])) [j1] H fun v80 h81 =>
  aBuildSlice 21 [v79] fun v82 =>
  aAppend false 21 288 v80 v82 h81 fun v83 h84 =>
  aCall Tryz.prog (.p (.func graph_weight_i [])) [v83] h84 fun v85 h86 =>
  aBin false false .gtr v85 (.p (.int .i64 64)) fun v87 =>
  aGuard v87
  (self graph_Node_check_c17 (keepS [1, 3, 6, 9, 10, 11, 9999] 0 [.top,j1,.top,j3,.top,.top,j6,.top,.top,j9,j10,(.p (.int .i64 10)),.top,.top,.top,.top,.top,.top,.top,.top,.top,.top,.top,.top,.top,.top,.top,.top,.top,.top,.top,.top,.top,.top,.top,.top,.top,.top,.top,.top,.top,.top,.top,.top,.top,.top,.top,.top,.top,.top,.top,.top,.top,.top,.top,.top,.top,.top,.top,.top,.top,.top,.top,.top,.top,.top,.top,.top,.top,j11,v69,(.p (.bool true)),j1,v80,v79,v82,v83,v85,v87,(.p (.bool true)),.top,.top,.top,.top,.top,.top,.top,.top,.top,.top,.top,.top,.top,.top,.top]) h86 kp)
  (self graph_Node_check_c17 (keepS [1, 3, 6, 9, 10, 11, 9999] 0 [.top,j1,.top,j3,.top,.top,j6,.top,.top,j9,j10,j11,.top,.top,.top,.top,.top,.top,.top,.top,.top,.top,.top,.top,.top,.top,.top,.top,.top,.top,.top,.top,.top,.top,.top,.top,.top,.top,.top,.top,.top,.top,.top,.top,.top,.top,.top,.top,.top,.top,.top,.top,.top,.top,.top,.top,.top,.top,.top,.top,.top,.top,.top,.top,.top,.top,.top,.top,.top,j11,v69,(.p (.bool true)),j1,v80,v79,v82,v83,v85,v87,(.p (.bool false)),.top,.top,.top,.top,.top,.top,.top,.top,.top,.top,.top,.top,.top,.top,.top]) h86 kp)) ∧
  (aBuildSlice 21 [v79] fun v88 =>
  aCall Tryz.prog (.p (.func slices_Clone_graph_Graph_graph_Node_i [])) [j1] H fun v89 h90 =>
  aAppend false 21 288 v89 v88 h90 fun v91 h92 =>
  aCall Tryz.prog (.p (.func graph_weight_i [])) [v91] h92 fun v93 h94 =>
  aBin false false .gtr v93 (.p (.int .i64 64)) fun v95 =>
  aGuard v95
  (self graph_Node_check_c17 (keepS [1, 3, 6, 9, 10, 11, 9999] 0 [.top,j1,.top,j3,.top,.top,j6,.top,.top,j9,j10,(.p (.int .i64 10)),.top,.top,.top,.top,.top,.top,.top,.top,.top,.top,.top,.top,.top,.top,.top,.top,.top,.top,.top,.top,.top,.top,.top,.top,.top,.top,.top,.top,.top,.top,.top,.top,.top,.top,.top,.top,.top,.top,.top,.top,.top,.top,.top,.top,.top,.top,.top,.top,.top,.top,.top,.top,.top,.top,.top,.top,.top,j11,v69,(.p (.bool true)),j1,v89,v79,v88,v91,v93,v95,(.p (.bool true)),.top,.top,.top,.top,.top,.top,.top,.top,.top,.top,.top,.top,.top,.top,.top]) h94 kp)
  (self graph_Node_check_c17 (keepS [1, 3, 6, 9, 10, 11, 9999] 0 [.top,j1,.top,j3,.top,.top,j6,.top,.top,j9,j10,j11,.top,.top,.top,.top,.top,.top,.top,.top,.top,.top,.top,.top,.top,.top,.top,.top,.top,.top,.top,.top,.top,.top,.top,.top,.top,.top,.top,.top,.top,.top,.top,.top,.top,.top,.top,.top,.top,.top,.top,.top,.top,.top,.top,.top,.top,.top,.top,.top,.top,.top,.top,.top,.top,.top,.top,.top,.top,j11,v69,(.p (.bool true)),j1,v89,v79,v88,v91,v93,v95,(.p (.bool false)),.top,.top,.top,.top,.top,.top,.top,.top,.top,.top,.top,.top,.top,.top,.top]) h94 kp))))
  ((self graph_Node_check_c17 (keepS [1, 3, 6, 9, 10, 11, 9999] 0 [.top,j1,.top,j3,.top,.top,j6,.top,.top,j9,j10,j11,.top,.top,.top,.top,.top,.top,.top,.top,.top,.top,.top,.top,.top,.top,.top,.top,.top,.top,.top,.top,.top,.top,.top,.top,.top,.top,.top,.top,.top,.top,.top,.top,.top,.top,.top,.top,.top,.top,.top,.top,.top,.top,.top,.top,.top,.top,.top,.top,.top,.top,.top,.top,.top,.top,.top,.top,.top,j11,v69,(.p (.bool false)),(.tup []),(.tup []),(.tup []),(.tup []),(.tup []),(.tup []),(.tup []),(.p (.bool false)),.top,.top,.top,.top,.top,.top,.top,.top,.top,.top,.top,.top,.top,.top,.top]) H kp) ∧
  ((self graph_Node_check_c17 (keepS [1, 3, 6, 9, 10, 11, 9999] 0 [.top,j1,.top,j3,.top,.top,j6,.top,.top,j9,j10,j11,.top,.top,.top,.top,.top,.top,.top,.top,.top,.top,.top,.top,.top,.top,.top,.top,.top,.top,.top,.top,.top,.top,.top,.top,.top,.top,.top,.top,.top,.top,.top,.top,.top,.top,.top,.top,.top,.top,.top,.top,.top,.top,.top,.top,.top,.top,.top,.top,.top,.top,.top,.top,.top,.top,.top,.top,.top,j11,v69,(.p (.bool false)),(.tup []),(.tup []),(.tup []),(.tup []),(.tup []),(.tup []),(.tup []),(.p (.bool false)),.top,.top,.top,.top,.top,.top,.top,.top,.top,.top,.top,.top,.top,.top,.top]) H kp) ∧
  (self graph_Node_check_c17 (keepS [1, 3, 6, 9, 10, 11, 9999] 0 [.top,j1,.top,j3,.top,.top,j6,.top,.top,j9,j10,j11,.top,.top,.top,.top,.top,.top,.top,.top,.top,.top,.top,.top,.top,.top,.top,.top,.top,.top,.top,.top,.top,.top,.top,.top,.top,.top,.top,.top,.top,.top,.top,.top,.top,.top,.top,.top,.top,.top,.top,.top,.top,.top,.top,.top,.top,.top,.top,.top,.top,.top,.top,.top,.top,.top,.top,.top,.top,j11,v69,(.p (.bool false)),(.tup []),(.tup []),(.tup []),(.tup []),(.tup []),(.tup []),(.tup []),(.p (.bool false)),.top,.top,.top,.top,.top,.top,.top,.top,.top,.top,.top,.top,.top,.top,.top]) H kp)))) ∧
  (aGuard v69
  (aLoad true 21 j3 H fun v96 =>
  ((aCall Tryz.prog (.p (.func slices_Clone_graph_Graph_graph_Node_i [])) [j1] H fun v97 h98 =>
  aBuildSlice 21 [v96] fun v99 =>
  aAppend false 21 288 v97 v99 h98 fun v100 h101 =>
  aCall Tryz.prog (.p (.func graph_weight_i [])) [v100] h101 fun v102 h103 =>
  aBin false false .gtr v102 (.p (.int .i64 64)) fun v104 =>
  aGuard v104
  (self graph_Node_check_c17 (keepS [1, 3, 6, 9, 10, 11, 9999] 0 [.top,j1,.top,j3,.top,.top,j6,.top,.top,j9,j10,(.p (.int .i64 10)),.top,.top,.top,.top,.top,.top,.top,.top,.top,.top,.top,.top,.top,.top,.top,.top,.top,.top,.top,.top,.top,.top,.top,.top,.top,.top,.top,.top,.top,.top,.top,.top,.top,.top,.top,.top,.top,.top,.top,.top,.top,.top,.top,.top,.top,.top,.top,.top,.top,.top,.top,.top,.top,.top,.top,.top,.top,j11,v69,(.p (.bool true)),j1,v97,v96,v99,v100,v102,v104,(.p (.bool true)),.top,.top,.top,.top,.top,.top,.top,.top,.top,.top,.top,.top,.top,.top,.top]) h103 kp)
  (self graph_Node_check_c17 (keepS [1, 3, 6, 9, 10, 11, 9999] 0 [.top,j1,.top,j3,.top,.top,j6,.top,.top,j9,j10,j11,.top,.top,.top,.top,.top,.top,.top,.top,.top,.top,.top,.top,.top,.top,.top,.top,.top,.top,.top,.top,.top,.top,.top,.top,.top,.top,.top,.top,.top,.top,.top,.top,.top,.top,.top,.top,.top,.top,.top,.top,.top,.top,.top,.top,.top,.top,.top,.top,.top,.top,.top,.top,.top,.top,.top,.top,.top,j11,v69,(.p (.bool true)),j1,v97,v96,v99,v100,v102,v104,(.p (.bool false)),.top,.top,.top,.top,.top,.top,.top,.top,.top,.top,.top,.top,.top,.top,.top]) h103 kp)) ∧
  (aBuildSlice 21 [v96] fun v105 =>
  aCall Tryz.prog (.p (.func slices_Clone_graph_Graph_graph_Node_i [])) [j1] H fun v106 h107 =>
  aAppend false 21 288 v106 v105 h107 fun v108 h109 =>
  aCall Tryz.prog (.p (.func graph_weight_i [])) [v108] h109 fun v110 h111 =>
  aBin false false .gtr v110 (.p (.int .i64 64)) fun v112 =>
  aGuard v112
  (self graph_Node_check_c17 (keepS [1, 3, 6, 9, 10, 11, 9999] 0 [.top,j1,.top,j3,.top,.top,j6,.top,.top,j9,j10,(.p (.int .i64 10)),.top,.top,.top,.top,.top,.top,.top,.top,.top,.top,.top,.top,.top,.top,.top,.top,.top,.top,.top,.top,.top,.top,.top,.top,.top,.top,.top,.top,.top,.top,.top,.top,.top,.top,.top,.top,.top,.top,.top,.top,.top,.top,.top,.top,.top,.top,.top,.top,.top,.top,.top,.top,.top,.top,.top,.top,.top,j11,v69,(.p (.bool true)),j1,v106,v96,v105,v108,v110,v112,(.p (.bool true)),.top,.top,.top,.top,.top,.top,.top,.top,.top,.top,.top,.top,.top,.top,.top]) h111 kp)
  (self graph_Node_check_c17 (keepS [1, 3, 6, 9, 10, 11, 9999] 0 [.top,j1,.top,j3,.top,.top,j6,.top,.top,j9,j10,j11,.top,.top,.top,.top,.top,.top,.top,.top,.top,.top,.top,.top,.top,.top,.top,.top,.top,.top,.top,.top,.top,.top,.top,.top,.top,.top,.top,.top,.top,.top,.top,.top,.top,.top,.top,.top,.top,.top,.top,.top,.top,.top,.top,.top,.top,.top,.top,.top,.top,.top,.top,.top,.top,.top,.top,.top,.top,j11,v69,(.p (.bool true)),j1,v106,v96,v105,v108,v110,v112,(.p (.bool false)),.top,.top,.top,.top,.top,.top,.top,.top,.top,.top,.top,.top,.top,.top,.top]) h111 kp))) ∧
  (aBuildSlice 21 [v96] fun v113 =>
  aCall Tryz.prog (.p (.func slices_Clone_graph_Graph_graph_Node_i [])) [j1] H fun v114 h115 =>
  aAppend false 21 288 v114 v113 h115 fun v116 h117 =>
  aCall Tryz.prog (.p (.func graph_weight_i [])) [v116] h117 fun v118 h119 =>
  aBin false false .gtr v118 (.p (.int .i64 64)) fun v120 =>
  aGuard v120
  (self graph_Node_check_c17 (keepS [1, 3, 6, 9, 10, 11, 9999] 0 [.top,j1,.top,j3,.top,.top,j6,.top,.top,j9,j10,(.p (.int .i64 10)),.top,.top,.top,.top,.top,.top,.top,.top,.top,.top,.top,.top,.top,.top,.top,.top,.top,.top,.top,.top,.top,.top,.top,.top,.top,.top,.top,.top,.top,.top,.top,.top,.top,.top,.top,.top,.top,.top,.top,.top,.top,.top,.top,.top,.top,.top,.top,.top,.top,.top,.top,.top,.top,.top,.top,.top,.top,j11,v69,(.p (.bool true)),j1,v114,v96,v113,v116,v118,v120,(.p (.bool true)),.top,.top,.top,.top,.top,.top,.top,.top,.top,.top,.top,.top,.top,.top,.top]) h119 kp)
  (self graph_Node_check_c17 (keepS [1, 3, 6, 9, 10, 11, 9999] 0 [.top,j1,.top,j3,.top,.top,j6,.top,.top,j9,j10,j11,.top,.top,.top,.top,.top,.top,.top,.top,.top,.top,.top,.top,.top,.top,.top,.top,.top,.top,.top,.top,.top,.top,.top,.top,.top,.top,.top,.top,.top,.top,.top,.top,.top,.top,.top,.top,.top,.top,.top,.top,.top,.top,.top,.top,.top,.top,.top,.top,.top,.top,.top,.top,.top,.top,.top,.top,.top,j11,v69,(.p (.bool true)),j1,v114,v96,v113,v116,v118,v120,(.p (.bool false)),.top,.top,.top,.top,.top,.top,.top,.top,.top,.top,.top,.top,.top,.top,.top]) h119 kp)))
  (((self graph_Node_check_c17 (keepS [1, 3, 6, 9, 10, 11, 9999] 0 [.top,j1,.top,j3,.top,.top,j6,.top,.top,j9,j10,j11,.top,.top,.top,.top,.top,.top,.top,.top,.top,.top,.top,.top,.top,.top,.top,.top,.top,.top,.top,.top,.top,.top,.top,.top,.top,.top,.top,.top,.top,.top,.top,.top,.top,.top,.top,.top,.top,.top,.top,.top,.top,.top,.top,.top,.top,.top,.top,.top,.top,.top,.top,.top,.top,.top,.top,.top,.top,j11,v69,(.p (.bool false)),(.tup []),(.tup []),(.tup []),(.tup []),(.tup []),(.tup []),(.tup []),(.p (.bool false)),.top,.top,.top,.top,.top,.top,.top,.top,.top,.top,.top,.top,.top,.top,.top]) H kp) ∧
  (self graph_Node_check_c17 (keepS [1, 3, 6, 9, 10, 11, 9999] 0 [.top,j1,.top,j3,.top,.top,j6,.top,.top,j9,j10,j11,.top,.top,.top,.top,.top,.top,.top,.top,.top,.top,.top,.top,.top,.top,.top,.top,.top,.top,.top,.top,.top,.top,.top,.top,.top,.top,.top,.top,.top,.top,.top,.top,.top,.top,.top,.top,.top,.top,.top,.top,.top,.top,.top,.top,.top,.top,.top,.top,.top,.top,.top,.top,.top,.top,.top,.top,.top,j11,v69,(.p (.bool false)),(.tup []),(.tup []),(.tup []),(.tup []),(.tup []),(.tup []),(.tup []),(.p (.bool false)),.top,.top,.top,.top,.top,.top,.top,.top,.top,.top,.top,.top,.top,.top,.top]) H kp)) ∧
  (self graph_Node_check_c17 (keepS [1, 3, 6, 9, 10, 11, 9999] 0 [.top,j1,.top,j3,.top,.top,j6,.top,.top,j9,j10,j11,.top,.top,.top,.top,.top,.top,.top,.top,.top,.top,.top,.top,.top,.top,.top,.top,.top,.top,.top,.top,.top,.top,.top,.top,.top,.top,.top,.top,.top,.top,.top,.top,.top,.top,.top,.top,.top,.top,.top,.top,.top,.top,.top,.top,.top,.top,.top,.top,.top,.top,.top,.top,.top,.top,.top,.top,.top,j11,v69,(.p (.bool false)),(.tup []),(.tup []),(.tup []),(.tup []),(.tup []),(.tup []),(.tup []),(.p (.bool false)),.top,.top,.top,.top,.top,.top,.top,.top,.top,.top,.top,.top,.top,.top,.top]) H kp)))

theorem graph_Node_check_P15_x (j1 j3 j6 j9 j10 j11 : AV) (H : List Ob) (self : Code → List AV → List Ob → Ko → Prop) (kp : Ko) : awpX Tryz.prog graph_Node_check_ann self graph_Node_check_cut graph_Node_check_c15 ([.top,j1,.top,j3,.top,.top,j6,.top,.top,j9,j10,j11] ++ List.replicate 83 .top) H kp = graph_Node_check_P15 j1 j3 j6 j9 j10 j11 H self kp := by kernel_rfl

theorem graph_Node_check_c15_eq (j0 j1 j2 j3 j4 j5 j6 j7 j8 j9 j10 j11 j12 j13 j14 j15 j16 j17 j18 j19 j20 j21 j22 j23 j24 j25 j26 j27 j28 j29 j30 j31 j32 j33 j34 j35 j36 j37 j38 j39 j40 j41 j42 j43 j44 j45 j46 j47 j48 j49 j50 j51 j52 j53 j54 j55 j56 j57 j58 j59 j60 j61 j62 j63 j64 j65 j66 j67 j68 j69 j70 j71 j72 j73 j74 j75 j76 j77 j78 j79 j80 j81 j82 j83 j84 j85 j86 j87 j88 j89 j90 j91 j92 j93 j94 : AV) (H : List Ob) (kp : Ko) : awp Tryz.prog graph_Node_check_ann graph_Node_check_c15 (keepS [1, 3, 6, 9, 10, 11, 9999] 0 [j0,j1,j2,j3,j4,j5,j6,j7,j8,j9,j10,j11,j12,j13,j14,j15,j16,j17,j18,j19,j20,j21,j22,j23,j24,j25,j26,j27,j28,j29,j30,j31,j32,j33,j34,j35,j36,j37,j38,j39,j40,j41,j42,j43,j44,j45,j46,j47,j48,j49,j50,j51,j52,j53,j54,j55,j56,j57,j58,j59,j60,j61,j62,j63,j64,j65,j66,j67,j68,j69,j70,j71,j72,j73,j74,j75,j76,j77,j78,j79,j80,j81,j82,j83,j84,j85,j86,j87,j88,j89,j90,j91,j92,j93,j94]) H kp = graph_Node_check_P15 j1 j3 j6 j9 j10 j11 H (awp Tryz.prog graph_Node_check_ann) kp :=
  Eq.trans (by kernel_rfl) ((awpX_eq Tryz.prog graph_Node_check_ann graph_Node_check_cut _ _ _ _).symm.trans (graph_Node_check_P15_x j1 j3 j6 j9 j10 j11 H _ kp))

def graph_Node_check_P17 (j1 j3 j6 j9 j10 j11 : AV) (H : List Ob) (self : Code → List AV → List Ob → Ko → Prop) (kp : Ko) : Prop :=
  aBin false false .eql j11 (.p (.int .i64 0)) fun v121 =>
  aMerge true v121 (fun Q122 =>
  aFieldAddr 1 j3 fun v123 =>
  aFieldAddr 1 v123 fun v124 =>
  aLoad false 1 v124 H fun v125 =>
  aBin false false .neq v125 (.p (.str [])) fun v126 =>
  (H = H ∧ Q122 v126)) fun v127 =>
  aMerge true v127 (fun Q128 =>
  aCall Tryz.prog (.p (.func slices_ContainsFunc_graph_Graph_graph_Node_i [])) [j1, j9] H fun v129 h130 =>
  (h130 = H ∧ Q128 v129)) fun v131 =>
  aGuard v131
  (self graph_Node_check_c19 (keepS [6, 10, 11, 9999] 0 [.top,j1,.top,j3,.top,.top,j6,.top,.top,j9,j10,(.p (.int .i64 7)),.top,.top,.top,.top,.top,.top,.top,.top,.top,.top,.top,.top,.top,.top,.top,.top,.top,.top,.top,.top,.top,.top,.top,.top,.top,.top,.top,.top,.top,.top,.top,.top,.top,.top,.top,.top,.top,.top,.top,.top,.top,.top,.top,.top,.top,.top,.top,.top,.top,.top,.top,.top,.top,.top,.top,.top,.top,.top,.top,.top,.top,.top,.top,.top,.top,.top,.top,.top,j11,v121,v121,.top,.top,.top,.top,v127,v127,.top,.top,.top,(.p (.bool true)),.top,.top]) H kp)
  (self graph_Node_check_c19 (keepS [6, 10, 11, 9999] 0 [.top,j1,.top,j3,.top,.top,j6,.top,.top,j9,j10,j11,.top,.top,.top,.top,.top,.top,.top,.top,.top,.top,.top,.top,.top,.top,.top,.top,.top,.top,.top,.top,.top,.top,.top,.top,.top,.top,.top,.top,.top,.top,.top,.top,.top,.top,.top,.top,.top,.top,.top,.top,.top,.top,.top,.top,.top,.top,.top,.top,.top,.top,.top,.top,.top,.top,.top,.top,.top,.top,.top,.top,.top,.top,.top,.top,.top,.top,.top,.top,j11,v121,v121,.top,.top,.top,.top,v127,v127,.top,.top,.top,(.p (.bool false)),.top,.top]) H kp)

theorem graph_Node_check_P17_x (j1 j3 j6 j9 j10 j11 : AV) (H : List Ob) (self : Code → List AV → List Ob → Ko → Prop) (kp : Ko) : awpX Tryz.prog graph_Node_check_ann self graph_Node_check_cut graph_Node_check_c17 ([.top,j1,.top,j3,.top,.top,j6,.top,.top,j9,j10,j11] ++ List.replicate 83 .top) H kp = graph_Node_check_P17 j1 j3 j6 j9 j10 j11 H self kp := by kernel_rfl

theorem graph_Node_check_c17_eq (j0 j1 j2 j3 j4 j5 j6 j7 j8 j9 j10 j11 j12 j13 j14 j15 j16 j17 j18 j19 j20 j21 j22 j23 j24 j25 j26 j27 j28 j29 j30 j31 j32 j33 j34 j35 j36 j37 j38 j39 j40 j41 j42 j43 j44 j45 j46 j47 j48 j49 j50 j51 j52 j53 j54 j55 j56 j57 j58 j59 j60 j61 j62 j63 j64 j65 j66 j67 j68 j69 j70 j71 j72 j73 j74 j75 j76 j77 j78 j79 j80 j81 j82 j83 j84 j85 j86 j87 j88 j89 j90 j91 j92 j93 j94 : AV) (H : List Ob) (kp : Ko) : awp Tryz.prog graph_Node_check_ann graph_Node_check_c17 (keepS [1, 3, 6, 9, 10, 11, 9999] 0 [j0,j1,j2,j3,j4,j5,j6,j7,j8,j9,j10,j11,j12,j13,j14,j15,j16,j17,j18,j19,j20,j21,j22,j23,j24,j25,j26,j27,j28,j29,j30,j31,j32,j33,j34,j35,j36,j37,j38,j39,j40,j41,j42,j43,j44,j45,j46,j47,j48,j49,j50,j51,j52,j53,j54,j55,j56,j57,j58,j59,j60,j61,j62,j63,j64,j65,j66,j67,j68,j69,j70,j71,j72,j73,j74,j75,j76,j77,j78,j79,j80,j81,j82,j83,j84,j85,j86,j87,j88,j89,j90,j91,j92,j93,j94]) H kp = graph_Node_check_P17 j1 j3 j6 j9 j10 j11 H (awp Tryz.prog graph_Node_check_ann) kp :=
  Eq.trans (by kernel_rfl) ((awpX_eq Tryz.prog graph_Node_check_ann graph_Node_check_cut _ _ _ _).symm.trans (graph_Node_check_P17_x j1 j3 j6 j9 j10 j11 H _ kp))

def graph_Node_check_P19 (j6 j10 j11 : AV) (H : List Ob) (_ : Code → List AV → List Ob → Ko → Prop) (kp : Ko) : Prop :=
  aLoad true 2 j10 H fun v132 =>
  aStore 2 j6 v132 H fun _ h134 =>
  kp .ret [.top,.top,.top,.top,.top,.top,j6,j11,.top,.top,j10,j11,.top,.top,.top,.top,.top,.top,.top,.top,.top,.top,.top,.top,.top,.top,.top,.top,.top,.top,.top,.top,.top,.top,.top,.top,.top,.top,.top,.top,.top,.top,.top,.top,.top,.top,.top,.top,.top,.top,.top,.top,.top,.top,.top,.top,.top,.top,.top,.top,.top,.top,.top,.top,.top,.top,.top,.top,.top,.top,.top,.top,.top,.top,.top,.top,.top,.top,.top,.top,.top,.top,.top,.top,.top,.top,.top,.top,.top,.top,.top,.top,.top,v132,j11] h134

theorem graph_Node_check_P19_x (j6 j10 j11 : AV) (H : List Ob) (self : Code → List AV → List Ob → Ko → Prop) (kp : Ko) : awpX Tryz.prog graph_Node_check_ann self graph_Node_check_cut graph_Node_check_c19 (List.replicate 6 .top ++ [j6,.top,.top,.top,j10,j11] ++ List.replicate 83 .top) H kp = graph_Node_check_P19 j6 j10 j11 H self kp := by kernel_rfl

theorem graph_Node_check_c19_eq (j0 j1 j2 j3 j4 j5 j6 j7 j8 j9 j10 j11 j12 j13 j14 j15 j16 j17 j18 j19 j20 j21 j22 j23 j24 j25 j26 j27 j28 j29 j30 j31 j32 j33 j34 j35 j36 j37 j38 j39 j40 j41 j42 j43 j44 j45 j46 j47 j48 j49 j50 j51 j52 j53 j54 j55 j56 j57 j58 j59 j60 j61 j62 j63 j64 j65 j66 j67 j68 j69 j70 j71 j72 j73 j74 j75 j76 j77 j78 j79 j80 j81 j82 j83 j84 j85 j86 j87 j88 j89 j90 j91 j92 j93 j94 : AV) (H : List Ob) (kp : Ko) : awp Tryz.prog graph_Node_check_ann graph_Node_check_c19 (keepS [6, 10, 11, 9999] 0 [j0,j1,j2,j3,j4,j5,j6,j7,j8,j9,j10,j11,j12,j13,j14,j15,j16,j17,j18,j19,j20,j21,j22,j23,j24,j25,j26,j27,j28,j29,j30,j31,j32,j33,j34,j35,j36,j37,j38,j39,j40,j41,j42,j43,j44,j45,j46,j47,j48,j49,j50,j51,j52,j53,j54,j55,j56,j57,j58,j59,j60,j61,j62,j63,j64,j65,j66,j67,j68,j69,j70,j71,j72,j73,j74,j75,j76,j77,j78,j79,j80,j81,j82,j83,j84,j85,j86,j87,j88,j89,j90,j91,j92,j93,j94]) H kp = graph_Node_check_P19 j6 j10 j11 H (awp Tryz.prog graph_Node_check_ann) kp :=
  Eq.trans (by kernel_rfl) ((awpX_eq Tryz.prog graph_Node_check_ann graph_Node_check_cut _ _ _ _).symm.trans (graph_Node_check_P19_x j6 j10 j11 H _ kp))

/- runnel/graph.Outs -/
def graph_Outs (x0 x1 : AV) (H : List Ob) (K : AV → List Ob → Prop) : Prop :=
  aBox x1 H fun v0 h1 =>
  aMakeFunc graph_Outs_1_i [v0] h1 fun v2 h3 =>
  aCall Tryz.prog (.p (.func graph_which_graph_Node_i [])) [x0, v2] h3 fun v4 h5 =>
  K v4 h5

def graph_Outs_ann : Nat → List Nat := fun _ => []

theorem graph_Outs_eq (x0 x1 : AV) (H : List Ob) (r : AV) (Ho : List Ob) : aBody Tryz.prog graph_Outs_ann Tryz.f41 H [x0, x1] r Ho = graph_Outs x0 x1 H (fun v H' => Gives H.length v H' r Ho) := by kernel_rfl

theorem graph_Outs_fn {x0 x1 : AV} {r : AV} {Ho : List Ob} (h : graph_Outs x0 x1 [] (fun v H' => Gives 0 v H' r Ho)) : Abs.Fn Tryz.prog graph_Outs_i [] [x0, x1] r Ho :=
  fn_intro mixed graph_Outs_ann (fn := Tryz.f41) (by kernel_rfl) (by kernel_rfl) (by rw [graph_Outs_eq]; exact h)

/- (runnel/graph.Node).check$1 -/
def graph_Node_check_1 (x0 x1 : AV) (H : List Ob) (K : AV → List Ob → Prop) : Prop :=
  aBox x0 H fun v0 h1 =>
  aFieldAddr 0 v0 fun v2 =>
  aLoad false 1 v2 h1 fun v3 =>
  aFieldAddr 0 x1 fun v4 =>
  aLoad false 1 v4 h1 fun v5 =>
  aBin false false .eql v3 v5 fun v6 =>
  K v6 h1

def graph_Node_check_1_ann : Nat → List Nat := fun _ => []

theorem graph_Node_check_1_eq (x0 x1 : AV) (H : List Ob) (r : AV) (Ho : List Ob) : aBody Tryz.prog graph_Node_check_1_ann Tryz.f63 H [x0, x1] r Ho = graph_Node_check_1 x0 x1 H (fun v H' => Gives H.length v H' r Ho) := by kernel_rfl

theorem graph_Node_check_1_fn {x0 x1 : AV} {r : AV} {Ho : List Ob} (h : graph_Node_check_1 x0 x1 [] (fun v H' => Gives 0 v H' r Ho)) : Abs.Fn Tryz.prog graph_Node_check_1_i [] [x0, x1] r Ho :=
  fn_intro mixed graph_Node_check_1_ann (fn := Tryz.f63) (by kernel_rfl) (by kernel_rfl) (by rw [graph_Node_check_1_eq]; exact h)

/- (runnel/graph.Node).check$2 -/
def graph_Node_check_2 (x0 x1 : AV) (H : List Ob) (K : AV → List Ob → Prop) : Prop :=
  aBox x0 H fun v0 h1 =>
  aFieldAddr 1 v0 fun v2 =>
  aFieldAddr 0 v2 fun v3 =>
  aLoad false 1 v3 h1 fun v4 =>
  aFieldAddr 1 x1 fun v5 =>
  aFieldAddr 0 v5 fun v6 =>
  aLoad false 1 v6 h1 fun v7 =>
  aBin false false .eql v4 v7 fun v8 =>
  aMerge true v8 (fun Q9 =>
  aFieldAddr 1 v0 fun v10 =>
  aFieldAddr 1 v10 fun v11 =>
  aLoad false 1 v11 h1 fun v12 =>
  aFieldAddr 1 x1 fun v13 =>
  aFieldAddr 1 v13 fun v14 =>
  aLoad false 1 v14 h1 fun v15 =>
  aBin false false .eql v12 v15 fun v16 =>
  (h1 = h1 ∧ Q9 v16)) fun v17 =>
  K v17 h1

def graph_Node_check_2_ann : Nat → List Nat := fun _ => []

theorem graph_Node_check_2_eq (x0 x1 : AV) (H : List Ob) (r : AV) (Ho : List Ob) : aBody Tryz.prog graph_Node_check_2_ann Tryz.f64 H [x0, x1] r Ho = graph_Node_check_2 x0 x1 H (fun v H' => Gives H.length v H' r Ho) := by kernel_rfl

theorem graph_Node_check_2_fn {x0 x1 : AV} {r : AV} {Ho : List Ob} (h : graph_Node_check_2 x0 x1 [] (fun v H' => Gives 0 v H' r Ho)) : Abs.Fn Tryz.prog graph_Node_check_2_i [] [x0, x1] r Ho :=
  fn_intro mixed graph_Node_check_2_ann (fn := Tryz.f64) (by kernel_rfl) (by kernel_rfl) (by rw [graph_Node_check_2_eq]; exact h)

/- slices.ContainsFunc[runnel/graph.Graph,runnel/graph.Node] -/
def slices_ContainsFunc_graph_Graph_graph_Node (x0 x1 : AV) (H : List Ob) (K : AV → List Ob → Prop) : Prop :=
  aCall Tryz.prog (.p (.func slices_IndexFunc_graph_Graph_graph_Node_i [])) [x0, x1] H fun v0 h1 =>
  aBin false false .geq v0 (.p (.int .i64 0)) fun v2 =>
  K v2 h1

def slices_ContainsFunc_graph_Graph_graph_Node_ann : Nat → List Nat := fun _ => []

theorem slices_ContainsFunc_graph_Graph_graph_Node_eq (x0 x1 : AV) (H : List Ob) (r : AV) (Ho : List Ob) : aBody Tryz.prog slices_ContainsFunc_graph_Graph_graph_Node_ann Tryz.f66 H [x0, x1] r Ho = slices_ContainsFunc_graph_Graph_graph_Node x0 x1 H (fun v H' => Gives H.length v H' r Ho) := by kernel_rfl

theorem slices_ContainsFunc_graph_Graph_graph_Node_fn {x0 x1 : AV} {r : AV} {Ho : List Ob} (h : slices_ContainsFunc_graph_Graph_graph_Node x0 x1 [] (fun v H' => Gives 0 v H' r Ho)) : Abs.Fn Tryz.prog slices_ContainsFunc_graph_Graph_graph_Node_i [] [x0, x1] r Ho :=
  fn_intro mixed slices_ContainsFunc_graph_Graph_graph_Node_ann (fn := Tryz.f66) (by kernel_rfl) (by kernel_rfl) (by rw [slices_ContainsFunc_graph_Graph_graph_Node_eq]; exact h)

/- (runnel/graph.Node).ins -/
def graph_Node_ins_L1 (q1s1 q1s2 q1s8 q1s9 y0 : AV) (H : List Ob) (B1 : List AV → List Ob → Prop) (K : AV → List Ob → Prop) : Prop :=
  aBin false false .lss y0 q1s9 fun v5 =>
  aGuard v5
  (aIndexAddr 1 q1s8 y0 fun v6 =>
  aLoad false 1 v6 H fun v7 =>
  aBin false false .lss v7 (.p (.int .i64 0)) fun v8 =>
  aMerge false v8 (fun Q9 =>
  aLenS false q1s1 fun v10 =>
  aBin false false .geq v7 v10 fun v11 =>
  (H = H ∧ Q9 v11)) fun v12 =>
  aMerge false v12 (fun Q13 =>
  aIndexAddr 21 q1s1 v7 fun v14 =>
  aFieldAddr 1 v14 fun v15 =>
  aFieldAddr 0 v15 fun v16 =>
  aLoad false 1 v16 H fun v17 =>
  aBin false false .eql v17 (.p (.int .i64 9)) fun v18 =>
  (H = H ∧ Q13 v18)) fun v19 =>
  aMerge false v19 (fun Q20 =>
  aFieldAddr 16 q1s2 fun v21 =>
  aLoad false 1 v21 H fun v22 =>
  aSlice false 1 v22 none (some y0) none fun v23 =>
  aCall Tryz.prog (.p (.func slices_Contains_int_int_i [])) [v23, v7] H fun v24 h25 =>
  (h25 = H ∧ Q20 v24)) fun v26 =>
  aGuard v26
  (K (.p (.bool false)) H)
  (aBin false false .add y0 (.p (.int .i64 1)) fun v27 =>
  B1 [v27] H))
  (K (.p (.bool true)) H)

def graph_Node_ins (x0 x1 : AV) (H : List Ob) (K : AV → List Ob → Prop) : Prop :=
  aBox x0 H fun v0 h1 =>
  aFieldAddr 16 v0 fun v2 =>
  aLoad false 1 v2 h1 fun v3 =>
  aLen false false v3 fun v4 =>
  aLoopN 1 [(.p (.int .i64 0))] h1 fun xs H B1 => graph_Node_ins_L1 x1 v0 v3 v4 (xs.getD 0 .top) H B1 K

def graph_Node_ins_ann : Nat → List Nat := fun k => match k with | 2 => [10] | _ => []

theorem graph_Node_ins_eq (x0 x1 : AV) (H : List Ob) (r : AV) (Ho : List Ob) : aBody Tryz.prog graph_Node_ins_ann Tryz.f67 H [x0, x1] r Ho = graph_Node_ins x0 x1 H (fun v H' => Gives H.length v H' r Ho) := by kernel_rfl

theorem graph_Node_ins_fn {x0 x1 : AV} {r : AV} {Ho : List Ob} (h : graph_Node_ins x0 x1 [] (fun v H' => Gives 0 v H' r Ho)) : Abs.Fn Tryz.prog graph_Node_ins_i [] [x0, x1] r Ho :=
  fn_intro mixed graph_Node_ins_ann (fn := Tryz.f67) (by kernel_rfl) (by kernel_rfl) (by rw [graph_Node_ins_eq]; exact h)

/- runnel/graph.of -/
def graph_of_L1 (q1s0 q1s8 q1s9 y0 y1 : AV) (H : List Ob) (B1 : List AV → List Ob → Prop) (K : AV → List Ob → Prop) : Prop :=
  aBin false false .lss y1 q1s9 fun v1 =>
  aGuard v1
  (aIndexAddr 1 q1s8 y1 fun v2 =>
  aLoad false 1 v2 H fun v3 =>
  aIndexAddr 2 q1s0 v3 fun v4 =>
  aLoad true 2 v4 H fun v5 =>
  aBuildSlice 2 [v5] fun v6 =>
  aAppend false 2 32 y0 v6 H fun v7 h8 =>
  aBin false false .add y1 (.p (.int .i64 1)) fun v9 =>
  B1 [v7, v9] h8)
  (K y0 H)

def graph_of (x0 x1 : AV) (H : List Ob) (K : AV → List Ob → Prop) : Prop :=
  aLen false false x1 fun v0 =>
  aLoopN 2 [(.full []), (.p (.int .i64 0))] H fun xs H B1 => graph_of_L1 x0 x1 v0 (xs.getD 0 .top) (xs.getD 1 .top) H B1 K

def graph_of_ann : Nat → List Nat := fun k => match k with | 3 => [5, 10] | _ => []

theorem graph_of_eq (x0 x1 : AV) (H : List Ob) (r : AV) (Ho : List Ob) : aBody Tryz.prog graph_of_ann Tryz.f69 H [x0, x1] r Ho = graph_of x0 x1 H (fun v H' => Gives H.length v H' r Ho) := by kernel_rfl

theorem graph_of_fn {x0 x1 : AV} {r : AV} {Ho : List Ob} (h : graph_of x0 x1 [] (fun v H' => Gives 0 v H' r Ho)) : Abs.Fn Tryz.prog graph_of_i [] [x0, x1] r Ho :=
  fn_intro mixed graph_of_ann (fn := Tryz.f69) (by kernel_rfl) (by kernel_rfl) (by rw [graph_of_eq]; exact h)

/- runnel/graph.weight -/
def graph_weight_L2 (q2s3 q2s5 q2s11 q2s16 q2s17 y0 y1 : AV) (H : List Ob) (B2 : List AV → List Ob → Prop) (B1 : List AV → List Ob → Prop) (K : AV → List Ob → Prop) : Prop :=
  aBin false false .lss y1 q2s17 fun v11 =>
  aGuard v11
  (aIndexAddr 1 q2s16 y1 fun v12 =>
  aLoad false 1 v12 H fun v13 =>
  aIndexAddr 1 q2s3 v13 fun v14 =>
  aLoad false 1 v14 H fun v15 =>
  aBin false false .add y0 v15 fun v16 =>
  aBin false false .add y1 (.p (.int .i64 1)) fun v17 =>
  B2 [v16, v17] H)
  (aFieldAddr 1 q2s5 fun v18 =>
  aFieldAddr 0 v18 fun v19 =>
  aLoad false 1 v19 H fun v20 =>
  aBin false false .eql v20 (.p (.int .i64 1)) fun v21 =>
  aGuard v21
  (aBuildSlice 1 [(.p (.int .i64 1))] fun v22 =>
  aAppend false 1 8 q2s3 v22 H fun v23 h24 =>
  aBin false false .add q2s11 (.p (.int .i64 1)) fun v25 =>
  B1 [v23, v25] h24)
  (aBin false false .eql v20 (.p (.int .i64 4)) fun v26 =>
  aGuard v26
  (aFieldAddr 1 q2s5 fun v27 =>
  aFieldAddr 4 v27 fun v28 =>
  aLoad false 1 v28 H fun v29 =>
  aLen false false v29 fun v30 =>
  aBin false false .mul y0 v30 fun v31 =>
  aBuildSlice 1 [v31] fun v32 =>
  aAppend false 1 8 q2s3 v32 H fun v33 h34 =>
  aBin false false .add q2s11 (.p (.int .i64 1)) fun v35 =>
  B1 [v33, v35] h34)
  (aBuildSlice 1 [y0] fun v36 =>
  aAppend false 1 8 q2s3 v36 H fun v37 h38 =>
  aBin false false .add q2s11 (.p (.int .i64 1)) fun v39 =>
  B1 [v37, v39] h38)))

def graph_weight_L1 (q1s9 q1s10 y0 y1 : AV) (H : List Ob) (B1 : List AV → List Ob → Prop) (K : AV → List Ob → Prop) : Prop :=
  aBin false false .lss y1 q1s10 fun v1 =>
  aGuard v1
  (aIndexAddr 21 q1s9 y1 fun v2 =>
  aLoad true 21 v2 H fun v3 =>
  aAlloc [(.p (.str [])), (.p (.int .i64 0)), (.p (.str [])), (.p (.int .i64 0)), (.full []), (.full []), (.p (.str [])), (.p (.int .i64 0)), (.p (.int .i64 0)), (.p (.bool false)), (.p (.str [])), (.full []), (.p (.int .i64 0)), (.full []), (.p (.int .i64 0)), (.p (.int .i64 0)), (.full []), (.p (.int .i64 0)), (.p (.int .i64 0)), (.p (.str [])), (.p (.bool false))] H fun v4 h5 =>
  aStore 21 v4 v3 h5 fun _ h7 =>
  aFieldAddr 16 v4 fun v8 =>
  aLoad false 1 v8 h7 fun v9 =>
  aLen false false v9 fun v10 =>
  aLoopN 2 [(.p (.int .i64 0)), (.p (.int .i64 0))] h7 fun xs H B2 => graph_weight_L2 y0 v4 y1 v9 v10 (xs.getD 0 .top) (xs.getD 1 .top) H B2 B1 K)
  (aLen false false y0 fun v40 =>
  aBin false false .sub v40 (.p (.int .i64 1)) fun v41 =>
  aIndexAddr 1 y0 v41 fun v42 =>
  aLoad false 1 v42 H fun v43 =>
  K v43 H)

def graph_weight (x0 : AV) (H : List Ob) (K : AV → List Ob → Prop) : Prop :=
  aLen false false x0 fun v0 =>
  aLoopN 2 [(.full []), (.p (.int .i64 0))] H fun xs H B1 => graph_weight_L1 x0 v0 (xs.getD 0 .top) (xs.getD 1 .top) H B1 K

def graph_weight_ann : Nat → List Nat := fun k => match k with | 3 => [3, 11] | 7 => [6, 18] | _ => []

theorem graph_weight_eq (x0 : AV) (H : List Ob) (r : AV) (Ho : List Ob) : aBody Tryz.prog graph_weight_ann Tryz.f70 H [x0] r Ho = graph_weight x0 H (fun v H' => Gives H.length v H' r Ho) := by kernel_rfl

theorem graph_weight_fn {x0 : AV} {r : AV} {Ho : List Ob} (h : graph_weight x0 [] (fun v H' => Gives 0 v H' r Ho)) : Abs.Fn Tryz.prog graph_weight_i [] [x0] r Ho :=
  fn_intro mixed graph_weight_ann (fn := Tryz.f70) (by kernel_rfl) (by kernel_rfl) (by rw [graph_weight_eq]; exact h)

/- slices.Clone[runnel/graph.Graph,runnel/graph.Node] -/
def slices_Clone_graph_Graph_graph_Node (x0 : AV) (H : List Ob) (K : AV → List Ob → Prop) : Prop :=
  aNil true .eql x0 fun v0 =>
  aGuard v0
  (K (.full []) H)
  (aBuildSlice 21 [] fun v1 =>
  aAppend false 21 288 v1 x0 H fun v2 h3 =>
  K v2 h3)

def slices_Clone_graph_Graph_graph_Node_ann : Nat → List Nat := fun _ => []

theorem slices_Clone_graph_Graph_graph_Node_eq (x0 : AV) (H : List Ob) (r : AV) (Ho : List Ob) : aBody Tryz.prog slices_Clone_graph_Graph_graph_Node_ann Tryz.f71 H [x0] r Ho = slices_Clone_graph_Graph_graph_Node x0 H (fun v H' => Gives H.length v H' r Ho) := by kernel_rfl

theorem slices_Clone_graph_Graph_graph_Node_fn {x0 : AV} {r : AV} {Ho : List Ob} (h : slices_Clone_graph_Graph_graph_Node x0 [] (fun v H' => Gives 0 v H' r Ho)) : Abs.Fn Tryz.prog slices_Clone_graph_Graph_graph_Node_i [] [x0] r Ho :=
  fn_intro mixed slices_Clone_graph_Graph_graph_Node_ann (fn := Tryz.f71) (by kernel_rfl) (by kernel_rfl) (by rw [slices_Clone_graph_Graph_graph_Node_eq]; exact h)

/- runnel/graph.which[runnel/graph.Node] -/
def graph_which_graph_Node_L1 (q1s1 q1s8 q1s9 y0 y1 : AV) (H : List Ob) (B1 : List AV → List Ob → Prop) (K : AV → List Ob → Prop) : Prop :=
  aBin false false .lss y1 q1s9 fun v1 =>
  aGuard v1
  (aIndexAddr 21 q1s8 y1 fun v2 =>
  aLoad true 21 v2 H fun v3 =>
  aAlloc [(.p (.str [])), (.p (.int .i64 0)), (.p (.str [])), (.p (.int .i64 0)), (.full []), (.full []), (.p (.str [])), (.p (.int .i64 0)), (.p (.int .i64 0)), (.p (.bool false)), (.p (.str [])), (.full []), (.p (.int .i64 0)), (.full []), (.p (.int .i64 0)), (.p (.int .i64 0)), (.full []), (.p (.int .i64 0)), (.p (.int .i64 0)), (.p (.str [])), (.p (.bool false))] H fun v4 h5 =>
  aStore 21 v4 v3 h5 fun _ h7 =>
  aLoad true 21 v4 h7 fun v8 =>
  aCall Tryz.prog q1s1 [v8] h7 fun v9 h10 =>
  aGuard v9
  (aBuildSlice 1 [y1] fun v11 =>
  aAppend false 1 8 y0 v11 h10 fun v12 h13 =>
  aBin false false .add y1 (.p (.int .i64 1)) fun v14 =>
  B1 [v12, v14] h13)
  (aBin false false .add y1 (.p (.int .i64 1)) fun v15 =>
  B1 [y0, v15] h10))
  (aCall Tryz.prog (.p (.func slices_Clip_int_int_i [])) [y0] H fun v16 h17 =>
  K v16 h17)

def graph_which_graph_Node (x0 x1 : AV) (H : List Ob) (K : AV → List Ob → Prop) : Prop :=
  aLen false false x0 fun v0 =>
  aLoopN 2 [(.full []), (.p (.int .i64 0))] H fun xs H B1 => graph_which_graph_Node_L1 x1 x0 v0 (xs.getD 0 .top) (xs.getD 1 .top) H B1 K

def graph_which_graph_Node_ann : Nat → List Nat := fun k => match k with | 3 => [5, 10] | _ => []

theorem graph_which_graph_Node_eq (x0 x1 : AV) (H : List Ob) (r : AV) (Ho : List Ob) : aBody Tryz.prog graph_which_graph_Node_ann Tryz.f72 H [x0, x1] r Ho = graph_which_graph_Node x0 x1 H (fun v H' => Gives H.length v H' r Ho) := by kernel_rfl

theorem graph_which_graph_Node_fn {x0 x1 : AV} {r : AV} {Ho : List Ob} (h : graph_which_graph_Node x0 x1 [] (fun v H' => Gives 0 v H' r Ho)) : Abs.Fn Tryz.prog graph_which_graph_Node_i [] [x0, x1] r Ho :=
  fn_intro mixed graph_which_graph_Node_ann (fn := Tryz.f72) (by kernel_rfl) (by kernel_rfl) (by rw [graph_which_graph_Node_eq]; exact h)

/- runnel/graph.Outs$1 -/
def graph_Outs_1 (x0 x1 : AV) (H : List Ob) (K : AV → List Ob → Prop) : Prop :=
  aBox x0 H fun v0 h1 =>
  aFieldAddr 16 v0 fun v2 =>
  aLoad false 1 v2 h1 fun v3 =>
  aLoad false 1 x1 h1 fun v4 =>
  aCall Tryz.prog (.p (.func slices_Contains_int_int_i [])) [v3, v4] h1 fun v5 h6 =>
  K v5 h6

def graph_Outs_1_ann : Nat → List Nat := fun _ => []

theorem graph_Outs_1_eq (x0 x1 : AV) (H : List Ob) (r : AV) (Ho : List Ob) : aBody Tryz.prog graph_Outs_1_ann Tryz.f73 H [x0, x1] r Ho = graph_Outs_1 x0 x1 H (fun v H' => Gives H.length v H' r Ho) := by kernel_rfl

theorem graph_Outs_1_fn {x0 x1 : AV} {r : AV} {Ho : List Ob} (h : graph_Outs_1 x0 x1 [] (fun v H' => Gives 0 v H' r Ho)) : Abs.Fn Tryz.prog graph_Outs_1_i [] [x0, x1] r Ho :=
  fn_intro mixed graph_Outs_1_ann (fn := Tryz.f73) (by kernel_rfl) (by kernel_rfl) (by rw [graph_Outs_1_eq]; exact h)

/- slices.IndexFunc[runnel/graph.Graph,runnel/graph.Node] -/
def slices_IndexFunc_graph_Graph_graph_Node_L1 (q1s0 q1s1 q1s7 y0 : AV) (H : List Ob) (B1 : List AV → List Ob → Prop) (K : AV → List Ob → Prop) : Prop :=
  aBin false false .lss y0 q1s7 fun v1 =>
  aGuard v1
  (aIndexAddr 21 q1s0 y0 fun v2 =>
  aLoad true 21 v2 H fun v3 =>
  aCall Tryz.prog q1s1 [v3] H fun v4 h5 =>
  aGuard v4
  (K y0 h5)
  (aBin false false .add y0 (.p (.int .i64 1)) fun v6 =>
  B1 [v6] h5))
  (K (.p (.int .i64 (-1))) H)

def slices_IndexFunc_graph_Graph_graph_Node (x0 x1 : AV) (H : List Ob) (K : AV → List Ob → Prop) : Prop :=
  aLen false false x0 fun v0 =>
  aLoopN 1 [(.p (.int .i64 0))] H fun xs H B1 => slices_IndexFunc_graph_Graph_graph_Node_L1 x0 x1 v0 (xs.getD 0 .top) H B1 K

def slices_IndexFunc_graph_Graph_graph_Node_ann : Nat → List Nat := fun k => match k with | 2 => [8] | _ => []

theorem slices_IndexFunc_graph_Graph_graph_Node_eq (x0 x1 : AV) (H : List Ob) (r : AV) (Ho : List Ob) : aBody Tryz.prog slices_IndexFunc_graph_Graph_graph_Node_ann Tryz.f98 H [x0, x1] r Ho = slices_IndexFunc_graph_Graph_graph_Node x0 x1 H (fun v H' => Gives H.length v H' r Ho) := by kernel_rfl

theorem slices_IndexFunc_graph_Graph_graph_Node_fn {x0 x1 : AV} {r : AV} {Ho : List Ob} (h : slices_IndexFunc_graph_Graph_graph_Node x0 x1 [] (fun v H' => Gives 0 v H' r Ho)) : Abs.Fn Tryz.prog slices_IndexFunc_graph_Graph_graph_Node_i [] [x0, x1] r Ho :=
  fn_intro mixed slices_IndexFunc_graph_Graph_graph_Node_ann (fn := Tryz.f98) (by kernel_rfl) (by kernel_rfl) (by rw [slices_IndexFunc_graph_Graph_graph_Node_eq]; exact h)

end Go.Proofs.YtijnpcociedigaaGreatDoor
end

section
/- Made by program (Gen.lean): functions of the dump, over trees. -/
set_option maxRecDepth 4000
set_option linter.unusedVariables false
namespace Go.Proofs.YtijnpcociedigaaGreatDoor
open Go Go.Abs

/- runnel/uid.IDs -/
def uid_IDs_L1 (q1s4 q1s10 q1s11 y0 y1 : AV) (H : List Ob) (B1 : List AV → List Ob → Prop) (K : AV → List Ob → Prop) : Prop :=
  aBin false false .lss y1 q1s11 fun v3 =>
  aGuard v3
  (aIndexAddr 21 q1s10 y1 fun v4 =>
  aLoad true 21 v4 H fun v5 =>
  aAlloc [(.p (.str [])), (.p (.int .i64 0)), (.p (.str [])), (.p (.int .i64 0)), (.full []), (.full []), (.p (.str [])), (.p (.int .i64 0)), (.p (.int .i64 0)), (.p (.bool false)), (.p (.str [])), (.full []), (.p (.int .i64 0)), (.full []), (.p (.int .i64 0)), (.p (.int .i64 0)), (.full []), (.p (.int .i64 0)), (.p (.int .i64 0)), (.p (.str [])), (.p (.bool false))] H fun v6 h7 =>
  aStore 21 v6 v5 h7 fun _ h9 =>
  aLoad true 21 v6 h9 fun v10 =>
  aCall Tryz.prog (.p (.func uid_plain_i [])) [v10, y0] h9 fun v11 h12 =>
  aLookup .string false (.p (.int .i64 0)) q1s4 v11 h12 fun v13 h14 =>
  aLookup .string false (.p (.int .i64 0)) q1s4 v11 h14 fun v15 h16 =>
  aBin false false .add v15 (.p (.int .i64 1)) fun v17 =>
  aMapUpdate .string q1s4 v11 v17 h16 fun _ h19 =>
  aBin false false .gtr v13 (.p (.int .i64 0)) fun v20 =>
  aGuard v20
  (aCall Tryz.prog (.p (.func strconv_Itoa_i [])) [v13] h19 fun v21 h22 =>
  aBin false false .add (.p (.str [35])) v21 fun v23 =>
  aBin false false .add v11 v23 fun v24 =>
  aBuildSlice 1 [v24] fun v25 =>
  aAppend false 1 16 y0 v25 h22 fun v26 h27 =>
  aBin false false .add y1 (.p (.int .i64 1)) fun v28 =>
  B1 [v26, v28] h27)
  (aBuildSlice 1 [v11] fun v29 =>
  aAppend false 1 16 y0 v29 h19 fun v30 h31 =>
  aBin false false .add y1 (.p (.int .i64 1)) fun v32 =>
  B1 [v30, v32] h31))
  (K y0 H)

def uid_IDs (x0 : AV) (H : List Ob) (K : AV → List Ob → Prop) : Prop :=
  aMakeMap H fun v0 h1 =>
  aLen false false x0 fun v2 =>
  aLoopN 2 [(.full []), (.p (.int .i64 0))] h1 fun xs H B1 => uid_IDs_L1 v0 x0 v2 (xs.getD 0 .top) (xs.getD 1 .top) H B1 K

def uid_IDs_ann : Nat → List Nat := fun k => match k with | 4 => [3, 12] | _ => []

theorem uid_IDs_eq (x0 : AV) (H : List Ob) (r : AV) (Ho : List Ob) : aBody Tryz.prog uid_IDs_ann Tryz.f10 H [x0] r Ho = uid_IDs x0 H (fun v H' => Gives H.length v H' r Ho) := by kernel_rfl

theorem uid_IDs_fn {x0 : AV} {r : AV} {Ho : List Ob} (h : uid_IDs x0 [] (fun v H' => Gives 0 v H' r Ho)) : Abs.Fn Tryz.prog uid_IDs_i [] [x0] r Ho :=
  fn_intro mixed uid_IDs_ann (fn := Tryz.f10) (by kernel_rfl) (by kernel_rfl) (by rw [uid_IDs_eq]; exact h)

/- runnel/uid.Find -/
def uid_Find (x0 x1 : AV) (H : List Ob) (K : AV → List Ob → Prop) : Prop :=
  aCall Tryz.prog (.p (.func uid_IDs_i [])) [x0] H fun v0 h1 =>
  aCall Tryz.prog (.p (.func uid_find_string_i [])) [v0, x1] h1 fun v2 h3 =>
  K v2 h3

def uid_Find_ann : Nat → List Nat := fun _ => []

theorem uid_Find_eq (x0 x1 : AV) (H : List Ob) (r : AV) (Ho : List Ob) : aBody Tryz.prog uid_Find_ann Tryz.f12 H [x0, x1] r Ho = uid_Find x0 x1 H (fun v H' => Gives H.length v H' r Ho) := by kernel_rfl

theorem uid_Find_fn {x0 x1 : AV} {r : AV} {Ho : List Ob} (h : uid_Find x0 x1 [] (fun v H' => Gives 0 v H' r Ho)) : Abs.Fn Tryz.prog uid_Find_i [] [x0, x1] r Ho :=
  fn_intro mixed uid_Find_ann (fn := Tryz.f12) (by kernel_rfl) (by kernel_rfl) (by rw [uid_Find_eq]; exact h)

/- runnel/uid.Schema -/
def uid_Schema (x0 x1 : AV) (H : List Ob) (K : AV → List Ob → Prop) : Prop :=
  aCall Tryz.prog (.p (.func graph_Types_i [])) [x0] H fun v0 h1 =>
  aAlloc [(.full [])] h1 fun v2 h3 =>
  aStore 1 v2 v0 h3 fun _ h5 =>
  aBin false false .lss x1 (.p (.int .i64 0)) fun v6 =>
  aMerge false v6 (fun Q7 =>
  aLoad false 1 v2 h5 fun v8 =>
  aLenS false v8 fun v9 =>
  aBin false false .geq x1 v9 fun v10 =>
  (h5 = h5 ∧ Q7 v10)) fun v11 =>
  aGuard v11
  (K (.p (.str [])) h5)
  (aIndexAddr 21 x0 x1 fun v12 =>
  aLoad true 21 v12 h5 fun v13 =>
  aAlloc [(.p (.str [])), (.p (.int .i64 0)), (.p (.str [])), (.p (.int .i64 0)), (.full []), (.full []), (.p (.str [])), (.p (.int .i64 0)), (.p (.int .i64 0)), (.p (.bool false)), (.p (.str [])), (.full []), (.p (.int .i64 0)), (.full []), (.p (.int .i64 0)), (.p (.int .i64 0)), (.full []), (.p (.int .i64 0)), (.p (.int .i64 0)), (.p (.str [])), (.p (.bool false))] h5 fun v14 h15 =>
  aStore 21 v14 v13 h15 fun _ h17 =>
  aMakeFunc uid_Schema_1_i [v14, v2] h17 fun v18 h19 =>
  aFieldAddr 1 v14 fun v20 =>
  aFieldAddr 0 v20 fun v21 =>
  aLoad false 1 v21 h19 fun v22 =>
  aBin false false .eql v22 (.p (.int .i64 1)) fun v23 =>
  aGuard v23
  (aFieldAddr 1 v14 fun v24 =>
  aFieldAddr 2 v24 fun v25 =>
  aLoad true 2 v25 h19 fun v26 =>
  aCall Tryz.prog (.p (.func typ_Text_i [])) [v26] h19 fun v27 h28 =>
  aBuildSlice 1 [(.p (.str [115, 111, 117, 114, 99, 101])), v27] fun v29 =>
  aFieldAddr 18 v14 fun v30 =>
  aLoad false 1 v30 h28 fun v31 =>
  aCall Tryz.prog (.p (.func strconv_Itoa_i [])) [v31] h28 fun v32 h33 =>
  aBuildSlice 1 [v32] fun v34 =>
  aAppend false 1 16 v29 v34 h33 fun v35 h36 =>
  aCall Tryz.prog (.p (.func strings_Join_i [])) [v35, (.p (.str [32]))] h36 fun v37 h38 =>
  K v37 h38)
  (aBin false false .eql v22 (.p (.int .i64 5)) fun v39 =>
  aGuard v39
  (aFieldAddr 1 v14 fun v40 =>
  aFieldAddr 13 v40 fun v41 =>
  aLoad false 1 v41 h19 fun v42 =>
  aCall Tryz.prog (.p (.func strconv_Itoa_i [])) [v42] h19 fun v43 h44 =>
  aCall Tryz.prog v18 [] h44 fun v45 h46 =>
  aBuildSlice 1 [(.p (.str [114, 101, 100, 117, 99, 101])), v43, v45] fun v47 =>
  aFieldAddr 18 v14 fun v48 =>
  aLoad false 1 v48 h46 fun v49 =>
  aCall Tryz.prog (.p (.func strconv_Itoa_i [])) [v49] h46 fun v50 h51 =>
  aBuildSlice 1 [v50] fun v52 =>
  aAppend false 1 16 v47 v52 h51 fun v53 h54 =>
  aCall Tryz.prog (.p (.func strings_Join_i [])) [v53, (.p (.str [32]))] h54 fun v55 h56 =>
  K v55 h56)
  (aBin false false .eql v22 (.p (.int .i64 6)) fun v57 =>
  aGuard v57
  (aFieldAddr 1 v14 fun v58 =>
  aFieldAddr 14 v58 fun v59 =>
  aLoad false 1 v59 h19 fun v60 =>
  aCall Tryz.prog (.p (.func strconv_Itoa_i [])) [v60] h19 fun v61 h62 =>
  aCall Tryz.prog v18 [] h62 fun v63 h64 =>
  aBuildSlice 1 [(.p (.str [116, 97, 108, 108, 121])), v61, v63] fun v65 =>
  aFieldAddr 18 v14 fun v66 =>
  aLoad false 1 v66 h64 fun v67 =>
  aCall Tryz.prog (.p (.func strconv_Itoa_i [])) [v67] h64 fun v68 h69 =>
  aBuildSlice 1 [v68] fun v70 =>
  aAppend false 1 16 v65 v70 h69 fun v71 h72 =>
  aCall Tryz.prog (.p (.func strings_Join_i [])) [v71, (.p (.str [32]))] h72 fun v73 h74 =>
  K v73 h74)
  (aBin false false .eql v22 (.p (.int .i64 7)) fun v75 =>
  aGuard v75
  (aCall Tryz.prog v18 [] h19 fun v76 h77 =>
  aBuildSlice 1 [(.p (.str [100, 105, 115, 116, 105, 110, 99, 116])), v76] fun v78 =>
  aFieldAddr 18 v14 fun v79 =>
  aLoad false 1 v79 h77 fun v80 =>
  aCall Tryz.prog (.p (.func strconv_Itoa_i [])) [v80] h77 fun v81 h82 =>
  aBuildSlice 1 [v81] fun v83 =>
  aAppend false 1 16 v78 v83 h82 fun v84 h85 =>
  aCall Tryz.prog (.p (.func strings_Join_i [])) [v84, (.p (.str [32]))] h85 fun v86 h87 =>
  K v86 h87)
  (K (.p (.str [])) h19)))))

def uid_Schema_ann : Nat → List Nat := fun _ => []

theorem uid_Schema_eq (x0 x1 : AV) (H : List Ob) (r : AV) (Ho : List Ob) : aBody Tryz.prog uid_Schema_ann Tryz.f13 H [x0, x1] r Ho = uid_Schema x0 x1 H (fun v H' => Gives H.length v H' r Ho) := by kernel_rfl

theorem uid_Schema_fn {x0 x1 : AV} {r : AV} {Ho : List Ob} (h : uid_Schema x0 x1 [] (fun v H' => Gives 0 v H' r Ho)) : Abs.Fn Tryz.prog uid_Schema_i [] [x0, x1] r Ho :=
  fn_intro mixed uid_Schema_ann (fn := Tryz.f13) (by kernel_rfl) (by kernel_rfl) (by rw [uid_Schema_eq]; exact h)

/- runnel/runnellaw9.ref0 -/
def runnellaw9_ref0 (x0 : AV) (H : List Ob) (K : AV → List Ob → Prop) : Prop :=
  aCall Tryz.prog (.p (.func val_Int_i [])) [x0] H fun v0 h1 =>
  aCall Tryz.prog (.p (.func val_Text_i [])) [v0] h1 fun v2 h3 =>
  K v2 h3

def runnellaw9_ref0_ann : Nat → List Nat := fun _ => []

theorem runnellaw9_ref0_eq (x0 : AV) (H : List Ob) (r : AV) (Ho : List Ob) : aBody Tryz.prog runnellaw9_ref0_ann Tryz.f19 H [x0] r Ho = runnellaw9_ref0 x0 H (fun v H' => Gives H.length v H' r Ho) := by kernel_rfl

theorem runnellaw9_ref0_fn {x0 : AV} {r : AV} {Ho : List Ob} (h : runnellaw9_ref0 x0 [] (fun v H' => Gives 0 v H' r Ho)) : Abs.Fn Tryz.prog runnellaw9_ref0_i [] [x0] r Ho :=
  fn_intro mixed runnellaw9_ref0_ann (fn := Tryz.f19) (by kernel_rfl) (by kernel_rfl) (by rw [runnellaw9_ref0_eq]; exact h)

/- runnel/uid.plain -/
def uid_plain_L1 (q1s1 q1s2 q1s15 q1s16 y0 y1 : AV) (H : List Ob) (B1 : List AV → List Ob → Prop) (K : AV → List Ob → Prop) : Prop :=
  aBin false false .lss y1 q1s16 fun v11 =>
  aGuard v11
  (aIndexAddr 1 q1s15 y1 fun v12 =>
  aLoad false 1 v12 H fun v13 =>
  aIndexAddr 1 q1s1 v13 fun v14 =>
  aLoad false 1 v14 H fun v15 =>
  aBuildSlice 1 [v15] fun v16 =>
  aAppend false 1 16 y0 v16 H fun v17 h18 =>
  aBin false false .add y1 (.p (.int .i64 1)) fun v19 =>
  B1 [v17, v19] h18)
  (aFieldAddr 1 q1s2 fun v20 =>
  aFieldAddr 0 v20 fun v21 =>
  aLoad false 1 v21 H fun v22 =>
  aCallT Tryz.prog (.p (.func strconv_Itoa_i [])) [v22] fun v23 =>
  aBin false false .add (.p (.str [97, 58])) v23 fun v24 =>
  aBin false false .add v24 (.p (.str [58])) fun v25 =>
  aFieldAddr 1 q1s2 fun v26 =>
  aFieldAddr 1 v26 fun v27 =>
  aLoad false 1 v27 H fun v28 =>
  aBin false false .add v25 v28 fun v29 =>
  aBin false false .add v29 (.p (.str [40])) fun v30 =>
  aCallT Tryz.prog (.p (.func strings_Join_i [])) [y0, (.p (.str [44]))] fun v31 =>
  aBin false false .add v30 v31 fun v32 =>
  aBin false false .add v32 (.p (.str [41])) fun v33 =>
  K v33 H)

def uid_plain (x0 x1 : AV) (H : List Ob) (K : AV → List Ob → Prop) : Prop :=
  aBox x0 H fun v0 h1 =>
  aFieldAddr 0 v0 fun v2 =>
  aLoad false 1 v2 h1 fun v3 =>
  aBin false false .neq v3 (.p (.str [])) fun v4 =>
  aGuard v4
  (aFieldAddr 0 v0 fun v5 =>
  aLoad false 1 v5 h1 fun v6 =>
  aBin false false .add (.p (.str [117, 58])) v6 fun v7 =>
  K v7 h1)
  (aFieldAddr 16 v0 fun v8 =>
  aLoad false 1 v8 h1 fun v9 =>
  aLen false false v9 fun v10 =>
  aLoopN 2 [(.full []), (.p (.int .i64 0))] h1 fun xs H B1 => uid_plain_L1 x1 v0 v9 v10 (xs.getD 0 .top) (xs.getD 1 .top) H B1 K)

def uid_plain_ann : Nat → List Nat := fun k => match k with | 5 => [5, 17] | _ => []

theorem uid_plain_eq (x0 x1 : AV) (H : List Ob) (r : AV) (Ho : List Ob) : aBody Tryz.prog uid_plain_ann Tryz.f25 H [x0, x1] r Ho = uid_plain x0 x1 H (fun v H' => Gives H.length v H' r Ho) := by kernel_rfl

theorem uid_plain_fn {x0 x1 : AV} {r : AV} {Ho : List Ob} (h : uid_plain x0 x1 [] (fun v H' => Gives 0 v H' r Ho)) : Abs.Fn Tryz.prog uid_plain_i [] [x0, x1] r Ho :=
  fn_intro mixed uid_plain_ann (fn := Tryz.f25) (by kernel_rfl) (by kernel_rfl) (by rw [uid_plain_eq]; exact h)

/- runnel/uid.find[string] -/
def uid_find_string_L1 (q1s1 q1s7 q1s8 y0 : AV) (H : List Ob) (B1 : List AV → List Ob → Prop) (K : AV → List Ob → Prop) : Prop :=
  aBin false false .lss y0 q1s8 fun v1 =>
  aGuard v1
  (aIndexAddr 1 q1s7 y0 fun v2 =>
  aLoad false 1 v2 H fun v3 =>
  aBin false false .eql v3 q1s1 fun v4 =>
  aGuard v4
  (K y0 H)
  (aBin false false .add y0 (.p (.int .i64 1)) fun v5 =>
  B1 [v5] H))
  (K (.p (.int .i64 (-1))) H)

def uid_find_string (x0 x1 : AV) (H : List Ob) (K : AV → List Ob → Prop) : Prop :=
  aLen false false x0 fun v0 =>
  aLoopN 1 [(.p (.int .i64 0))] H fun xs H B1 => uid_find_string_L1 x1 x0 v0 (xs.getD 0 .top) H B1 K

def uid_find_string_ann : Nat → List Nat := fun k => match k with | 2 => [9] | _ => []

theorem uid_find_string_eq (x0 x1 : AV) (H : List Ob) (r : AV) (Ho : List Ob) : aBody Tryz.prog uid_find_string_ann Tryz.f29 H [x0, x1] r Ho = uid_find_string x0 x1 H (fun v H' => Gives H.length v H' r Ho) := by kernel_rfl

theorem uid_find_string_fn {x0 x1 : AV} {r : AV} {Ho : List Ob} (h : uid_find_string x0 x1 [] (fun v H' => Gives 0 v H' r Ho)) : Abs.Fn Tryz.prog uid_find_string_i [] [x0, x1] r Ho :=
  fn_intro mixed uid_find_string_ann (fn := Tryz.f29) (by kernel_rfl) (by kernel_rfl) (by rw [uid_find_string_eq]; exact h)

/- runnel/uid.Schema$1 -/
def uid_Schema_1 (x0 x1 : AV) (H : List Ob) (K : AV → List Ob → Prop) : Prop :=
  aAlloc [(.p (.int .i64 0)), (.full [])] H fun v0 h1 =>
  aFieldAddr 1 x0 fun v2 =>
  aFieldAddr 5 v2 fun v3 =>
  aLoad true 8 v3 h1 fun v4 =>
  aLoad false 1 x1 h1 fun v5 =>
  aFieldAddr 16 x0 fun v6 =>
  aLoad false 1 v6 h1 fun v7 =>
  aIndexAddr 1 v7 (.p (.int .i64 0)) fun v8 =>
  aLoad false 1 v8 h1 fun v9 =>
  aIndexAddr 2 v5 v9 fun v10 =>
  aLoad true 2 v10 h1 fun v11 =>
  aCallT Tryz.prog (.p (.func expr_Check_i [])) [v4, v11] fun v12 =>
  aExtract v12 0 fun v13 =>
  aExtract v12 1 fun _ =>
  aStore 2 v0 v13 h1 fun _ h16 =>
  aLoad true 2 v0 h16 fun v17 =>
  aCall Tryz.prog (.p (.func typ_Text_i [])) [v17] h16 fun v18 h19 =>
  K v18 h19

def uid_Schema_1_ann : Nat → List Nat := fun _ => []

theorem uid_Schema_1_eq (x0 x1 : AV) (H : List Ob) (r : AV) (Ho : List Ob) : aBody Tryz.prog uid_Schema_1_ann Tryz.f31 H [x0, x1] r Ho = uid_Schema_1 x0 x1 H (fun v H' => Gives H.length v H' r Ho) := by kernel_rfl

theorem uid_Schema_1_fn {x0 x1 : AV} {r : AV} {Ho : List Ob} (h : uid_Schema_1 x0 x1 [] (fun v H' => Gives 0 v H' r Ho)) : Abs.Fn Tryz.prog uid_Schema_1_i [] [x0, x1] r Ho :=
  fn_intro mixed uid_Schema_1_ann (fn := Tryz.f31) (by kernel_rfl) (by kernel_rfl) (by rw [uid_Schema_1_eq]; exact h)

end Go.Proofs.YtijnpcociedigaaGreatDoor
end

section
/- Made by program (Gen.lean): functions of the dump, over trees. -/
set_option maxRecDepth 4000
set_option linter.unusedVariables false
namespace Go.Proofs.YtijnpcociedigaaGreatDoor
open Go Go.Abs

end Go.Proofs.YtijnpcociedigaaGreatDoor
end

section
/- Made by program (Gen.lean): functions of the dump, over trees. -/
set_option maxRecDepth 4000
set_option linter.unusedVariables false
namespace Go.Proofs.YtijnpcociedigaaGreatDoor
open Go Go.Abs

/- runnel/runnellaw9.UidSchemas (in pieces) -/
def runnellaw9_UidSchemas_ann : Nat → List Nat := fun k => match k with | 889888888 => [1] | 701000007 => [1] | 701000016 => [1] | 2000007 => [0, 1, 4, 11, 12, 9999] | 2000016 => [11, 12, 13, 14, 9999] | _ => []
def runnellaw9_UidSchemas_cut : Nat → Bool := fun k => match k with | 7 => true | 16 => true | _ => false
noncomputable def runnellaw9_UidSchemas_c : Code := Tryz.f6.body.getD .skip
noncomputable def runnellaw9_UidSchemas_c7 : Code := (cr (cr (cr (cr (cr runnellaw9_UidSchemas_c)))))
noncomputable def runnellaw9_UidSchemas_c16 : Code := (cr (cr (cr (cr (cr (cr (cr (cr runnellaw9_UidSchemas_c))))))))

def runnellaw9_UidSchemas_P0 (j0 j1 j2 j3 j4 : AV) (H : List Ob) (self : Code → List AV → List Ob → Ko → Prop) (kp : Ko) : Prop :=
  aCall Tryz.prog (.p (.func runnellaw9_known_i [])) [] H fun v0 h1 =>
  aUn .not v0 fun v2 =>
  aGuard v2
  (kp .ret [j0,j1,j2,j3,j4,.top,.top,.top,.top,.top,(.p (.bool false)),.top,.top,.top,.top,.top,.top,.top,v0,(.p (.bool true)),.top,.top,.top,.top,.top,.top,.top,.top,.top,.top,.top,.top,.top,.top,.top,.top,.top,.top,.top,.top,.top,.top,.top,.top,.top,.top,.top,.top,.top,.top,.top,.top,.top,.top,.top,.top,.top,.top,.top,.top,.top,.top,.top,.top,.top,.top,.top,.top,.top,.top,.top,.top,.top,.top,.top,.top,.top,.top,.top,.top,.top,.top,.top,.top,.top,.top,.top,.top,.top,.top,.top,.top,.top,.top,.top,.top,.top,.top,.top,.top,.top,.top,.top,.top,.top,.top,.top,.top,.top,.top,.top,.top,.top] h1)
  (aBin false false .rem j2 (.p (.int .u8 16)) fun v3 =>
  aConvInt .i64 v3 fun v4 =>
  aBin false false .add (.p (.int .i64 1)) v4 fun v5 =>
  aConvInt .i64 j3 fun v6 =>
  aBin false false .rem v6 v5 fun v7 =>
  aBin false false .add (.p (.int .i64 1)) v7 fun v8 =>
  aBin false false .gtr v8 (.p (.int .i64 4)) fun v9 =>
  aGuard v9
  (self runnellaw9_UidSchemas_c7 (keepS [0, 1, 4, 11, 12, 9999] 0 [j0,j1,j2,j3,j4,.top,.top,.top,.top,.top,(.p (.bool false)),v5,(.p (.int .i64 4)),.top,.top,.top,.top,.top,v0,(.p (.bool false)),j2,v3,v4,v5,j3,v6,v5,v7,v8,v8,(.p (.bool true)),.top,.top,.top,.top,.top,.top,.top,.top,.top,.top,.top,.top,.top,.top,.top,.top,.top,.top,.top,.top,.top,.top,.top,.top,.top,.top,.top,.top,.top,.top,.top,.top,.top,.top,.top,.top,.top,.top,.top,.top,.top,.top,.top,.top,.top,.top,.top,.top,.top,.top,.top,.top,.top,.top,.top,.top,.top,.top,.top,.top,.top,.top,.top,.top,.top,.top,.top,.top,.top,.top,.top,.top,.top,.top,.top,.top,.top,.top,.top,.top,.top,.top]) h1 kp)
  (self runnellaw9_UidSchemas_c7 (keepS [0, 1, 4, 11, 12, 9999] 0 [j0,j1,j2,j3,j4,.top,.top,.top,.top,.top,(.p (.bool false)),v5,v8,.top,.top,.top,.top,.top,v0,(.p (.bool false)),j2,v3,v4,v5,j3,v6,v5,v7,v8,v8,(.p (.bool false)),.top,.top,.top,.top,.top,.top,.top,.top,.top,.top,.top,.top,.top,.top,.top,.top,.top,.top,.top,.top,.top,.top,.top,.top,.top,.top,.top,.top,.top,.top,.top,.top,.top,.top,.top,.top,.top,.top,.top,.top,.top,.top,.top,.top,.top,.top,.top,.top,.top,.top,.top,.top,.top,.top,.top,.top,.top,.top,.top,.top,.top,.top,.top,.top,.top,.top,.top,.top,.top,.top,.top,.top,.top,.top,.top,.top,.top,.top,.top,.top,.top,.top]) h1 kp))

theorem runnellaw9_UidSchemas_P0_x (j0 j1 j2 j3 j4 : AV) (H : List Ob) (self : Code → List AV → List Ob → Ko → Prop) (kp : Ko) : awpX Tryz.prog runnellaw9_UidSchemas_ann self runnellaw9_UidSchemas_cut runnellaw9_UidSchemas_c ([j0,j1,j2,j3,j4] ++ List.replicate 108 .top) H kp = runnellaw9_UidSchemas_P0 j0 j1 j2 j3 j4 H self kp := by kernel_rfl

theorem runnellaw9_UidSchemas_c_eq (j0 j1 j2 j3 j4 : AV) (H : List Ob) (kp : Ko) : awp Tryz.prog runnellaw9_UidSchemas_ann runnellaw9_UidSchemas_c [j0,j1,j2,j3,j4,.top,.top,.top,.top,.top,.top,.top,.top,.top,.top,.top,.top,.top,.top,.top,.top,.top,.top,.top,.top,.top,.top,.top,.top,.top,.top,.top,.top,.top,.top,.top,.top,.top,.top,.top,.top,.top,.top,.top,.top,.top,.top,.top,.top,.top,.top,.top,.top,.top,.top,.top,.top,.top,.top,.top,.top,.top,.top,.top,.top,.top,.top,.top,.top,.top,.top,.top,.top,.top,.top,.top,.top,.top,.top,.top,.top,.top,.top,.top,.top,.top,.top,.top,.top,.top,.top,.top,.top,.top,.top,.top,.top,.top,.top,.top,.top,.top,.top,.top,.top,.top,.top,.top,.top,.top,.top,.top,.top] H kp = runnellaw9_UidSchemas_P0 j0 j1 j2 j3 j4 H (awp Tryz.prog runnellaw9_UidSchemas_ann) kp :=
  Eq.trans (by kernel_rfl) ((awpX_eq Tryz.prog runnellaw9_UidSchemas_ann runnellaw9_UidSchemas_cut _ _ _ _).symm.trans (runnellaw9_UidSchemas_P0_x j0 j1 j2 j3 j4 H _ kp))

theorem runnellaw9_UidSchemas_eq (j0 j1 j2 j3 j4 : AV) (H : List Ob) (r : AV) (Ho : List Ob) : aBody Tryz.prog runnellaw9_UidSchemas_ann Tryz.f6 H [j0, j1, j2, j3, j4] r Ho = runnellaw9_UidSchemas_P0 j0 j1 j2 j3 j4 H (awp Tryz.prog runnellaw9_UidSchemas_ann) (kEnd Tryz.prog [.tmp 10] fun v H' => Gives H.length v H' r Ho) :=
  (show aBody Tryz.prog runnellaw9_UidSchemas_ann Tryz.f6 H [j0, j1, j2, j3, j4] r Ho = awp Tryz.prog runnellaw9_UidSchemas_ann runnellaw9_UidSchemas_c [j0,j1,j2,j3,j4,.top,.top,.top,.top,.top,.top,.top,.top,.top,.top,.top,.top,.top,.top,.top,.top,.top,.top,.top,.top,.top,.top,.top,.top,.top,.top,.top,.top,.top,.top,.top,.top,.top,.top,.top,.top,.top,.top,.top,.top,.top,.top,.top,.top,.top,.top,.top,.top,.top,.top,.top,.top,.top,.top,.top,.top,.top,.top,.top,.top,.top,.top,.top,.top,.top,.top,.top,.top,.top,.top,.top,.top,.top,.top,.top,.top,.top,.top,.top,.top,.top,.top,.top,.top,.top,.top,.top,.top,.top,.top,.top,.top,.top,.top,.top,.top,.top,.top,.top,.top,.top,.top,.top,.top,.top,.top,.top,.top] H (kEnd Tryz.prog [.tmp 10] fun v H' => Gives H.length v H' r Ho) from by kernel_rfl).trans (runnellaw9_UidSchemas_c_eq j0 j1 j2 j3 j4 H _)

theorem runnellaw9_UidSchemas_fn {j0 j1 j2 j3 j4 : AV} {r : AV} {Ho : List Ob} (h : runnellaw9_UidSchemas_P0 j0 j1 j2 j3 j4 [] (awp Tryz.prog runnellaw9_UidSchemas_ann) (kEnd Tryz.prog [.tmp 10] fun v H' => Gives 0 v H' r Ho)) : Abs.Fn Tryz.prog runnellaw9_UidSchemas_i [] [j0, j1, j2, j3, j4] r Ho :=
  fn_intro mixed runnellaw9_UidSchemas_ann (fn := Tryz.f6) (by kernel_rfl) (by kernel_rfl) (by rw [runnellaw9_UidSchemas_eq]; exact h)

def runnellaw9_UidSchemas_P7 (j0 j1 j4 j11 j12 : AV) (H : List Ob) (self : Code → List AV → List Ob → Ko → Prop) (kp : Ko) : Prop :=
  aBin false false .rem j0 (.p (.int .u8 3)) fun v10 =>
  aConvInt .i64 v10 fun v11 =>
  aBin false false .add (.p (.int .i64 5)) v11 fun v12 =>
  aCall Tryz.prog (.p (.func runnellaw4_X_i [])) [] H fun v13 h14 =>
  aCall Tryz.prog (.p (.func val_Int_i [])) [j4] h14 fun v15 h16 =>
  aCall Tryz.prog (.p (.func runnellaw4_Lit_i [])) [v15] h16 fun v17 h18 =>
  aBuildSlice 8 [v13, v17] fun v19 =>
  aCall Tryz.prog (.p (.func runnellaw4_Op_i [])) [(.p (.str [97, 100, 100])), v19] h18 fun v20 h21 =>
  aBuild [(.p (.int .i64 0)), (.p (.str [])), (.p (.int .i64 0)), (.full []), (.full []), (.p (.str [])), (.p (.int .i64 0)), (.p (.int .i64 0)), (.p (.bool false)), (.p (.str [])), (.full []), (.p (.int .i64 0)), (.full []), (.p (.int .i64 0)), (.p (.int .i64 0))] [(0, 1, v12), (5, 8, v20)] fun v22 =>
  aAlloc [(.p (.int .i64 0)), (.p (.str [])), (.p (.int .i64 0)), (.full []), (.full []), (.p (.str [])), (.p (.int .i64 0)), (.p (.int .i64 0)), (.p (.bool false)), (.p (.str [])), (.full []), (.p (.int .i64 0)), (.full []), (.p (.int .i64 0)), (.p (.int .i64 0))] h21 fun v23 h24 =>
  aStore 15 v23 v22 h24 fun _ h26 =>
  aFieldAddr 0 v23 fun v27 =>
  aLoad false 1 v27 h26 fun v28 =>
  aBin false false .eql v28 (.p (.int .i64 5)) fun v29 =>
  aGuard v29
  (aBin false false .rem j1 (.p (.int .u8 4)) fun v30 =>
  aConvInt .i64 v30 fun v31 =>
  aBin false false .add (.p (.int .i64 1)) v31 fun v32 =>
  aCall Tryz.prog (.p (.func val_Int_i [])) [j4] h26 fun v33 h34 =>
  aCall Tryz.prog (.p (.func runnellaw4_Lit_i [])) [v33] h34 fun v35 h36 =>
  aBuildSlice 8 [v35] fun v37 =>
  aFieldAddr 13 v23 fun v38 =>
  aStore 1 v38 v32 h36 fun _ h40 =>
  aFieldAddr 4 v23 fun v41 =>
  aStore 1 v41 v37 h40 fun _ h43 =>
  aBin false false .rem j1 (.p (.int .u8 4)) fun v44 =>
  aConvInt .i64 v44 fun v45 =>
  aBin false false .add (.p (.int .i64 1)) v45 fun v46 =>
  aCall Tryz.prog (.p (.func runnellaw9_ref0_i [])) [v46] h43 fun v47 h48 =>
  aBin false false .add (.p (.str [114, 101, 100, 117, 99, 101, 32])) v47 fun v49 =>
  aBin false false .add v49 (.p (.str [32, 105, 110, 116, 32])) fun v50 =>
  self runnellaw9_UidSchemas_c16 (keepS [11, 12, 13, 14, 9999] 0 [j0,j1,.top,.top,j4,.top,.top,.top,.top,.top,.top,j11,j12,v23,v50,.top,.top,.top,.top,.top,.top,.top,.top,.top,.top,.top,.top,.top,.top,.top,.top,j0,v10,v11,v12,v13,j4,v15,v17,v19,v20,v22,v27,v28,(.p (.bool true)),v29,j1,v30,v31,v32,j4,v33,v35,v37,v38,v41,j1,v44,v45,v46,v47,v49,v50,.top,.top,.top,.top,.top,.top,.top,.top,.top,.top,.top,.top,.top,.top,.top,.top,.top,.top,.top,.top,.top,.top,.top,.top,.top,.top,.top,.top,.top,.top,.top,.top,.top,.top,.top,.top,.top,.top,.top,.top,.top,.top,.top,.top,.top,.top,.top,.top,.top,.top]) h48 kp)
  (aBin false false .eql v28 (.p (.int .i64 6)) fun v51 =>
  aGuard v51
  (aConvInt .i64 j1 fun v52 =>
  aBin false false .add (.p (.int .i64 1)) v52 fun v53 =>
  aFieldAddr 14 v23 fun v54 =>
  aStore 1 v54 v53 h26 fun _ h56 =>
  aConvInt .i64 j1 fun v57 =>
  aBin false false .add (.p (.int .i64 1)) v57 fun v58 =>
  aCall Tryz.prog (.p (.func runnellaw9_ref0_i [])) [v58] h56 fun v59 h60 =>
  aBin false false .add (.p (.str [116, 97, 108, 108, 121, 32])) v59 fun v61 =>
  aBin false false .add v61 (.p (.str [32, 105, 110, 116, 32])) fun v62 =>
  self runnellaw9_UidSchemas_c16 (keepS [11, 12, 13, 14, 9999] 0 [j0,j1,.top,.top,j4,.top,.top,.top,.top,.top,.top,j11,j12,v23,v62,.top,.top,.top,.top,.top,.top,.top,.top,.top,.top,.top,.top,.top,.top,.top,.top,j0,v10,v11,v12,v13,j4,v15,v17,v19,v20,v22,v27,v28,(.p (.bool false)),v29,.top,.top,.top,.top,.top,.top,.top,.top,.top,.top,.top,.top,.top,.top,.top,.top,.top,(.p (.bool true)),v51,j1,v52,v53,v54,j1,v57,v58,v59,v61,v62,.top,.top,.top,.top,.top,.top,.top,.top,.top,.top,.top,.top,.top,.top,.top,.top,.top,.top,.top,.top,.top,.top,.top,.top,.top,.top,.top,.top,.top,.top,.top,.top,.top,.top,.top,.top,.top,.top]) h60 kp)
  (self runnellaw9_UidSchemas_c16 (keepS [11, 12, 13, 14, 9999] 0 [j0,j1,.top,.top,j4,.top,.top,.top,.top,.top,.top,j11,j12,v23,(.p (.str [100, 105, 115, 116, 105, 110, 99, 116, 32, 105, 110, 116, 32])),.top,.top,.top,.top,.top,.top,.top,.top,.top,.top,.top,.top,.top,.top,.top,.top,j0,v10,v11,v12,v13,j4,v15,v17,v19,v20,v22,v27,v28,(.p (.bool false)),v29,.top,.top,.top,.top,.top,.top,.top,.top,.top,.top,.top,.top,.top,.top,.top,.top,.top,(.p (.bool false)),v51,.top,.top,.top,.top,.top,.top,.top,.top,.top,.top,.top,.top,.top,.top,.top,.top,.top,.top,.top,.top,.top,.top,.top,.top,.top,.top,.top,.top,.top,.top,.top,.top,.top,.top,.top,.top,.top,.top,.top,.top,.top,.top,.top,.top,.top,.top,.top,.top]) h26 kp))

theorem runnellaw9_UidSchemas_P7_x (j0 j1 j4 j11 j12 : AV) (H : List Ob) (self : Code → List AV → List Ob → Ko → Prop) (kp : Ko) : awpX Tryz.prog runnellaw9_UidSchemas_ann self runnellaw9_UidSchemas_cut runnellaw9_UidSchemas_c7 ([j0,j1,.top,.top,j4] ++ List.replicate 6 .top ++ [j11,j12] ++ List.replicate 100 .top) H kp = runnellaw9_UidSchemas_P7 j0 j1 j4 j11 j12 H self kp := by kernel_rfl

theorem runnellaw9_UidSchemas_c7_eq (j0 j1 j2 j3 j4 j5 j6 j7 j8 j9 j10 j11 j12 j13 j14 j15 j16 j17 j18 j19 j20 j21 j22 j23 j24 j25 j26 j27 j28 j29 j30 j31 j32 j33 j34 j35 j36 j37 j38 j39 j40 j41 j42 j43 j44 j45 j46 j47 j48 j49 j50 j51 j52 j53 j54 j55 j56 j57 j58 j59 j60 j61 j62 j63 j64 j65 j66 j67 j68 j69 j70 j71 j72 j73 j74 j75 j76 j77 j78 j79 j80 j81 j82 j83 j84 j85 j86 j87 j88 j89 j90 j91 j92 j93 j94 j95 j96 j97 j98 j99 j100 j101 j102 j103 j104 j105 j106 j107 j108 j109 j110 j111 j112 : AV) (H : List Ob) (kp : Ko) : awp Tryz.prog runnellaw9_UidSchemas_ann runnellaw9_UidSchemas_c7 (keepS [0, 1, 4, 11, 12, 9999] 0 [j0,j1,j2,j3,j4,j5,j6,j7,j8,j9,j10,j11,j12,j13,j14,j15,j16,j17,j18,j19,j20,j21,j22,j23,j24,j25,j26,j27,j28,j29,j30,j31,j32,j33,j34,j35,j36,j37,j38,j39,j40,j41,j42,j43,j44,j45,j46,j47,j48,j49,j50,j51,j52,j53,j54,j55,j56,j57,j58,j59,j60,j61,j62,j63,j64,j65,j66,j67,j68,j69,j70,j71,j72,j73,j74,j75,j76,j77,j78,j79,j80,j81,j82,j83,j84,j85,j86,j87,j88,j89,j90,j91,j92,j93,j94,j95,j96,j97,j98,j99,j100,j101,j102,j103,j104,j105,j106,j107,j108,j109,j110,j111,j112]) H kp = runnellaw9_UidSchemas_P7 j0 j1 j4 j11 j12 H (awp Tryz.prog runnellaw9_UidSchemas_ann) kp :=
  Eq.trans (by kernel_rfl) ((awpX_eq Tryz.prog runnellaw9_UidSchemas_ann runnellaw9_UidSchemas_cut _ _ _ _).symm.trans (runnellaw9_UidSchemas_P7_x j0 j1 j4 j11 j12 H _ kp))

def runnellaw9_UidSchemas_P16 (j11 j12 j13 j14 : AV) (H : List Ob) (_ : Code → List AV → List Ob → Ko → Prop) (kp : Ko) : Prop :=
  aBuild [(.p (.int .i64 0)), (.full [])] [(0, 1, (.p (.int .i64 1)))] fun v63 =>
  aBuild [(.p (.int .i64 0)), (.p (.str [])), (.p (.int .i64 0)), (.full []), (.full []), (.p (.str [])), (.p (.int .i64 0)), (.p (.int .i64 0)), (.p (.bool false)), (.p (.str [])), (.full []), (.p (.int .i64 0)), (.full []), (.p (.int .i64 0)), (.p (.int .i64 0))] [(0, 1, (.p (.int .i64 1))), (1, 1, (.p (.str [115]))), (2, 2, v63)] fun v64 =>
  aBuild [(.p (.str [])), (.p (.int .i64 0)), (.p (.str [])), (.p (.int .i64 0)), (.full []), (.full []), (.p (.str [])), (.p (.int .i64 0)), (.p (.int .i64 0)), (.p (.bool false)), (.p (.str [])), (.full []), (.p (.int .i64 0)), (.full []), (.p (.int .i64 0)), (.p (.int .i64 0)), (.full []), (.p (.int .i64 0)), (.p (.int .i64 0)), (.p (.str [])), (.p (.bool false))] [(1, 15, v64), (17, 1, (.p (.int .i64 1))), (18, 1, (.p (.int .i64 2))), (19, 1, (.p (.str [103])))] fun v65 =>
  aLoad true 15 j13 H fun v66 =>
  aBuildSlice 1 [(.p (.int .i64 0))] fun v67 =>
  aBuild [(.p (.str [])), (.p (.int .i64 0)), (.p (.str [])), (.p (.int .i64 0)), (.full []), (.full []), (.p (.str [])), (.p (.int .i64 0)), (.p (.int .i64 0)), (.p (.bool false)), (.p (.str [])), (.full []), (.p (.int .i64 0)), (.full []), (.p (.int .i64 0)), (.p (.int .i64 0)), (.full []), (.p (.int .i64 0)), (.p (.int .i64 0)), (.p (.str [])), (.p (.bool false))] [(1, 15, v66), (16, 1, v67), (17, 1, j12), (18, 1, j11), (19, 1, (.p (.str [104])))] fun v68 =>
  aBuild [(.p (.int .i64 0)), (.p (.str [])), (.p (.int .i64 0)), (.full []), (.full []), (.p (.str [])), (.p (.int .i64 0)), (.p (.int .i64 0)), (.p (.bool false)), (.p (.str [])), (.full []), (.p (.int .i64 0)), (.full []), (.p (.int .i64 0)), (.p (.int .i64 0))] [(0, 1, (.p (.int .i64 9))), (1, 1, (.p (.str [97])))] fun v69 =>
  aBuildSlice 1 [(.p (.int .i64 1))] fun v70 =>
  aBuild [(.p (.str [])), (.p (.int .i64 0)), (.p (.str [])), (.p (.int .i64 0)), (.full []), (.full []), (.p (.str [])), (.p (.int .i64 0)), (.p (.int .i64 0)), (.p (.bool false)), (.p (.str [])), (.full []), (.p (.int .i64 0)), (.full []), (.p (.int .i64 0)), (.p (.int .i64 0)), (.full []), (.p (.int .i64 0)), (.p (.int .i64 0)), (.p (.str [])), (.p (.bool false))] [(1, 15, v69), (16, 1, v70), (17, 1, (.p (.int .i64 1))), (18, 1, (.p (.int .i64 1))), (19, 1, (.p (.str [103])))] fun v71 =>
  aBuildSlice 21 [v65, v68, v71] fun v72 =>
  aCall Tryz.prog (.p (.func graph_Check_i [])) [v72] H fun v73 h74 =>
  aExtract v73 0 fun v75 =>
  aExtract v73 1 fun v76 =>
  aBin false false .eql v76 (.p (.int .i64 0)) fun v77 =>
  aMerge true v77 (fun Q78 =>
  aCall Tryz.prog (.p (.func uid_Schema_i [])) [v72, (.p (.int .i64 1))] h74 fun v79 h80 =>
  aCall Tryz.prog (.p (.func runnellaw9_ref0_i [])) [j11] h80 fun v81 h82 =>
  aBin false false .add j14 v81 fun v83 =>
  aBin false false .eql v79 v83 fun v84 =>
  (h82 = h74 ∧ Q78 v84)) fun v85 =>
  aMerge true v85 (fun Q86 =>
  aCall Tryz.prog (.p (.func uid_Schema_i [])) [v72, (.p (.int .i64 0))] h74 fun v87 h88 =>
  aBin false false .eql v87 (.p (.str [115, 111, 117, 114, 99, 101, 32, 105, 110, 116, 32, 50])) fun v89 =>
  (h88 = h74 ∧ Q86 v89)) fun v90 =>
  aMerge true v90 (fun Q91 =>
  aCall Tryz.prog (.p (.func uid_Schema_i [])) [v72, (.p (.int .i64 2))] h74 fun v92 h93 =>
  aBin false false .eql v92 (.p (.str [])) fun v94 =>
  (h93 = h74 ∧ Q91 v94)) fun v95 =>
  kp .ret [.top,.top,.top,.top,.top,.top,.top,.top,.top,.top,v95,j11,j12,j13,j14,v72,v75,v76,.top,.top,.top,.top,.top,.top,.top,.top,.top,.top,.top,.top,.top,.top,.top,.top,.top,.top,.top,.top,.top,.top,.top,.top,.top,.top,.top,.top,.top,.top,.top,.top,.top,.top,.top,.top,.top,.top,.top,.top,.top,.top,.top,.top,.top,.top,.top,.top,.top,.top,.top,.top,.top,.top,.top,.top,.top,v63,v64,v65,v66,v67,j12,j11,v68,v69,v70,v71,v72,v73,v72,v73,v75,v76,v76,v77,v77,.top,.top,.top,.top,.top,.top,.top,v85,v85,.top,.top,.top,v90,v90,.top,.top,.top,v95] h74

theorem runnellaw9_UidSchemas_P16_x (j11 j12 j13 j14 : AV) (H : List Ob) (self : Code → List AV → List Ob → Ko → Prop) (kp : Ko) : awpX Tryz.prog runnellaw9_UidSchemas_ann self runnellaw9_UidSchemas_cut runnellaw9_UidSchemas_c16 (List.replicate 11 .top ++ [j11,j12,j13,j14] ++ List.replicate 98 .top) H kp = runnellaw9_UidSchemas_P16 j11 j12 j13 j14 H self kp := by kernel_rfl

theorem runnellaw9_UidSchemas_c16_eq (j0 j1 j2 j3 j4 j5 j6 j7 j8 j9 j10 j11 j12 j13 j14 j15 j16 j17 j18 j19 j20 j21 j22 j23 j24 j25 j26 j27 j28 j29 j30 j31 j32 j33 j34 j35 j36 j37 j38 j39 j40 j41 j42 j43 j44 j45 j46 j47 j48 j49 j50 j51 j52 j53 j54 j55 j56 j57 j58 j59 j60 j61 j62 j63 j64 j65 j66 j67 j68 j69 j70 j71 j72 j73 j74 j75 j76 j77 j78 j79 j80 j81 j82 j83 j84 j85 j86 j87 j88 j89 j90 j91 j92 j93 j94 j95 j96 j97 j98 j99 j100 j101 j102 j103 j104 j105 j106 j107 j108 j109 j110 j111 j112 : AV) (H : List Ob) (kp : Ko) : awp Tryz.prog runnellaw9_UidSchemas_ann runnellaw9_UidSchemas_c16 (keepS [11, 12, 13, 14, 9999] 0 [j0,j1,j2,j3,j4,j5,j6,j7,j8,j9,j10,j11,j12,j13,j14,j15,j16,j17,j18,j19,j20,j21,j22,j23,j24,j25,j26,j27,j28,j29,j30,j31,j32,j33,j34,j35,j36,j37,j38,j39,j40,j41,j42,j43,j44,j45,j46,j47,j48,j49,j50,j51,j52,j53,j54,j55,j56,j57,j58,j59,j60,j61,j62,j63,j64,j65,j66,j67,j68,j69,j70,j71,j72,j73,j74,j75,j76,j77,j78,j79,j80,j81,j82,j83,j84,j85,j86,j87,j88,j89,j90,j91,j92,j93,j94,j95,j96,j97,j98,j99,j100,j101,j102,j103,j104,j105,j106,j107,j108,j109,j110,j111,j112]) H kp = runnellaw9_UidSchemas_P16 j11 j12 j13 j14 H (awp Tryz.prog runnellaw9_UidSchemas_ann) kp :=
  Eq.trans (by kernel_rfl) ((awpX_eq Tryz.prog runnellaw9_UidSchemas_ann runnellaw9_UidSchemas_cut _ _ _ _).symm.trans (runnellaw9_UidSchemas_P16_x j11 j12 j13 j14 H _ kp))

/- runnel/runnellaw9.known -/
def runnellaw9_known (H : List Ob) (K : AV → List Ob → Prop) : Prop :=
  aCall Tryz.prog (.p (.func runnellaw8_Small_i [])) [] H fun v0 h1 =>
  aIndexAddr 21 v0 (.p (.int .i64 1)) fun v2 =>
  aFieldAddr 0 v2 fun v3 =>
  aStore 1 v3 (.p (.str [109])) h1 fun _ h5 =>
  aCall Tryz.prog (.p (.func uid_IDs_i [])) [v0] h5 fun v6 h7 =>
  aLen false false v6 fun v8 =>
  aBin false false .eql v8 (.p (.int .i64 3)) fun v9 =>
  aMerge true v9 (fun Q10 =>
  aIndexAddr 1 v6 (.p (.int .i64 0)) fun v11 =>
  aLoad false 1 v11 h7 fun v12 =>
  aBin false false .eql v12 (.p (.str [97, 58, 49, 58, 115, 40, 41])) fun v13 =>
  (h7 = h7 ∧ Q10 v13)) fun v14 =>
  aMerge true v14 (fun Q15 =>
  aIndexAddr 1 v6 (.p (.int .i64 1)) fun v16 =>
  aLoad false 1 v16 h7 fun v17 =>
  aBin false false .eql v17 (.p (.str [117, 58, 109])) fun v18 =>
  (h7 = h7 ∧ Q15 v18)) fun v19 =>
  aMerge true v19 (fun Q20 =>
  aIndexAddr 1 v6 (.p (.int .i64 2)) fun v21 =>
  aLoad false 1 v21 h7 fun v22 =>
  aBin false false .eql v22 (.p (.str [97, 58, 57, 58, 97, 40, 117, 58, 109, 41])) fun v23 =>
  (h7 = h7 ∧ Q20 v23)) fun v24 =>
  aMerge true v24 (fun Q25 =>
  aCall Tryz.prog (.p (.func uid_Find_i [])) [v0, (.p (.str [117, 58, 109]))] h7 fun v26 h27 =>
  aBin false false .eql v26 (.p (.int .i64 1)) fun v28 =>
  (h27 = h7 ∧ Q25 v28)) fun v29 =>
  aMerge true v29 (fun Q30 =>
  aCall Tryz.prog (.p (.func uid_Find_i [])) [v0, (.p (.str [120]))] h7 fun v31 h32 =>
  aBin false false .eql v31 (.p (.int .i64 (-1))) fun v33 =>
  (h32 = h7 ∧ Q30 v33)) fun v34 =>
  aMerge true v34 (fun Q35 =>
  aCall Tryz.prog (.p (.func uid_Schema_i [])) [v0, (.p (.int .i64 0))] h7 fun v36 h37 =>
  aBin false false .eql v36 (.p (.str [115, 111, 117, 114, 99, 101, 32, 105, 110, 116, 32, 52])) fun v38 =>
  (h37 = h7 ∧ Q35 v38)) fun v39 =>
  aMerge true v39 (fun Q40 =>
  aCall Tryz.prog (.p (.func uid_Schema_i [])) [v0, (.p (.int .i64 1))] h7 fun v41 h42 =>
  aBin false false .eql v41 (.p (.str [])) fun v43 =>
  (h42 = h7 ∧ Q40 v43)) fun v44 =>
  K v44 h7

def runnellaw9_known_ann : Nat → List Nat := fun _ => []

theorem runnellaw9_known_eq (H : List Ob) (r : AV) (Ho : List Ob) : aBody Tryz.prog runnellaw9_known_ann Tryz.f7 H [] r Ho = runnellaw9_known H (fun v H' => Gives H.length v H' r Ho) := by kernel_rfl

theorem runnellaw9_known_fn {r : AV} {Ho : List Ob} (h : runnellaw9_known [] (fun v H' => Gives 0 v H' r Ho)) : Abs.Fn Tryz.prog runnellaw9_known_i [] [] r Ho :=
  fn_intro mixed runnellaw9_known_ann (fn := Tryz.f7) (by kernel_rfl) (by kernel_rfl) (by rw [runnellaw9_known_eq]; exact h)

end Go.Proofs.YtijnpcociedigaaGreatDoor
end
