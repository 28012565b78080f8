/- Made by program (Gen.lean): functions of the dump, over trees. -/
import Derived.Test.YtdmgbhamigegfaaGreatDoorS1

section
/- Made by program (Gen.lean): functions of the dump, over trees. -/
set_option maxRecDepth 4000
set_option linter.unusedVariables false
namespace Go.Proofs.YtdmgbhamigegfaaGreatDoor
open Go Go.Abs
def runnellaw8_Small (H:List Ob) (K:AV→List Ob→Prop):Prop :=
 aBuild [(.p (.int .i64 0)),(.full [])] [(0,1,(.p (.int .i64 1)))] fun v0 =>
 aBuild [(.p (.int .i64 0)),(.p (.str [])),(.p (.int .i64 0)),(.full []),(.full []),(.p (.str [])),(.p (.int .i64 0)),(.p (.int .i64 0)),(.p (.bool false)),(.p (.str [])),(.full []),(.p (.int .i64 0)),(.full []),(.p (.int .i64 0)),(.p (.int .i64 0))] [(0,1,(.p (.int .i64 1))),(1,1,(.p (.str [115]))),(2,2,v0)] fun v1 =>
 aBuild [(.p (.str [])),(.p (.int .i64 0)),(.p (.str [])),(.p (.int .i64 0)),(.full []),(.full []),(.p (.str [])),(.p (.int .i64 0)),(.p (.int .i64 0)),(.p (.bool false)),(.p (.str [])),(.full []),(.p (.int .i64 0)),(.full []),(.p (.int .i64 0)),(.p (.int .i64 0)),(.full []),(.p (.int .i64 0)),(.p (.int .i64 0)),(.p (.str [])),(.p (.bool false))] [(1,15,v1),(17,1,(.p (.int .i64 2))),(18,1,(.p (.int .i64 4))),(19,1,(.p (.str [103])))] fun v2 =>
 aCall Tryz.prog (.p (.func runnellaw4_X_i [])) [] H fun v3 h4 =>
 aCall Tryz.prog (.p (.func val_Int_i [])) [(.p (.int .i64 1))] h4 fun v5 h6 =>
 aCall Tryz.prog (.p (.func runnellaw4_Lit_i [])) [v5] h6 fun v7 h8 =>
 aBuildSlice 8 [v3,v7] fun v9 =>
 aCall Tryz.prog (.p (.func runnellaw4_Op_i [])) [(.p (.str [97,100,100])),v9] h8 fun v10 h11 =>
 aBuildSlice 8 [v10] fun v12 =>
 aBuild [(.p (.int .i64 0)),(.p (.str [])),(.p (.int .i64 0)),(.full []),(.full []),(.p (.str [])),(.p (.int .i64 0)),(.p (.int .i64 0)),(.p (.bool false)),(.p (.str [])),(.full []),(.p (.int .i64 0)),(.full []),(.p (.int .i64 0)),(.p (.int .i64 0))] [(0,1,(.p (.int .i64 2))),(4,1,v12)] fun v13 =>
 aBuildSlice 1 [(.p (.int .i64 0))] fun v14 =>
 aBuild [(.p (.str [])),(.p (.int .i64 0)),(.p (.str [])),(.p (.int .i64 0)),(.full []),(.full []),(.p (.str [])),(.p (.int .i64 0)),(.p (.int .i64 0)),(.p (.bool false)),(.p (.str [])),(.full []),(.p (.int .i64 0)),(.full []),(.p (.int .i64 0)),(.p (.int .i64 0)),(.full []),(.p (.int .i64 0)),(.p (.int .i64 0)),(.p (.str [])),(.p (.bool false))] [(1,15,v13),(16,1,v14),(17,1,(.p (.int .i64 2))),(18,1,(.p (.int .i64 4))),(19,1,(.p (.str [103])))] fun v15 =>
 aBuild [(.p (.int .i64 0)),(.p (.str [])),(.p (.int .i64 0)),(.full []),(.full []),(.p (.str [])),(.p (.int .i64 0)),(.p (.int .i64 0)),(.p (.bool false)),(.p (.str [])),(.full []),(.p (.int .i64 0)),(.full []),(.p (.int .i64 0)),(.p (.int .i64 0))] [(0,1,(.p (.int .i64 9))),(1,1,(.p (.str [97])))] fun v16 =>
 aBuildSlice 1 [(.p (.int .i64 1))] fun v17 =>
 aBuild [(.p (.str [])),(.p (.int .i64 0)),(.p (.str [])),(.p (.int .i64 0)),(.full []),(.full []),(.p (.str [])),(.p (.int .i64 0)),(.p (.int .i64 0)),(.p (.bool false)),(.p (.str [])),(.full []),(.p (.int .i64 0)),(.full []),(.p (.int .i64 0)),(.p (.int .i64 0)),(.full []),(.p (.int .i64 0)),(.p (.int .i64 0)),(.p (.str [])),(.p (.bool false))] [(1,15,v16),(16,1,v17),(17,1,(.p (.int .i64 2))),(18,1,(.p (.int .i64 4))),(19,1,(.p (.str [103])))] fun v18 =>
 aBuildSlice 21 [v2,v15,v18] fun v19 =>
 K v19 h11
def runnellaw8_Small_ann:Nat→List Nat:=fun _=>[]
theorem runnellaw8_Small_eq (H:List Ob) (r:AV) (Ho:List Ob):aBody Tryz.prog runnellaw8_Small_ann Tryz.f36 H [] r Ho = runnellaw8_Small H (fun v H'=>Gives H.length v H' r Ho):=by kernel_rfl
theorem runnellaw8_Small_fn {r:AV} {Ho:List Ob} (h:runnellaw8_Small [] (fun v H'=>Gives 0 v H' r Ho)):Abs.Fn Tryz.prog runnellaw8_Small_i [] [] r Ho :=
 fn_intro mixed runnellaw8_Small_ann (fn:=Tryz.f36) (by kernel_rfl) (by kernel_rfl) (by rw [runnellaw8_Small_eq]; exact h)
def graph_Check_L2 (q2s0 q2s44 q2s45 y0:AV) (H:List Ob) (B2:List AV→List Ob→Prop) (K:AV→List Ob→Prop):Prop :=
 aBin false false .lss y0 q2s45 fun v28 =>
 aGuard v28
 (aIndexAddr 21 q2s44 y0 fun v29 =>
 aLoad true 21 v29 H fun v30 =>
 aAlloc [(.p (.str [])),(.p (.int .i64 0)),(.p (.str [])),(.p (.int .i64 0)),(.full []),(.full []),(.p (.str [])),(.p (.int .i64 0)),(.p (.int .i64 0)),(.p (.bool false)),(.p (.str [])),(.full []),(.p (.int .i64 0)),(.full []),(.p (.int .i64 0)),(.p (.int .i64 0)),(.full []),(.p (.int .i64 0)),(.p (.int .i64 0)),(.p (.str [])),(.p (.bool false))] H fun v31 h32 =>
 aStore 21 v31 v30 h32 fun _ h34 =>
 aFieldAddr 1 v31 fun v35 =>
 aFieldAddr 0 v35 fun v36 =>
 aLoad false 1 v36 h34 fun v37 =>
 aBin false false .neq v37 (.p (.int .i64 9)) fun v38 =>
 aMerge true v38 (fun Q39 =>
 aCall Tryz.prog (.p (.func graph_Outs_i [])) [q2s0,y0] h34 fun v40 h41 =>
 aLenS false v40 fun v42 =>
 aBin false false .eql v42 (.p (.int .i64 0)) fun v43 =>
 (h41 = h34 ∧ Q39 v43)) fun v44 =>
 aGuard v44
 (K (.tup [y0,(.p (.int .i64 1))]) h34)
 (aBin false false .add y0 (.p (.int .i64 1)) fun v45 =>
 B2 [v45] h34))
 (K (.tup [(.p (.int .i64 0)),(.p (.int .i64 0))]) H)
def graph_Check_L1 (q1s0 q1s19 q1s20 y0 y1:AV) (H:List Ob) (B1:List AV→List Ob→Prop) (K:AV→List Ob→Prop):Prop :=
 aBin false false .lss y1 q1s20 fun v5 =>
 aGuard v5
 (aIndexAddr 21 q1s19 y1 fun v6 =>
 aLoad true 21 v6 H fun v7 =>
 aAlloc [(.p (.str [])),(.p (.int .i64 0)),(.p (.str [])),(.p (.int .i64 0)),(.full []),(.full []),(.p (.str [])),(.p (.int .i64 0)),(.p (.int .i64 0)),(.p (.bool false)),(.p (.str [])),(.full []),(.p (.int .i64 0)),(.full []),(.p (.int .i64 0)),(.p (.int .i64 0)),(.full []),(.p (.int .i64 0)),(.p (.int .i64 0)),(.p (.str [])),(.p (.bool false))] H fun v8 h9 =>
 aStore 21 v8 v7 h9 fun _ h11 =>
 aAlloc [(.p (.int .i64 0)),(.full [])] h11 fun v12 h13 =>
 aLoad true 21 v8 h13 fun v14 =>
 aSlice false 21 q1s0 none (some y1) none fun v15 =>
 aCallT Tryz.prog (.p (.func graph_Node_check_i [])) [v14,v15,y0] fun v16 =>
 aExtract v16 0 fun v17 =>
 aExtract v16 1 fun v18 =>
 aStore 2 v12 v17 h13 fun _ h20 =>
 aBin false false .neq v18 (.p (.int .i64 0)) fun v21 =>
 aGuard v21
 (K (.tup [y1,v18]) h20)
 (aLoad true 2 v12 h20 fun v22 =>
 aBuildSlice 2 [v22] fun v23 =>
 aAppend false 2 32 y0 v23 h20 fun v24 h25 =>
 aBin false false .add y1 (.p (.int .i64 1)) fun v26 =>
 B1 [v24,v26] h25))
 (aLen false false q1s0 fun v27 =>
 aLoopN 1 [(.p (.int .i64 0))] H fun xs H B2=>graph_Check_L2 q1s0 q1s0 v27 (xs.getD 0 .top) H B2 K)
def graph_Check (x0:AV) (H:List Ob) (K:AV→List Ob→Prop):Prop :=
 aLen false false x0 fun v0 =>
 aBin false false .eql v0 (.p (.int .i64 0)) fun v1 =>
 aGuard v1
 (K (.tup [(.p (.int .i64 0)),(.p (.int .i64 3))]) H)
 (aLen false false x0 fun v2 =>
 aBin false false .gtr v2 (.p (.int .i64 16)) fun v3 =>
 aGuard v3
 (K (.tup [(.p (.int .i64 0)),(.p (.int .i64 10))]) H)
 (aLen false false x0 fun v4 =>
 aLoopN 2 [(.full []),(.p (.int .i64 0))] H fun xs H B1=>graph_Check_L1 x0 x0 v4 (xs.getD 0 .top) (xs.getD 1 .top) H B1 K))
def graph_Check_ann:Nat→List Nat:=fun k=>match k with | 7=>[4,21] | 15=>[46] | _=>[]
theorem graph_Check_eq (x0:AV) (H:List Ob) (r:AV) (Ho:List Ob):aBody Tryz.prog graph_Check_ann Tryz.f48 H [x0] r Ho = graph_Check x0 H (fun v H'=>Gives H.length v H' r Ho):=by kernel_rfl
theorem graph_Check_fn {x0:AV} {r:AV} {Ho:List Ob} (h:graph_Check x0 [] (fun v H'=>Gives 0 v H' r Ho)):Abs.Fn Tryz.prog graph_Check_i [] [x0] r Ho :=
 fn_intro mixed graph_Check_ann (fn:=Tryz.f48) (by kernel_rfl) (by kernel_rfl) (by rw [graph_Check_eq]; exact h)
def graph_Named (x0 x1:AV) (H:List Ob) (K:AV→List Ob→Prop):Prop :=
 aBox x1 H fun v0 h1 =>
 aMakeFunc graph_Named_1_i [v0] h1 fun v2 h3 =>
 aCall Tryz.prog (.p (.func graph_which_graph_Node_i [])) [x0,v2] h3 fun v4 h5 =>
 K v4 h5
def graph_Named_ann:Nat→List Nat:=fun _=>[]
theorem graph_Named_eq (x0 x1:AV) (H:List Ob) (r:AV) (Ho:List Ob):aBody Tryz.prog graph_Named_ann Tryz.f49 H [x0,x1] r Ho = graph_Named x0 x1 H (fun v H'=>Gives H.length v H' r Ho):=by kernel_rfl
theorem graph_Named_fn {x0 x1:AV} {r:AV} {Ho:List Ob} (h:graph_Named x0 x1 [] (fun v H'=>Gives 0 v H' r Ho)):Abs.Fn Tryz.prog graph_Named_i [] [x0,x1] r Ho :=
 fn_intro mixed graph_Named_ann (fn:=Tryz.f49) (by kernel_rfl) (by kernel_rfl) (by rw [graph_Named_eq]; exact h)
def graph_Node_check_ann:Nat→List Nat:=fun k=>match k with | 1000999999=>[1] | 2000001=>[1,2,3,6,9999] | 2000002=>[1,2,3,6,8,9999] | 2000003=>[1,2,3,6,8,9,9999] | 2000004=>[1,2,3,6,8,9,14,9999] | 2000005=>[1,2,3,6,8,9,14,9999] | 2000007=>[1,2,3,6,9,29,9999] | 2000009=>[1,2,3,6,9,39,9999] | 2000010=>[1,2,3,6,9,39,9999] | 2000011=>[1,2,3,6,9,39,9999] | 2000012=>[1,2,3,6,9,39,9999] | 2000013=>[1,2,3,6,9,39,9999] | 2000014=>[1,2,3,6,9,9999] | 2000015=>[1,3,6,9,10,11,9999] | 2000017=>[1,3,6,9,10,11,9999] | 2000019=>[6,10,11,9999] | 3000015=>[1000] | _=>[]
def graph_Node_check_cut:Nat→Bool:=fun k=>match k with | 1=>true | 2=>true | 3=>true | 4=>true | 5=>true | 7=>true | 9=>true | 10=>true | 11=>true | 12=>true | 13=>true | 14=>true | 15=>true | 17=>true | 19=>true | _=>false
noncomputable def graph_Node_check_c:Code:=Tryz.f86.body.getD .skip
noncomputable def graph_Node_check_c1:Code:=(cr graph_Node_check_c)
noncomputable def graph_Node_check_c2:Code:=(cr (cr graph_Node_check_c))
noncomputable def graph_Node_check_c3:Code:=(cr (cr (cr graph_Node_check_c)))
noncomputable def graph_Node_check_c4:Code:=(cr (cl (cl (cl (cr (cr (cr graph_Node_check_c)))))))
noncomputable def graph_Node_check_c5:Code:=(cr (cl (cl (cr (cr (cr graph_Node_check_c))))))
noncomputable def graph_Node_check_c7:Code:=(cr (cr (cr (cl (cl (cr (cr (cr graph_Node_check_c))))))))
noncomputable def graph_Node_check_c9:Code:=(cr (cl (cr (cr (cr (cr (cl (cl (cr (cr (cr graph_Node_check_c)))))))))))
noncomputable def graph_Node_check_c10:Code:=(cr (cr (cr (cl (cr (cr (cr (cr (cl (cl (cr (cr (cr graph_Node_check_c)))))))))))))
noncomputable def graph_Node_check_c11:Code:=(cr (cr (cr (cr (cr (cl (cr (cr (cr (cr (cl (cl (cr (cr (cr graph_Node_check_c)))))))))))))))
noncomputable def graph_Node_check_c12:Code:=(cr (cr (cr (cr (cr (cr (cr (cl (cr (cr (cr (cr (cl (cl (cr (cr (cr graph_Node_check_c)))))))))))))))))
noncomputable def graph_Node_check_c13:Code:=(cr (cr (cr (cr (cr (cl (cl (cr (cr (cr graph_Node_check_c))))))))))
noncomputable def graph_Node_check_c14:Code:=(cr (cr (cr (cr graph_Node_check_c))))
noncomputable def graph_Node_check_c15:Code:=(cr (cr (cr (cr (cr graph_Node_check_c)))))
noncomputable def graph_Node_check_c17:Code:=(cr (cr (cr (cr (cr (cr graph_Node_check_c))))))
noncomputable def graph_Node_check_c19:Code:=(cr (cr (cr (cr (cr (cr (cr graph_Node_check_c)))))))
def graph_Node_check_P0 (j0 j1 j2:AV) (H:List Ob) (self:Code→List AV→List Ob→Ko→Prop) (kp:Ko):Prop :=
 aBox j0 H fun v0 h1 =>
 aAlloc [(.p (.int .i64 0)),(.full [])] h1 fun v2 h3 =>
 self graph_Node_check_c1 (keepS [1,2,3,6,9999] 0 [j0,j1,j2,v0,.top,.top,v2,(.p (.int .i64 0)),.top,.top,.top,.top,.top,.top,.top,.top,.top,.top,.top,.top,.top,.top,.top,.top,.top,.top,.top,.top,.top,.top,.top,.top,.top,.top,.top,.top,.top,.top,.top,.top,.top,.top,.top,.top,.top,.top,.top,.top,.top,.top,.top,.top,.top,.top,.top,.top,.top,.top,.top,.top,.top,.top,.top,.top,.top,.top,.top,.top,.top,.top,.top,.top,.top,.top,.top,.top,.top,.top,.top,.top,.top,.top,.top,.top,.top,.top,.top,.top,.top,.top,.top,.top,.top,.top,.top]) h3 kp
theorem graph_Node_check_P0_x (j0 j1 j2:AV) (H:List Ob) (self:Code→List AV→List Ob→Ko→Prop) (kp:Ko):awpX Tryz.prog graph_Node_check_ann self graph_Node_check_cut graph_Node_check_c ([j0,j1,j2] ++ List.replicate 92 .top) H kp = graph_Node_check_P0 j0 j1 j2 H self kp:=by kernel_rfl
theorem graph_Node_check_c_eq (j0 j1 j2:AV) (H:List Ob) (kp:Ko):awp Tryz.prog graph_Node_check_ann graph_Node_check_c [j0,j1,j2,.top,.top,.top,.top,.top,.top,.top,.top,.top,.top,.top,.top,.top,.top,.top,.top,.top,.top,.top,.top,.top,.top,.top,.top,.top,.top,.top,.top,.top,.top,.top,.top,.top,.top,.top,.top,.top,.top,.top,.top,.top,.top,.top,.top,.top,.top,.top,.top,.top,.top,.top,.top,.top,.top,.top,.top,.top,.top,.top,.top,.top,.top,.top,.top,.top,.top,.top,.top,.top,.top,.top,.top,.top,.top,.top,.top,.top,.top,.top,.top,.top,.top,.top,.top,.top,.top,.top,.top,.top,.top,.top,.top] H kp = graph_Node_check_P0 j0 j1 j2 H (awp Tryz.prog graph_Node_check_ann) kp :=
 Eq.trans (by kernel_rfl) ((awpX_eq Tryz.prog graph_Node_check_ann graph_Node_check_cut _ _ _ _).symm.trans (graph_Node_check_P0_x j0 j1 j2 H _ kp))
theorem graph_Node_check_eq (j0 j1 j2:AV) (H:List Ob) (r:AV) (Ho:List Ob):aBody Tryz.prog graph_Node_check_ann Tryz.f86 H [j0,j1,j2] r Ho = graph_Node_check_P0 j0 j1 j2 H (awp Tryz.prog graph_Node_check_ann) (kEnd Tryz.prog [.cell 6 45,.tmp 7] fun v H'=>Gives H.length v H' r Ho) :=
 (show aBody Tryz.prog graph_Node_check_ann Tryz.f86 H [j0,j1,j2] r Ho = awp Tryz.prog graph_Node_check_ann graph_Node_check_c [j0,j1,j2,.top,.top,.top,.top,.top,.top,.top,.top,.top,.top,.top,.top,.top,.top,.top,.top,.top,.top,.top,.top,.top,.top,.top,.top,.top,.top,.top,.top,.top,.top,.top,.top,.top,.top,.top,.top,.top,.top,.top,.top,.top,.top,.top,.top,.top,.top,.top,.top,.top,.top,.top,.top,.top,.top,.top,.top,.top,.top,.top,.top,.top,.top,.top,.top,.top,.top,.top,.top,.top,.top,.top,.top,.top,.top,.top,.top,.top,.top,.top,.top,.top,.top,.top,.top,.top,.top,.top,.top,.top,.top,.top,.top] H (kEnd Tryz.prog [.cell 6 45,.tmp 7] fun v H'=>Gives H.length v H' r Ho) from by kernel_rfl).trans (graph_Node_check_c_eq j0 j1 j2 H _)
theorem graph_Node_check_fn {j0 j1 j2:AV} {r:AV} {Ho:List Ob} (h:graph_Node_check_P0 j0 j1 j2 [] (awp Tryz.prog graph_Node_check_ann) (kEnd Tryz.prog [.cell 6 45,.tmp 7] fun v H'=>Gives 0 v H' r Ho)):Abs.Fn Tryz.prog graph_Node_check_i [] [j0,j1,j2] r Ho :=
 fn_intro mixed graph_Node_check_ann (fn:=Tryz.f86) (by kernel_rfl) (by kernel_rfl) (by rw [graph_Node_check_eq]; exact h)
def graph_Node_check_P1 (j1 j2 j3 j6:AV) (H:List Ob) (self:Code→List AV→List Ob→Ko→Prop) (kp:Ko):Prop :=
 aMakeFunc graph_Node_check_1_i [j3] H fun v4 h5 =>
 self graph_Node_check_c2 (keepS [1,2,3,6,8,9999] 0 [.top,j1,j2,j3,.top,.top,j6,.top,v4,.top,.top,.top,v4,.top,.top,.top,.top,.top,.top,.top,.top,.top,.top,.top,.top,.top,.top,.top,.top,.top,.top,.top,.top,.top,.top,.top,.top,.top,.top,.top,.top,.top,.top,.top,.top,.top,.top,.top,.top,.top,.top,.top,.top,.top,.top,.top,.top,.top,.top,.top,.top,.top,.top,.top,.top,.top,.top,.top,.top,.top,.top,.top,.top,.top,.top,.top,.top,.top,.top,.top,.top,.top,.top,.top,.top,.top,.top,.top,.top,.top,.top,.top,.top,.top,.top]) h5 kp
theorem graph_Node_check_P1_x (j1 j2 j3 j6:AV) (H:List Ob) (self:Code→List AV→List Ob→Ko→Prop) (kp:Ko):awpX Tryz.prog graph_Node_check_ann self graph_Node_check_cut graph_Node_check_c1 ([.top,j1,j2,j3,.top,.top,j6] ++ List.replicate 88 .top) H kp = graph_Node_check_P1 j1 j2 j3 j6 H self kp:=by kernel_rfl
theorem graph_Node_check_c1_eq (j0 j1 j2 j3 j4 j5 j6 j7 j8 j9 j10 j11 j12 j13 j14 j15 j16 j17 j18 j19 j20 j21 j22 j23 j24 j25 j26 j27 j28 j29 j30 j31 j32 j33 j34 j35 j36 j37 j38 j39 j40 j41 j42 j43 j44 j45 j46 j47 j48 j49 j50 j51 j52 j53 j54 j55 j56 j57 j58 j59 j60 j61 j62 j63 j64 j65 j66 j67 j68 j69 j70 j71 j72 j73 j74 j75 j76 j77 j78 j79 j80 j81 j82 j83 j84 j85 j86 j87 j88 j89 j90 j91 j92 j93 j94:AV) (H:List Ob) (kp:Ko):awp Tryz.prog graph_Node_check_ann graph_Node_check_c1 (keepS [1,2,3,6,9999] 0 [j0,j1,j2,j3,j4,j5,j6,j7,j8,j9,j10,j11,j12,j13,j14,j15,j16,j17,j18,j19,j20,j21,j22,j23,j24,j25,j26,j27,j28,j29,j30,j31,j32,j33,j34,j35,j36,j37,j38,j39,j40,j41,j42,j43,j44,j45,j46,j47,j48,j49,j50,j51,j52,j53,j54,j55,j56,j57,j58,j59,j60,j61,j62,j63,j64,j65,j66,j67,j68,j69,j70,j71,j72,j73,j74,j75,j76,j77,j78,j79,j80,j81,j82,j83,j84,j85,j86,j87,j88,j89,j90,j91,j92,j93,j94]) H kp = graph_Node_check_P1 j1 j2 j3 j6 H (awp Tryz.prog graph_Node_check_ann) kp :=
 Eq.trans (by kernel_rfl) ((awpX_eq Tryz.prog graph_Node_check_ann graph_Node_check_cut _ _ _ _).symm.trans (graph_Node_check_P1_x j1 j2 j3 j6 H _ kp))
def graph_Node_check_P2 (j1 j2 j3 j6 j8:AV) (H:List Ob) (self:Code→List AV→List Ob→Ko→Prop) (kp:Ko):Prop :=
 aMakeFunc graph_Node_check_2_i [j3] H fun v6 h7 =>
 self graph_Node_check_c3 (keepS [1,2,3,6,8,9,9999] 0 [.top,j1,j2,j3,.top,.top,j6,.top,j8,v6,.top,.top,.top,v6,.top,.top,.top,.top,.top,.top,.top,.top,.top,.top,.top,.top,.top,.top,.top,.top,.top,.top,.top,.top,.top,.top,.top,.top,.top,.top,.top,.top,.top,.top,.top,.top,.top,.top,.top,.top,.top,.top,.top,.top,.top,.top,.top,.top,.top,.top,.top,.top,.top,.top,.top,.top,.top,.top,.top,.top,.top,.top,.top,.top,.top,.top,.top,.top,.top,.top,.top,.top,.top,.top,.top,.top,.top,.top,.top,.top,.top,.top,.top,.top,.top]) h7 kp
theorem graph_Node_check_P2_x (j1 j2 j3 j6 j8:AV) (H:List Ob) (self:Code→List AV→List Ob→Ko→Prop) (kp:Ko):awpX Tryz.prog graph_Node_check_ann self graph_Node_check_cut graph_Node_check_c2 ([.top,j1,j2,j3,.top,.top,j6,.top,j8] ++ List.replicate 86 .top) H kp = graph_Node_check_P2 j1 j2 j3 j6 j8 H self kp:=by kernel_rfl
theorem graph_Node_check_c2_eq (j0 j1 j2 j3 j4 j5 j6 j7 j8 j9 j10 j11 j12 j13 j14 j15 j16 j17 j18 j19 j20 j21 j22 j23 j24 j25 j26 j27 j28 j29 j30 j31 j32 j33 j34 j35 j36 j37 j38 j39 j40 j41 j42 j43 j44 j45 j46 j47 j48 j49 j50 j51 j52 j53 j54 j55 j56 j57 j58 j59 j60 j61 j62 j63 j64 j65 j66 j67 j68 j69 j70 j71 j72 j73 j74 j75 j76 j77 j78 j79 j80 j81 j82 j83 j84 j85 j86 j87 j88 j89 j90 j91 j92 j93 j94:AV) (H:List Ob) (kp:Ko):awp Tryz.prog graph_Node_check_ann graph_Node_check_c2 (keepS [1,2,3,6,8,9999] 0 [j0,j1,j2,j3,j4,j5,j6,j7,j8,j9,j10,j11,j12,j13,j14,j15,j16,j17,j18,j19,j20,j21,j22,j23,j24,j25,j26,j27,j28,j29,j30,j31,j32,j33,j34,j35,j36,j37,j38,j39,j40,j41,j42,j43,j44,j45,j46,j47,j48,j49,j50,j51,j52,j53,j54,j55,j56,j57,j58,j59,j60,j61,j62,j63,j64,j65,j66,j67,j68,j69,j70,j71,j72,j73,j74,j75,j76,j77,j78,j79,j80,j81,j82,j83,j84,j85,j86,j87,j88,j89,j90,j91,j92,j93,j94]) H kp = graph_Node_check_P2 j1 j2 j3 j6 j8 H (awp Tryz.prog graph_Node_check_ann) kp :=
 Eq.trans (by kernel_rfl) ((awpX_eq Tryz.prog graph_Node_check_ann graph_Node_check_cut _ _ _ _).symm.trans (graph_Node_check_P2_x j1 j2 j3 j6 j8 H _ kp))
def graph_Node_check_P3 (j1 j2 j3 j6 j8 j9:AV) (H:List Ob) (self:Code→List AV→List Ob→Ko→Prop) (kp:Ko):Prop :=
 aFieldAddr 0 j3 fun v8 =>
 aLoad false 1 v8 H fun v9 =>
 aBin false false .neq v9 (.p (.str [])) fun v10 =>
 aMerge true v10 (fun Q11 =>
 aFieldAddr 0 j3 fun v12 =>
 aLoad false 1 v12 H fun v13 =>
 aCall Tryz.prog (.p (.func op_Name_i [])) [v13] H fun v14 h15 =>
 aUn .not v14 fun v16 =>
 (h15 = H ∧ Q11 v16)) fun v17 =>
 self graph_Node_check_c4 (keepS [1,2,3,6,8,9,14,9999] 0 [.top,j1,j2,j3,.top,.top,j6,.top,j8,j9,.top,.top,.top,.top,v17,v8,v9,v10,v10,.top,.top,.top,.top,v17,.top,.top,.top,.top,.top,.top,.top,.top,.top,.top,.top,.top,.top,.top,.top,.top,.top,.top,.top,.top,.top,.top,.top,.top,.top,.top,.top,.top,.top,.top,.top,.top,.top,.top,.top,.top,.top,.top,.top,.top,.top,.top,.top,.top,.top,.top,.top,.top,.top,.top,.top,.top,.top,.top,.top,.top,.top,.top,.top,.top,.top,.top,.top,.top,.top,.top,.top,.top,.top,.top,.top]) H (kSeq self graph_Node_check_c5 [1,2,3,6,8,9,14,9999] (kBlock 0 (kSeq self graph_Node_check_c14 [1,2,3,6,9,9999] kp)))
theorem graph_Node_check_P3_x (j1 j2 j3 j6 j8 j9:AV) (H:List Ob) (self:Code→List AV→List Ob→Ko→Prop) (kp:Ko):awpX Tryz.prog graph_Node_check_ann self graph_Node_check_cut graph_Node_check_c3 ([.top,j1,j2,j3,.top,.top,j6,.top,j8,j9] ++ List.replicate 85 .top) H kp = graph_Node_check_P3 j1 j2 j3 j6 j8 j9 H self kp:=by kernel_rfl
theorem graph_Node_check_c3_eq (j0 j1 j2 j3 j4 j5 j6 j7 j8 j9 j10 j11 j12 j13 j14 j15 j16 j17 j18 j19 j20 j21 j22 j23 j24 j25 j26 j27 j28 j29 j30 j31 j32 j33 j34 j35 j36 j37 j38 j39 j40 j41 j42 j43 j44 j45 j46 j47 j48 j49 j50 j51 j52 j53 j54 j55 j56 j57 j58 j59 j60 j61 j62 j63 j64 j65 j66 j67 j68 j69 j70 j71 j72 j73 j74 j75 j76 j77 j78 j79 j80 j81 j82 j83 j84 j85 j86 j87 j88 j89 j90 j91 j92 j93 j94:AV) (H:List Ob) (kp:Ko):awp Tryz.prog graph_Node_check_ann graph_Node_check_c3 (keepS [1,2,3,6,8,9,9999] 0 [j0,j1,j2,j3,j4,j5,j6,j7,j8,j9,j10,j11,j12,j13,j14,j15,j16,j17,j18,j19,j20,j21,j22,j23,j24,j25,j26,j27,j28,j29,j30,j31,j32,j33,j34,j35,j36,j37,j38,j39,j40,j41,j42,j43,j44,j45,j46,j47,j48,j49,j50,j51,j52,j53,j54,j55,j56,j57,j58,j59,j60,j61,j62,j63,j64,j65,j66,j67,j68,j69,j70,j71,j72,j73,j74,j75,j76,j77,j78,j79,j80,j81,j82,j83,j84,j85,j86,j87,j88,j89,j90,j91,j92,j93,j94]) H kp = graph_Node_check_P3 j1 j2 j3 j6 j8 j9 H (awp Tryz.prog graph_Node_check_ann) kp :=
 Eq.trans (by kernel_rfl) ((awpX_eq Tryz.prog graph_Node_check_ann graph_Node_check_cut _ _ _ _).symm.trans (graph_Node_check_P3_x j1 j2 j3 j6 j8 j9 H _ kp))
def graph_Node_check_P4 (j1 j2 j3 j6 j8 j9 j14:AV) (H:List Ob) (_:Code→List AV→List Ob→Ko→Prop) (kp:Ko):Prop :=
 aGuard j14
 (kp .normal [.top,j1,j2,j3,.top,.top,j6,.top,j8,j9,.top,.top,.top,.top,(.p (.bool true)),.top,.top,.top,.top,.top,.top,.top,.top,.top,.top,.top,.top,.top,.top,.top,.top,.top,.top,.top,.top,.top,.top,.top,.top,.top,.top,.top,.top,.top,.top,.top,.top,.top,.top,.top,.top,.top,.top,.top,.top,.top,.top,.top,.top,.top,.top,.top,.top,.top,.top,.top,.top,.top,.top,.top,.top,.top,.top,.top,.top,.top,.top,.top,.top,.top,.top,.top,.top,.top,.top,.top,.top,.top,.top,.top,.top,.top,.top,.top,.top] H)
 (aFieldAddr 19 j3 fun v18 =>
 aLoad false 1 v18 H fun v19 =>
 aCall Tryz.prog (.p (.func op_Name_i [])) [v19] H fun v20 h21 =>
 aUn .not v20 fun v22 =>
 kp .normal [.top,j1,j2,j3,.top,.top,j6,.top,j8,j9,.top,.top,.top,.top,v22,.top,.top,.top,.top,.top,.top,.top,.top,.top,v18,v19,v20,v22,.top,.top,.top,.top,.top,.top,.top,.top,.top,.top,.top,.top,.top,.top,.top,.top,.top,.top,.top,.top,.top,.top,.top,.top,.top,.top,.top,.top,.top,.top,.top,.top,.top,.top,.top,.top,.top,.top,.top,.top,.top,.top,.top,.top,.top,.top,.top,.top,.top,.top,.top,.top,.top,.top,.top,.top,.top,.top,.top,.top,.top,.top,.top,.top,.top,.top,.top] h21)
theorem graph_Node_check_P4_x (j1 j2 j3 j6 j8 j9 j14:AV) (H:List Ob) (self:Code→List AV→List Ob→Ko→Prop) (kp:Ko):awpX Tryz.prog graph_Node_check_ann self graph_Node_check_cut graph_Node_check_c4 ([.top,j1,j2,j3,.top,.top,j6,.top,j8,j9,.top,.top,.top,.top,j14] ++ List.replicate 80 .top) H kp = graph_Node_check_P4 j1 j2 j3 j6 j8 j9 j14 H self kp:=by kernel_rfl
theorem graph_Node_check_c4_eq (j0 j1 j2 j3 j4 j5 j6 j7 j8 j9 j10 j11 j12 j13 j14 j15 j16 j17 j18 j19 j20 j21 j22 j23 j24 j25 j26 j27 j28 j29 j30 j31 j32 j33 j34 j35 j36 j37 j38 j39 j40 j41 j42 j43 j44 j45 j46 j47 j48 j49 j50 j51 j52 j53 j54 j55 j56 j57 j58 j59 j60 j61 j62 j63 j64 j65 j66 j67 j68 j69 j70 j71 j72 j73 j74 j75 j76 j77 j78 j79 j80 j81 j82 j83 j84 j85 j86 j87 j88 j89 j90 j91 j92 j93 j94:AV) (H:List Ob) (kp:Ko):awp Tryz.prog graph_Node_check_ann graph_Node_check_c4 (keepS [1,2,3,6,8,9,14,9999] 0 [j0,j1,j2,j3,j4,j5,j6,j7,j8,j9,j10,j11,j12,j13,j14,j15,j16,j17,j18,j19,j20,j21,j22,j23,j24,j25,j26,j27,j28,j29,j30,j31,j32,j33,j34,j35,j36,j37,j38,j39,j40,j41,j42,j43,j44,j45,j46,j47,j48,j49,j50,j51,j52,j53,j54,j55,j56,j57,j58,j59,j60,j61,j62,j63,j64,j65,j66,j67,j68,j69,j70,j71,j72,j73,j74,j75,j76,j77,j78,j79,j80,j81,j82,j83,j84,j85,j86,j87,j88,j89,j90,j91,j92,j93,j94]) H kp = graph_Node_check_P4 j1 j2 j3 j6 j8 j9 j14 H (awp Tryz.prog graph_Node_check_ann) kp :=
 Eq.trans (by kernel_rfl) ((awpX_eq Tryz.prog graph_Node_check_ann graph_Node_check_cut _ _ _ _).symm.trans (graph_Node_check_P4_x j1 j2 j3 j6 j8 j9 j14 H _ kp))
def graph_Node_check_P5 (j1 j2 j3 j6 j8 j9 j14:AV) (H:List Ob) (self:Code→List AV→List Ob→Ko→Prop) (kp:Ko):Prop :=
 aGuard j14
 (aBuild [(.p (.int .i64 0)),(.full [])] [] fun v23 =>
 aStore 2 j6 v23 H fun _ h25 =>
 kp .ret [.top,j1,j2,j3,.top,.top,j6,(.p (.int .i64 6)),j8,j9,.top,.top,.top,.top,(.p (.bool true)),.top,.top,.top,.top,.top,.top,.top,.top,.top,.top,.top,.top,.top,v23,.top,.top,.top,.top,.top,.top,.top,.top,.top,.top,.top,.top,.top,.top,.top,.top,.top,.top,.top,.top,.top,.top,.top,.top,.top,.top,.top,.top,.top,.top,.top,.top,.top,.top,.top,.top,.top,.top,.top,.top,.top,.top,.top,.top,.top,.top,.top,.top,.top,.top,.top,.top,.top,.top,.top,.top,.top,.top,.top,.top,.top,.top,.top,.top,.top,.top] h25)
 (aFieldAddr 0 j3 fun v26 =>
 aLoad false 1 v26 H fun v27 =>
 aBin false false .neq v27 (.p (.str [])) fun v28 =>
 aMerge true v28 (fun Q29 =>
 aCall Tryz.prog (.p (.func slices_ContainsFunc_graph_Graph_graph_Node_i [])) [j1,j8] H fun v30 h31 =>
 (h31 = H ∧ Q29 v30)) fun v32 =>
 self graph_Node_check_c7 (keepS [1,2,3,6,9,29,9999] 0 [.top,j1,j2,j3,.top,.top,j6,.top,j8,j9,.top,.top,.top,.top,(.p (.bool false)),.top,.top,.top,.top,.top,.top,.top,.top,.top,.top,.top,.top,.top,.top,v32,v26,v27,v28,v28,.top,.top,.top,v32,.top,.top,.top,.top,.top,.top,.top,.top,.top,.top,.top,.top,.top,.top,.top,.top,.top,.top,.top,.top,.top,.top,.top,.top,.top,.top,.top,.top,.top,.top,.top,.top,.top,.top,.top,.top,.top,.top,.top,.top,.top,.top,.top,.top,.top,.top,.top,.top,.top,.top,.top,.top,.top,.top,.top,.top,.top]) H kp)
theorem graph_Node_check_P5_x (j1 j2 j3 j6 j8 j9 j14:AV) (H:List Ob) (self:Code→List AV→List Ob→Ko→Prop) (kp:Ko):awpX Tryz.prog graph_Node_check_ann self graph_Node_check_cut graph_Node_check_c5 ([.top,j1,j2,j3,.top,.top,j6,.top,j8,j9,.top,.top,.top,.top,j14] ++ List.replicate 80 .top) H kp = graph_Node_check_P5 j1 j2 j3 j6 j8 j9 j14 H self kp:=by kernel_rfl
theorem graph_Node_check_c5_eq (j0 j1 j2 j3 j4 j5 j6 j7 j8 j9 j10 j11 j12 j13 j14 j15 j16 j17 j18 j19 j20 j21 j22 j23 j24 j25 j26 j27 j28 j29 j30 j31 j32 j33 j34 j35 j36 j37 j38 j39 j40 j41 j42 j43 j44 j45 j46 j47 j48 j49 j50 j51 j52 j53 j54 j55 j56 j57 j58 j59 j60 j61 j62 j63 j64 j65 j66 j67 j68 j69 j70 j71 j72 j73 j74 j75 j76 j77 j78 j79 j80 j81 j82 j83 j84 j85 j86 j87 j88 j89 j90 j91 j92 j93 j94:AV) (H:List Ob) (kp:Ko):awp Tryz.prog graph_Node_check_ann graph_Node_check_c5 (keepS [1,2,3,6,8,9,14,9999] 0 [j0,j1,j2,j3,j4,j5,j6,j7,j8,j9,j10,j11,j12,j13,j14,j15,j16,j17,j18,j19,j20,j21,j22,j23,j24,j25,j26,j27,j28,j29,j30,j31,j32,j33,j34,j35,j36,j37,j38,j39,j40,j41,j42,j43,j44,j45,j46,j47,j48,j49,j50,j51,j52,j53,j54,j55,j56,j57,j58,j59,j60,j61,j62,j63,j64,j65,j66,j67,j68,j69,j70,j71,j72,j73,j74,j75,j76,j77,j78,j79,j80,j81,j82,j83,j84,j85,j86,j87,j88,j89,j90,j91,j92,j93,j94]) H kp = graph_Node_check_P5 j1 j2 j3 j6 j8 j9 j14 H (awp Tryz.prog graph_Node_check_ann) kp :=
 Eq.trans (by kernel_rfl) ((awpX_eq Tryz.prog graph_Node_check_ann graph_Node_check_cut _ _ _ _).symm.trans (graph_Node_check_P5_x j1 j2 j3 j6 j8 j9 j14 H _ kp))
def graph_Node_check_P7 (j1 j2 j3 j6 j9 j29:AV) (H:List Ob) (self:Code→List AV→List Ob→Ko→Prop) (kp:Ko):Prop :=
 aGuard j29
 (aBuild [(.p (.int .i64 0)),(.full [])] [] fun v33 =>
 aStore 2 j6 v33 H fun _ h35 =>
 kp .ret [.top,j1,j2,j3,.top,.top,j6,(.p (.int .i64 7)),.top,j9,.top,.top,.top,.top,.top,.top,.top,.top,.top,.top,.top,.top,.top,.top,.top,.top,.top,.top,.top,(.p (.bool true)),.top,.top,.top,.top,.top,.top,.top,.top,v33,.top,.top,.top,.top,.top,.top,.top,.top,.top,.top,.top,.top,.top,.top,.top,.top,.top,.top,.top,.top,.top,.top,.top,.top,.top,.top,.top,.top,.top,.top,.top,.top,.top,.top,.top,.top,.top,.top,.top,.top,.top,.top,.top,.top,.top,.top,.top,.top,.top,.top,.top,.top,.top,.top,.top,.top] h35)
 (aFieldAddr 17 j3 fun v36 =>
 aLoad false 1 v36 H fun v37 =>
 aBin false false .lss v37 (.p (.int .i64 1)) fun v38 =>
 self graph_Node_check_c9 (keepS [1,2,3,6,9,39,9999] 0 [.top,j1,j2,j3,.top,.top,j6,.top,.top,j9,.top,.top,.top,.top,.top,.top,.top,.top,.top,.top,.top,.top,.top,.top,.top,.top,.top,.top,.top,(.p (.bool false)),.top,.top,.top,.top,.top,.top,.top,.top,.top,v38,v36,v37,v38,.top,.top,.top,.top,.top,.top,.top,.top,.top,.top,.top,.top,.top,.top,.top,.top,.top,.top,.top,.top,.top,.top,.top,.top,.top,.top,.top,.top,.top,.top,.top,.top,.top,.top,.top,.top,.top,.top,.top,.top,.top,.top,.top,.top,.top,.top,.top,.top,.top,.top,.top,.top]) H (kSeq self graph_Node_check_c13 [1,2,3,6,9,39,9999] kp))
theorem graph_Node_check_P7_x (j1 j2 j3 j6 j9 j29:AV) (H:List Ob) (self:Code→List AV→List Ob→Ko→Prop) (kp:Ko):awpX Tryz.prog graph_Node_check_ann self graph_Node_check_cut graph_Node_check_c7 ([.top,j1,j2,j3,.top,.top,j6,.top,.top,j9] ++ List.replicate 19 .top ++ [j29] ++ List.replicate 65 .top) H kp = graph_Node_check_P7 j1 j2 j3 j6 j9 j29 H self kp:=by kernel_rfl
theorem graph_Node_check_c7_eq (j0 j1 j2 j3 j4 j5 j6 j7 j8 j9 j10 j11 j12 j13 j14 j15 j16 j17 j18 j19 j20 j21 j22 j23 j24 j25 j26 j27 j28 j29 j30 j31 j32 j33 j34 j35 j36 j37 j38 j39 j40 j41 j42 j43 j44 j45 j46 j47 j48 j49 j50 j51 j52 j53 j54 j55 j56 j57 j58 j59 j60 j61 j62 j63 j64 j65 j66 j67 j68 j69 j70 j71 j72 j73 j74 j75 j76 j77 j78 j79 j80 j81 j82 j83 j84 j85 j86 j87 j88 j89 j90 j91 j92 j93 j94:AV) (H:List Ob) (kp:Ko):awp Tryz.prog graph_Node_check_ann graph_Node_check_c7 (keepS [1,2,3,6,9,29,9999] 0 [j0,j1,j2,j3,j4,j5,j6,j7,j8,j9,j10,j11,j12,j13,j14,j15,j16,j17,j18,j19,j20,j21,j22,j23,j24,j25,j26,j27,j28,j29,j30,j31,j32,j33,j34,j35,j36,j37,j38,j39,j40,j41,j42,j43,j44,j45,j46,j47,j48,j49,j50,j51,j52,j53,j54,j55,j56,j57,j58,j59,j60,j61,j62,j63,j64,j65,j66,j67,j68,j69,j70,j71,j72,j73,j74,j75,j76,j77,j78,j79,j80,j81,j82,j83,j84,j85,j86,j87,j88,j89,j90,j91,j92,j93,j94]) H kp = graph_Node_check_P7 j1 j2 j3 j6 j9 j29 H (awp Tryz.prog graph_Node_check_ann) kp :=
 Eq.trans (by kernel_rfl) ((awpX_eq Tryz.prog graph_Node_check_ann graph_Node_check_cut _ _ _ _).symm.trans (graph_Node_check_P7_x j1 j2 j3 j6 j9 j29 H _ kp))
def graph_Node_check_P9 (j1 j2 j3 j6 j9 j39:AV) (H:List Ob) (self:Code→List AV→List Ob→Ko→Prop) (kp:Ko):Prop :=
 aGuard j39
 (kp .normal [.top,j1,j2,j3,.top,.top,j6,.top,.top,j9,.top,.top,.top,.top,.top,.top,.top,.top,.top,.top,.top,.top,.top,.top,.top,.top,.top,.top,.top,.top,.top,.top,.top,.top,.top,.top,.top,.top,.top,(.p (.bool true)),.top,.top,.top,.top,.top,.top,.top,.top,.top,.top,.top,.top,.top,.top,.top,.top,.top,.top,.top,.top,.top,.top,.top,.top,.top,.top,.top,.top,.top,.top,.top,.top,.top,.top,.top,.top,.top,.top,.top,.top,.top,.top,.top,.top,.top,.top,.top,.top,.top,.top,.top,.top,.top,.top,.top] H)
 (aFieldAddr 17 j3 fun v39 =>
 aLoad false 1 v39 H fun v40 =>
 aBin false false .gtr v40 (.p (.int .i64 4)) fun v41 =>
 self graph_Node_check_c10 (keepS [1,2,3,6,9,39,9999] 0 [.top,j1,j2,j3,.top,.top,j6,.top,.top,j9,.top,.top,.top,.top,.top,.top,.top,.top,.top,.top,.top,.top,.top,.top,.top,.top,.top,.top,.top,.top,.top,.top,.top,.top,.top,.top,.top,.top,.top,v41,.top,.top,.top,v39,v40,v41,.top,.top,.top,.top,.top,.top,.top,.top,.top,.top,.top,.top,.top,.top,.top,.top,.top,.top,.top,.top,.top,.top,.top,.top,.top,.top,.top,.top,.top,.top,.top,.top,.top,.top,.top,.top,.top,.top,.top,.top,.top,.top,.top,.top,.top,.top,.top,.top,.top]) H kp)
theorem graph_Node_check_P9_x (j1 j2 j3 j6 j9 j39:AV) (H:List Ob) (self:Code→List AV→List Ob→Ko→Prop) (kp:Ko):awpX Tryz.prog graph_Node_check_ann self graph_Node_check_cut graph_Node_check_c9 ([.top,j1,j2,j3,.top,.top,j6,.top,.top,j9] ++ List.replicate 29 .top ++ [j39] ++ List.replicate 55 .top) H kp = graph_Node_check_P9 j1 j2 j3 j6 j9 j39 H self kp:=by kernel_rfl
theorem graph_Node_check_c9_eq (j0 j1 j2 j3 j4 j5 j6 j7 j8 j9 j10 j11 j12 j13 j14 j15 j16 j17 j18 j19 j20 j21 j22 j23 j24 j25 j26 j27 j28 j29 j30 j31 j32 j33 j34 j35 j36 j37 j38 j39 j40 j41 j42 j43 j44 j45 j46 j47 j48 j49 j50 j51 j52 j53 j54 j55 j56 j57 j58 j59 j60 j61 j62 j63 j64 j65 j66 j67 j68 j69 j70 j71 j72 j73 j74 j75 j76 j77 j78 j79 j80 j81 j82 j83 j84 j85 j86 j87 j88 j89 j90 j91 j92 j93 j94:AV) (H:List Ob) (kp:Ko):awp Tryz.prog graph_Node_check_ann graph_Node_check_c9 (keepS [1,2,3,6,9,39,9999] 0 [j0,j1,j2,j3,j4,j5,j6,j7,j8,j9,j10,j11,j12,j13,j14,j15,j16,j17,j18,j19,j20,j21,j22,j23,j24,j25,j26,j27,j28,j29,j30,j31,j32,j33,j34,j35,j36,j37,j38,j39,j40,j41,j42,j43,j44,j45,j46,j47,j48,j49,j50,j51,j52,j53,j54,j55,j56,j57,j58,j59,j60,j61,j62,j63,j64,j65,j66,j67,j68,j69,j70,j71,j72,j73,j74,j75,j76,j77,j78,j79,j80,j81,j82,j83,j84,j85,j86,j87,j88,j89,j90,j91,j92,j93,j94]) H kp = graph_Node_check_P9 j1 j2 j3 j6 j9 j39 H (awp Tryz.prog graph_Node_check_ann) kp :=
 Eq.trans (by kernel_rfl) ((awpX_eq Tryz.prog graph_Node_check_ann graph_Node_check_cut _ _ _ _).symm.trans (graph_Node_check_P9_x j1 j2 j3 j6 j9 j39 H _ kp))
def graph_Node_check_P10 (j1 j2 j3 j6 j9 j39:AV) (H:List Ob) (self:Code→List AV→List Ob→Ko→Prop) (kp:Ko):Prop :=
 aGuard j39
 (kp .normal [.top,j1,j2,j3,.top,.top,j6,.top,.top,j9,.top,.top,.top,.top,.top,.top,.top,.top,.top,.top,.top,.top,.top,.top,.top,.top,.top,.top,.top,.top,.top,.top,.top,.top,.top,.top,.top,.top,.top,(.p (.bool true)),.top,.top,.top,.top,.top,.top,.top,.top,.top,.top,.top,.top,.top,.top,.top,.top,.top,.top,.top,.top,.top,.top,.top,.top,.top,.top,.top,.top,.top,.top,.top,.top,.top,.top,.top,.top,.top,.top,.top,.top,.top,.top,.top,.top,.top,.top,.top,.top,.top,.top,.top,.top,.top,.top,.top] H)
 (aFieldAddr 18 j3 fun v42 =>
 aLoad false 1 v42 H fun v43 =>
 aFieldAddr 17 j3 fun v44 =>
 aLoad false 1 v44 H fun v45 =>
 aBin false false .lss v43 v45 fun v46 =>
 self graph_Node_check_c11 (keepS [1,2,3,6,9,39,9999] 0 [.top,j1,j2,j3,.top,.top,j6,.top,.top,j9,.top,.top,.top,.top,.top,.top,.top,.top,.top,.top,.top,.top,.top,.top,.top,.top,.top,.top,.top,.top,.top,.top,.top,.top,.top,.top,.top,.top,.top,v46,.top,.top,.top,.top,.top,.top,v42,v43,v44,v45,v46,.top,.top,.top,.top,.top,.top,.top,.top,.top,.top,.top,.top,.top,.top,.top,.top,.top,.top,.top,.top,.top,.top,.top,.top,.top,.top,.top,.top,.top,.top,.top,.top,.top,.top,.top,.top,.top,.top,.top,.top,.top,.top,.top,.top]) H kp)
theorem graph_Node_check_P10_x (j1 j2 j3 j6 j9 j39:AV) (H:List Ob) (self:Code→List AV→List Ob→Ko→Prop) (kp:Ko):awpX Tryz.prog graph_Node_check_ann self graph_Node_check_cut graph_Node_check_c10 ([.top,j1,j2,j3,.top,.top,j6,.top,.top,j9] ++ List.replicate 29 .top ++ [j39] ++ List.replicate 55 .top) H kp = graph_Node_check_P10 j1 j2 j3 j6 j9 j39 H self kp:=by kernel_rfl
theorem graph_Node_check_c10_eq (j0 j1 j2 j3 j4 j5 j6 j7 j8 j9 j10 j11 j12 j13 j14 j15 j16 j17 j18 j19 j20 j21 j22 j23 j24 j25 j26 j27 j28 j29 j30 j31 j32 j33 j34 j35 j36 j37 j38 j39 j40 j41 j42 j43 j44 j45 j46 j47 j48 j49 j50 j51 j52 j53 j54 j55 j56 j57 j58 j59 j60 j61 j62 j63 j64 j65 j66 j67 j68 j69 j70 j71 j72 j73 j74 j75 j76 j77 j78 j79 j80 j81 j82 j83 j84 j85 j86 j87 j88 j89 j90 j91 j92 j93 j94:AV) (H:List Ob) (kp:Ko):awp Tryz.prog graph_Node_check_ann graph_Node_check_c10 (keepS [1,2,3,6,9,39,9999] 0 [j0,j1,j2,j3,j4,j5,j6,j7,j8,j9,j10,j11,j12,j13,j14,j15,j16,j17,j18,j19,j20,j21,j22,j23,j24,j25,j26,j27,j28,j29,j30,j31,j32,j33,j34,j35,j36,j37,j38,j39,j40,j41,j42,j43,j44,j45,j46,j47,j48,j49,j50,j51,j52,j53,j54,j55,j56,j57,j58,j59,j60,j61,j62,j63,j64,j65,j66,j67,j68,j69,j70,j71,j72,j73,j74,j75,j76,j77,j78,j79,j80,j81,j82,j83,j84,j85,j86,j87,j88,j89,j90,j91,j92,j93,j94]) H kp = graph_Node_check_P10 j1 j2 j3 j6 j9 j39 H (awp Tryz.prog graph_Node_check_ann) kp :=
 Eq.trans (by kernel_rfl) ((awpX_eq Tryz.prog graph_Node_check_ann graph_Node_check_cut _ _ _ _).symm.trans (graph_Node_check_P10_x j1 j2 j3 j6 j9 j39 H _ kp))
def graph_Node_check_P11 (j1 j2 j3 j6 j9 j39:AV) (H:List Ob) (self:Code→List AV→List Ob→Ko→Prop) (kp:Ko):Prop :=
 aGuard j39
 (kp .normal [.top,j1,j2,j3,.top,.top,j6,.top,.top,j9,.top,.top,.top,.top,.top,.top,.top,.top,.top,.top,.top,.top,.top,.top,.top,.top,.top,.top,.top,.top,.top,.top,.top,.top,.top,.top,.top,.top,.top,(.p (.bool true)),.top,.top,.top,.top,.top,.top,.top,.top,.top,.top,.top,.top,.top,.top,.top,.top,.top,.top,.top,.top,.top,.top,.top,.top,.top,.top,.top,.top,.top,.top,.top,.top,.top,.top,.top,.top,.top,.top,.top,.top,.top,.top,.top,.top,.top,.top,.top,.top,.top,.top,.top,.top,.top,.top,.top] H)
 (aFieldAddr 18 j3 fun v47 =>
 aLoad false 1 v47 H fun v48 =>
 aBin false false .gtr v48 (.p (.int .i64 16)) fun v49 =>
 self graph_Node_check_c12 (keepS [1,2,3,6,9,39,9999] 0 [.top,j1,j2,j3,.top,.top,j6,.top,.top,j9,.top,.top,.top,.top,.top,.top,.top,.top,.top,.top,.top,.top,.top,.top,.top,.top,.top,.top,.top,.top,.top,.top,.top,.top,.top,.top,.top,.top,.top,v49,.top,.top,.top,.top,.top,.top,.top,.top,.top,.top,.top,v47,v48,v49,.top,.top,.top,.top,.top,.top,.top,.top,.top,.top,.top,.top,.top,.top,.top,.top,.top,.top,.top,.top,.top,.top,.top,.top,.top,.top,.top,.top,.top,.top,.top,.top,.top,.top,.top,.top,.top,.top,.top,.top,.top]) H kp)
theorem graph_Node_check_P11_x (j1 j2 j3 j6 j9 j39:AV) (H:List Ob) (self:Code→List AV→List Ob→Ko→Prop) (kp:Ko):awpX Tryz.prog graph_Node_check_ann self graph_Node_check_cut graph_Node_check_c11 ([.top,j1,j2,j3,.top,.top,j6,.top,.top,j9] ++ List.replicate 29 .top ++ [j39] ++ List.replicate 55 .top) H kp = graph_Node_check_P11 j1 j2 j3 j6 j9 j39 H self kp:=by kernel_rfl
theorem graph_Node_check_c11_eq (j0 j1 j2 j3 j4 j5 j6 j7 j8 j9 j10 j11 j12 j13 j14 j15 j16 j17 j18 j19 j20 j21 j22 j23 j24 j25 j26 j27 j28 j29 j30 j31 j32 j33 j34 j35 j36 j37 j38 j39 j40 j41 j42 j43 j44 j45 j46 j47 j48 j49 j50 j51 j52 j53 j54 j55 j56 j57 j58 j59 j60 j61 j62 j63 j64 j65 j66 j67 j68 j69 j70 j71 j72 j73 j74 j75 j76 j77 j78 j79 j80 j81 j82 j83 j84 j85 j86 j87 j88 j89 j90 j91 j92 j93 j94:AV) (H:List Ob) (kp:Ko):awp Tryz.prog graph_Node_check_ann graph_Node_check_c11 (keepS [1,2,3,6,9,39,9999] 0 [j0,j1,j2,j3,j4,j5,j6,j7,j8,j9,j10,j11,j12,j13,j14,j15,j16,j17,j18,j19,j20,j21,j22,j23,j24,j25,j26,j27,j28,j29,j30,j31,j32,j33,j34,j35,j36,j37,j38,j39,j40,j41,j42,j43,j44,j45,j46,j47,j48,j49,j50,j51,j52,j53,j54,j55,j56,j57,j58,j59,j60,j61,j62,j63,j64,j65,j66,j67,j68,j69,j70,j71,j72,j73,j74,j75,j76,j77,j78,j79,j80,j81,j82,j83,j84,j85,j86,j87,j88,j89,j90,j91,j92,j93,j94]) H kp = graph_Node_check_P11 j1 j2 j3 j6 j9 j39 H (awp Tryz.prog graph_Node_check_ann) kp :=
 Eq.trans (by kernel_rfl) ((awpX_eq Tryz.prog graph_Node_check_ann graph_Node_check_cut _ _ _ _).symm.trans (graph_Node_check_P11_x j1 j2 j3 j6 j9 j39 H _ kp))
def graph_Node_check_P12 (j1 j2 j3 j6 j9 j39:AV) (H:List Ob) (_:Code→List AV→List Ob→Ko→Prop) (kp:Ko):Prop :=
 aGuard j39
 (kp .normal [.top,j1,j2,j3,.top,.top,j6,.top,.top,j9,.top,.top,.top,.top,.top,.top,.top,.top,.top,.top,.top,.top,.top,.top,.top,.top,.top,.top,.top,.top,.top,.top,.top,.top,.top,.top,.top,.top,.top,(.p (.bool true)),.top,.top,.top,.top,.top,.top,.top,.top,.top,.top,.top,.top,.top,.top,.top,.top,.top,.top,.top,.top,.top,.top,.top,.top,.top,.top,.top,.top,.top,.top,.top,.top,.top,.top,.top,.top,.top,.top,.top,.top,.top,.top,.top,.top,.top,.top,.top,.top,.top,.top,.top,.top,.top,.top,.top] H)
 (aLoad true 21 j3 H fun v50 =>
 aCall Tryz.prog (.p (.func graph_Node_ins_i [])) [v50,j1] H fun v51 h52 =>
 aUn .not v51 fun v53 =>
 kp .normal [.top,j1,j2,j3,.top,.top,j6,.top,.top,j9,.top,.top,.top,.top,.top,.top,.top,.top,.top,.top,.top,.top,.top,.top,.top,.top,.top,.top,.top,.top,.top,.top,.top,.top,.top,.top,.top,.top,.top,v53,.top,.top,.top,.top,.top,.top,.top,.top,.top,.top,.top,.top,.top,.top,v50,j1,v51,v53,.top,.top,.top,.top,.top,.top,.top,.top,.top,.top,.top,.top,.top,.top,.top,.top,.top,.top,.top,.top,.top,.top,.top,.top,.top,.top,.top,.top,.top,.top,.top,.top,.top,.top,.top,.top,.top] h52)
theorem graph_Node_check_P12_x (j1 j2 j3 j6 j9 j39:AV) (H:List Ob) (self:Code→List AV→List Ob→Ko→Prop) (kp:Ko):awpX Tryz.prog graph_Node_check_ann self graph_Node_check_cut graph_Node_check_c12 ([.top,j1,j2,j3,.top,.top,j6,.top,.top,j9] ++ List.replicate 29 .top ++ [j39] ++ List.replicate 55 .top) H kp = graph_Node_check_P12 j1 j2 j3 j6 j9 j39 H self kp:=by kernel_rfl
theorem graph_Node_check_c12_eq (j0 j1 j2 j3 j4 j5 j6 j7 j8 j9 j10 j11 j12 j13 j14 j15 j16 j17 j18 j19 j20 j21 j22 j23 j24 j25 j26 j27 j28 j29 j30 j31 j32 j33 j34 j35 j36 j37 j38 j39 j40 j41 j42 j43 j44 j45 j46 j47 j48 j49 j50 j51 j52 j53 j54 j55 j56 j57 j58 j59 j60 j61 j62 j63 j64 j65 j66 j67 j68 j69 j70 j71 j72 j73 j74 j75 j76 j77 j78 j79 j80 j81 j82 j83 j84 j85 j86 j87 j88 j89 j90 j91 j92 j93 j94:AV) (H:List Ob) (kp:Ko):awp Tryz.prog graph_Node_check_ann graph_Node_check_c12 (keepS [1,2,3,6,9,39,9999] 0 [j0,j1,j2,j3,j4,j5,j6,j7,j8,j9,j10,j11,j12,j13,j14,j15,j16,j17,j18,j19,j20,j21,j22,j23,j24,j25,j26,j27,j28,j29,j30,j31,j32,j33,j34,j35,j36,j37,j38,j39,j40,j41,j42,j43,j44,j45,j46,j47,j48,j49,j50,j51,j52,j53,j54,j55,j56,j57,j58,j59,j60,j61,j62,j63,j64,j65,j66,j67,j68,j69,j70,j71,j72,j73,j74,j75,j76,j77,j78,j79,j80,j81,j82,j83,j84,j85,j86,j87,j88,j89,j90,j91,j92,j93,j94]) H kp = graph_Node_check_P12 j1 j2 j3 j6 j9 j39 H (awp Tryz.prog graph_Node_check_ann) kp :=
 Eq.trans (by kernel_rfl) ((awpX_eq Tryz.prog graph_Node_check_ann graph_Node_check_cut _ _ _ _).symm.trans (graph_Node_check_P12_x j1 j2 j3 j6 j9 j39 H _ kp))
def graph_Node_check_P13 (j1 j2 j3 j6 j9 j39:AV) (H:List Ob) (_:Code→List AV→List Ob→Ko→Prop) (kp:Ko):Prop :=
 aGuard j39
 (aBuild [(.p (.int .i64 0)),(.full [])] [] fun v54 =>
 aStore 2 j6 v54 H fun _ h56 =>
 kp .ret [.top,j1,j2,j3,.top,.top,j6,(.p (.int .i64 1)),.top,j9,.top,.top,.top,.top,.top,.top,.top,.top,.top,.top,.top,.top,.top,.top,.top,.top,.top,.top,.top,.top,.top,.top,.top,.top,.top,.top,.top,.top,.top,(.p (.bool true)),.top,.top,.top,.top,.top,.top,.top,.top,.top,.top,.top,.top,.top,.top,.top,.top,.top,.top,v54,.top,.top,.top,.top,.top,.top,.top,.top,.top,.top,.top,.top,.top,.top,.top,.top,.top,.top,.top,.top,.top,.top,.top,.top,.top,.top,.top,.top,.top,.top,.top,.top,.top,.top,.top,.top] h56)
 (kp .normal [.top,j1,j2,j3,.top,.top,j6,.top,.top,j9,.top,.top,.top,.top,.top,.top,.top,.top,.top,.top,.top,.top,.top,.top,.top,.top,.top,.top,.top,.top,.top,.top,.top,.top,.top,.top,.top,.top,.top,(.p (.bool false)),.top,.top,.top,.top,.top,.top,.top,.top,.top,.top,.top,.top,.top,.top,.top,.top,.top,.top,.top,.top,.top,.top,.top,.top,.top,.top,.top,.top,.top,.top,.top,.top,.top,.top,.top,.top,.top,.top,.top,.top,.top,.top,.top,.top,.top,.top,.top,.top,.top,.top,.top,.top,.top,.top,.top] H)
theorem graph_Node_check_P13_x (j1 j2 j3 j6 j9 j39:AV) (H:List Ob) (self:Code→List AV→List Ob→Ko→Prop) (kp:Ko):awpX Tryz.prog graph_Node_check_ann self graph_Node_check_cut graph_Node_check_c13 ([.top,j1,j2,j3,.top,.top,j6,.top,.top,j9] ++ List.replicate 29 .top ++ [j39] ++ List.replicate 55 .top) H kp = graph_Node_check_P13 j1 j2 j3 j6 j9 j39 H self kp:=by kernel_rfl
theorem graph_Node_check_c13_eq (j0 j1 j2 j3 j4 j5 j6 j7 j8 j9 j10 j11 j12 j13 j14 j15 j16 j17 j18 j19 j20 j21 j22 j23 j24 j25 j26 j27 j28 j29 j30 j31 j32 j33 j34 j35 j36 j37 j38 j39 j40 j41 j42 j43 j44 j45 j46 j47 j48 j49 j50 j51 j52 j53 j54 j55 j56 j57 j58 j59 j60 j61 j62 j63 j64 j65 j66 j67 j68 j69 j70 j71 j72 j73 j74 j75 j76 j77 j78 j79 j80 j81 j82 j83 j84 j85 j86 j87 j88 j89 j90 j91 j92 j93 j94:AV) (H:List Ob) (kp:Ko):awp Tryz.prog graph_Node_check_ann graph_Node_check_c13 (keepS [1,2,3,6,9,39,9999] 0 [j0,j1,j2,j3,j4,j5,j6,j7,j8,j9,j10,j11,j12,j13,j14,j15,j16,j17,j18,j19,j20,j21,j22,j23,j24,j25,j26,j27,j28,j29,j30,j31,j32,j33,j34,j35,j36,j37,j38,j39,j40,j41,j42,j43,j44,j45,j46,j47,j48,j49,j50,j51,j52,j53,j54,j55,j56,j57,j58,j59,j60,j61,j62,j63,j64,j65,j66,j67,j68,j69,j70,j71,j72,j73,j74,j75,j76,j77,j78,j79,j80,j81,j82,j83,j84,j85,j86,j87,j88,j89,j90,j91,j92,j93,j94]) H kp = graph_Node_check_P13 j1 j2 j3 j6 j9 j39 H (awp Tryz.prog graph_Node_check_ann) kp :=
 Eq.trans (by kernel_rfl) ((awpX_eq Tryz.prog graph_Node_check_ann graph_Node_check_cut _ _ _ _).symm.trans (graph_Node_check_P13_x j1 j2 j3 j6 j9 j39 H _ kp))
def graph_Node_check_P14 (j1 j2 j3 j6 j9:AV) (H:List Ob) (self:Code→List AV→List Ob→Ko→Prop) (kp:Ko):Prop :=
 aAlloc [(.p (.int .i64 0)),(.full [])] H fun v57 h58 =>
 aFieldAddr 1 j3 fun v59 =>
 aLoad true 15 v59 h58 fun v60 =>
 aFieldAddr 16 j3 fun v61 =>
 aLoad false 1 v61 h58 fun v62 =>
 aCallT Tryz.prog (.p (.func graph_of_i [])) [j2,v62] fun v63 =>
 aCallT Tryz.prog (.p (.func op_Out_i [])) [v60,v63] fun v64 =>
 aExtract v64 0 fun v65 =>
 aExtract v64 1 fun v66 =>
 aStore 2 v57 v65 h58 fun _ h68 =>
 self graph_Node_check_c15 (keepS [1,3,6,9,10,11,9999] 0 [.top,j1,j2,j3,.top,.top,j6,.top,.top,j9,v57,v66,.top,.top,.top,.top,.top,.top,.top,.top,.top,.top,.top,.top,.top,.top,.top,.top,.top,.top,.top,.top,.top,.top,.top,.top,.top,.top,.top,.top,.top,.top,.top,.top,.top,.top,.top,.top,.top,.top,.top,.top,.top,.top,.top,.top,.top,.top,.top,v64,v59,v60,j2,v61,v62,v63,v64,v65,v66,.top,.top,.top,.top,.top,.top,.top,.top,.top,.top,.top,.top,.top,.top,.top,.top,.top,.top,.top,.top,.top,.top,.top,.top,.top,.top]) h68 kp
theorem graph_Node_check_P14_x (j1 j2 j3 j6 j9:AV) (H:List Ob) (self:Code→List AV→List Ob→Ko→Prop) (kp:Ko):awpX Tryz.prog graph_Node_check_ann self graph_Node_check_cut graph_Node_check_c14 ([.top,j1,j2,j3,.top,.top,j6,.top,.top,j9] ++ List.replicate 85 .top) H kp = graph_Node_check_P14 j1 j2 j3 j6 j9 H self kp:=by kernel_rfl
theorem graph_Node_check_c14_eq (j0 j1 j2 j3 j4 j5 j6 j7 j8 j9 j10 j11 j12 j13 j14 j15 j16 j17 j18 j19 j20 j21 j22 j23 j24 j25 j26 j27 j28 j29 j30 j31 j32 j33 j34 j35 j36 j37 j38 j39 j40 j41 j42 j43 j44 j45 j46 j47 j48 j49 j50 j51 j52 j53 j54 j55 j56 j57 j58 j59 j60 j61 j62 j63 j64 j65 j66 j67 j68 j69 j70 j71 j72 j73 j74 j75 j76 j77 j78 j79 j80 j81 j82 j83 j84 j85 j86 j87 j88 j89 j90 j91 j92 j93 j94:AV) (H:List Ob) (kp:Ko):awp Tryz.prog graph_Node_check_ann graph_Node_check_c14 (keepS [1,2,3,6,9,9999] 0 [j0,j1,j2,j3,j4,j5,j6,j7,j8,j9,j10,j11,j12,j13,j14,j15,j16,j17,j18,j19,j20,j21,j22,j23,j24,j25,j26,j27,j28,j29,j30,j31,j32,j33,j34,j35,j36,j37,j38,j39,j40,j41,j42,j43,j44,j45,j46,j47,j48,j49,j50,j51,j52,j53,j54,j55,j56,j57,j58,j59,j60,j61,j62,j63,j64,j65,j66,j67,j68,j69,j70,j71,j72,j73,j74,j75,j76,j77,j78,j79,j80,j81,j82,j83,j84,j85,j86,j87,j88,j89,j90,j91,j92,j93,j94]) H kp = graph_Node_check_P14 j1 j2 j3 j6 j9 H (awp Tryz.prog graph_Node_check_ann) kp :=
 Eq.trans (by kernel_rfl) ((awpX_eq Tryz.prog graph_Node_check_ann graph_Node_check_cut _ _ _ _).symm.trans (graph_Node_check_P14_x j1 j2 j3 j6 j9 H _ kp))
def graph_Node_check_P15 (j1 j3 j6 j9 j10 j11:AV) (H:List Ob) (self:Code→List AV→List Ob→Ko→Prop) (kp:Ko):Prop :=
 aBin false false .eql j11 (.p (.int .i64 0)) fun v69 =>
 (aGuard v69
 ((aCall Tryz.prog (.p (.func slices_Clone_graph_Graph_graph_Node_i [])) [j1] H fun v70 h71 =>
 aLoad true 21 j3 h71 fun v72 =>
 aBuildSlice 21 [v72] fun v73 =>
 aAppend false 21 288 v70 v73 h71 fun v74 h75 =>
 aCall Tryz.prog (.p (.func graph_weight_i [])) [v74] h75 fun v76 h77 =>
 aBin false false .gtr v76 (.p (.int .i64 64)) fun v78 =>
 aGuard v78
 (self graph_Node_check_c17 (keepS [1,3,6,9,10,11,9999] 0 [.top,j1,.top,j3,.top,.top,j6,.top,.top,j9,j10,(.p (.int .i64 10)),.top,.top,.top,.top,.top,.top,.top,.top,.top,.top,.top,.top,.top,.top,.top,.top,.top,.top,.top,.top,.top,.top,.top,.top,.top,.top,.top,.top,.top,.top,.top,.top,.top,.top,.top,.top,.top,.top,.top,.top,.top,.top,.top,.top,.top,.top,.top,.top,.top,.top,.top,.top,.top,.top,.top,.top,.top,j11,v69,(.p (.bool true)),j1,v70,v72,v73,v74,v76,v78,(.p (.bool true)),.top,.top,.top,.top,.top,.top,.top,.top,.top,.top,.top,.top,.top,.top,.top]) h77 kp)
 (self graph_Node_check_c17 (keepS [1,3,6,9,10,11,9999] 0 [.top,j1,.top,j3,.top,.top,j6,.top,.top,j9,j10,j11,.top,.top,.top,.top,.top,.top,.top,.top,.top,.top,.top,.top,.top,.top,.top,.top,.top,.top,.top,.top,.top,.top,.top,.top,.top,.top,.top,.top,.top,.top,.top,.top,.top,.top,.top,.top,.top,.top,.top,.top,.top,.top,.top,.top,.top,.top,.top,.top,.top,.top,.top,.top,.top,.top,.top,.top,.top,j11,v69,(.p (.bool true)),j1,v70,v72,v73,v74,v76,v78,(.p (.bool false)),.top,.top,.top,.top,.top,.top,.top,.top,.top,.top,.top,.top,.top,.top,.top]) h77 kp)) ∧
 (aLoad true 21 j3 H fun v79 =>
 (aCall Tryz.prog (.p (.func slices_Clone_graph_Graph_graph_Node_i [])) [j1] H fun v80 h81 =>
 aBuildSlice 21 [v79] fun v82 =>
 aAppend false 21 288 v80 v82 h81 fun v83 h84 =>
 aCall Tryz.prog (.p (.func graph_weight_i [])) [v83] h84 fun v85 h86 =>
 aBin false false .gtr v85 (.p (.int .i64 64)) fun v87 =>
 aGuard v87
 (self graph_Node_check_c17 (keepS [1,3,6,9,10,11,9999] 0 [.top,j1,.top,j3,.top,.top,j6,.top,.top,j9,j10,(.p (.int .i64 10)),.top,.top,.top,.top,.top,.top,.top,.top,.top,.top,.top,.top,.top,.top,.top,.top,.top,.top,.top,.top,.top,.top,.top,.top,.top,.top,.top,.top,.top,.top,.top,.top,.top,.top,.top,.top,.top,.top,.top,.top,.top,.top,.top,.top,.top,.top,.top,.top,.top,.top,.top,.top,.top,.top,.top,.top,.top,j11,v69,(.p (.bool true)),j1,v80,v79,v82,v83,v85,v87,(.p (.bool true)),.top,.top,.top,.top,.top,.top,.top,.top,.top,.top,.top,.top,.top,.top,.top]) h86 kp)
 (self graph_Node_check_c17 (keepS [1,3,6,9,10,11,9999] 0 [.top,j1,.top,j3,.top,.top,j6,.top,.top,j9,j10,j11,.top,.top,.top,.top,.top,.top,.top,.top,.top,.top,.top,.top,.top,.top,.top,.top,.top,.top,.top,.top,.top,.top,.top,.top,.top,.top,.top,.top,.top,.top,.top,.top,.top,.top,.top,.top,.top,.top,.top,.top,.top,.top,.top,.top,.top,.top,.top,.top,.top,.top,.top,.top,.top,.top,.top,.top,.top,j11,v69,(.p (.bool true)),j1,v80,v79,v82,v83,v85,v87,(.p (.bool false)),.top,.top,.top,.top,.top,.top,.top,.top,.top,.top,.top,.top,.top,.top,.top]) h86 kp)) ∧
 (aBuildSlice 21 [v79] fun v88 =>
 aCall Tryz.prog (.p (.func slices_Clone_graph_Graph_graph_Node_i [])) [j1] H fun v89 h90 =>
 aAppend false 21 288 v89 v88 h90 fun v91 h92 =>
 aCall Tryz.prog (.p (.func graph_weight_i [])) [v91] h92 fun v93 h94 =>
 aBin false false .gtr v93 (.p (.int .i64 64)) fun v95 =>
 aGuard v95
 (self graph_Node_check_c17 (keepS [1,3,6,9,10,11,9999] 0 [.top,j1,.top,j3,.top,.top,j6,.top,.top,j9,j10,(.p (.int .i64 10)),.top,.top,.top,.top,.top,.top,.top,.top,.top,.top,.top,.top,.top,.top,.top,.top,.top,.top,.top,.top,.top,.top,.top,.top,.top,.top,.top,.top,.top,.top,.top,.top,.top,.top,.top,.top,.top,.top,.top,.top,.top,.top,.top,.top,.top,.top,.top,.top,.top,.top,.top,.top,.top,.top,.top,.top,.top,j11,v69,(.p (.bool true)),j1,v89,v79,v88,v91,v93,v95,(.p (.bool true)),.top,.top,.top,.top,.top,.top,.top,.top,.top,.top,.top,.top,.top,.top,.top]) h94 kp)
 (self graph_Node_check_c17 (keepS [1,3,6,9,10,11,9999] 0 [.top,j1,.top,j3,.top,.top,j6,.top,.top,j9,j10,j11,.top,.top,.top,.top,.top,.top,.top,.top,.top,.top,.top,.top,.top,.top,.top,.top,.top,.top,.top,.top,.top,.top,.top,.top,.top,.top,.top,.top,.top,.top,.top,.top,.top,.top,.top,.top,.top,.top,.top,.top,.top,.top,.top,.top,.top,.top,.top,.top,.top,.top,.top,.top,.top,.top,.top,.top,.top,j11,v69,(.p (.bool true)),j1,v89,v79,v88,v91,v93,v95,(.p (.bool false)),.top,.top,.top,.top,.top,.top,.top,.top,.top,.top,.top,.top,.top,.top,.top]) h94 kp))))
 ((self graph_Node_check_c17 (keepS [1,3,6,9,10,11,9999] 0 [.top,j1,.top,j3,.top,.top,j6,.top,.top,j9,j10,j11,.top,.top,.top,.top,.top,.top,.top,.top,.top,.top,.top,.top,.top,.top,.top,.top,.top,.top,.top,.top,.top,.top,.top,.top,.top,.top,.top,.top,.top,.top,.top,.top,.top,.top,.top,.top,.top,.top,.top,.top,.top,.top,.top,.top,.top,.top,.top,.top,.top,.top,.top,.top,.top,.top,.top,.top,.top,j11,v69,(.p (.bool false)),(.tup []),(.tup []),(.tup []),(.tup []),(.tup []),(.tup []),(.tup []),(.p (.bool false)),.top,.top,.top,.top,.top,.top,.top,.top,.top,.top,.top,.top,.top,.top,.top]) H kp) ∧
 ((self graph_Node_check_c17 (keepS [1,3,6,9,10,11,9999] 0 [.top,j1,.top,j3,.top,.top,j6,.top,.top,j9,j10,j11,.top,.top,.top,.top,.top,.top,.top,.top,.top,.top,.top,.top,.top,.top,.top,.top,.top,.top,.top,.top,.top,.top,.top,.top,.top,.top,.top,.top,.top,.top,.top,.top,.top,.top,.top,.top,.top,.top,.top,.top,.top,.top,.top,.top,.top,.top,.top,.top,.top,.top,.top,.top,.top,.top,.top,.top,.top,j11,v69,(.p (.bool false)),(.tup []),(.tup []),(.tup []),(.tup []),(.tup []),(.tup []),(.tup []),(.p (.bool false)),.top,.top,.top,.top,.top,.top,.top,.top,.top,.top,.top,.top,.top,.top,.top]) H kp) ∧
 (self graph_Node_check_c17 (keepS [1,3,6,9,10,11,9999] 0 [.top,j1,.top,j3,.top,.top,j6,.top,.top,j9,j10,j11,.top,.top,.top,.top,.top,.top,.top,.top,.top,.top,.top,.top,.top,.top,.top,.top,.top,.top,.top,.top,.top,.top,.top,.top,.top,.top,.top,.top,.top,.top,.top,.top,.top,.top,.top,.top,.top,.top,.top,.top,.top,.top,.top,.top,.top,.top,.top,.top,.top,.top,.top,.top,.top,.top,.top,.top,.top,j11,v69,(.p (.bool false)),(.tup []),(.tup []),(.tup []),(.tup []),(.tup []),(.tup []),(.tup []),(.p (.bool false)),.top,.top,.top,.top,.top,.top,.top,.top,.top,.top,.top,.top,.top,.top,.top]) H kp)))) ∧
 (aGuard v69
 (aLoad true 21 j3 H fun v96 =>
 ((aCall Tryz.prog (.p (.func slices_Clone_graph_Graph_graph_Node_i [])) [j1] H fun v97 h98 =>
 aBuildSlice 21 [v96] fun v99 =>
 aAppend false 21 288 v97 v99 h98 fun v100 h101 =>
 aCall Tryz.prog (.p (.func graph_weight_i [])) [v100] h101 fun v102 h103 =>
 aBin false false .gtr v102 (.p (.int .i64 64)) fun v104 =>
 aGuard v104
 (self graph_Node_check_c17 (keepS [1,3,6,9,10,11,9999] 0 [.top,j1,.top,j3,.top,.top,j6,.top,.top,j9,j10,(.p (.int .i64 10)),.top,.top,.top,.top,.top,.top,.top,.top,.top,.top,.top,.top,.top,.top,.top,.top,.top,.top,.top,.top,.top,.top,.top,.top,.top,.top,.top,.top,.top,.top,.top,.top,.top,.top,.top,.top,.top,.top,.top,.top,.top,.top,.top,.top,.top,.top,.top,.top,.top,.top,.top,.top,.top,.top,.top,.top,.top,j11,v69,(.p (.bool true)),j1,v97,v96,v99,v100,v102,v104,(.p (.bool true)),.top,.top,.top,.top,.top,.top,.top,.top,.top,.top,.top,.top,.top,.top,.top]) h103 kp)
 (self graph_Node_check_c17 (keepS [1,3,6,9,10,11,9999] 0 [.top,j1,.top,j3,.top,.top,j6,.top,.top,j9,j10,j11,.top,.top,.top,.top,.top,.top,.top,.top,.top,.top,.top,.top,.top,.top,.top,.top,.top,.top,.top,.top,.top,.top,.top,.top,.top,.top,.top,.top,.top,.top,.top,.top,.top,.top,.top,.top,.top,.top,.top,.top,.top,.top,.top,.top,.top,.top,.top,.top,.top,.top,.top,.top,.top,.top,.top,.top,.top,j11,v69,(.p (.bool true)),j1,v97,v96,v99,v100,v102,v104,(.p (.bool false)),.top,.top,.top,.top,.top,.top,.top,.top,.top,.top,.top,.top,.top,.top,.top]) h103 kp)) ∧
 (aBuildSlice 21 [v96] fun v105 =>
 aCall Tryz.prog (.p (.func slices_Clone_graph_Graph_graph_Node_i [])) [j1] H fun v106 h107 =>
 aAppend false 21 288 v106 v105 h107 fun v108 h109 =>
 aCall Tryz.prog (.p (.func graph_weight_i [])) [v108] h109 fun v110 h111 =>
 aBin false false .gtr v110 (.p (.int .i64 64)) fun v112 =>
 aGuard v112
 (self graph_Node_check_c17 (keepS [1,3,6,9,10,11,9999] 0 [.top,j1,.top,j3,.top,.top,j6,.top,.top,j9,j10,(.p (.int .i64 10)),.top,.top,.top,.top,.top,.top,.top,.top,.top,.top,.top,.top,.top,.top,.top,.top,.top,.top,.top,.top,.top,.top,.top,.top,.top,.top,.top,.top,.top,.top,.top,.top,.top,.top,.top,.top,.top,.top,.top,.top,.top,.top,.top,.top,.top,.top,.top,.top,.top,.top,.top,.top,.top,.top,.top,.top,.top,j11,v69,(.p (.bool true)),j1,v106,v96,v105,v108,v110,v112,(.p (.bool true)),.top,.top,.top,.top,.top,.top,.top,.top,.top,.top,.top,.top,.top,.top,.top]) h111 kp)
 (self graph_Node_check_c17 (keepS [1,3,6,9,10,11,9999] 0 [.top,j1,.top,j3,.top,.top,j6,.top,.top,j9,j10,j11,.top,.top,.top,.top,.top,.top,.top,.top,.top,.top,.top,.top,.top,.top,.top,.top,.top,.top,.top,.top,.top,.top,.top,.top,.top,.top,.top,.top,.top,.top,.top,.top,.top,.top,.top,.top,.top,.top,.top,.top,.top,.top,.top,.top,.top,.top,.top,.top,.top,.top,.top,.top,.top,.top,.top,.top,.top,j11,v69,(.p (.bool true)),j1,v106,v96,v105,v108,v110,v112,(.p (.bool false)),.top,.top,.top,.top,.top,.top,.top,.top,.top,.top,.top,.top,.top,.top,.top]) h111 kp))) ∧
 (aBuildSlice 21 [v96] fun v113 =>
 aCall Tryz.prog (.p (.func slices_Clone_graph_Graph_graph_Node_i [])) [j1] H fun v114 h115 =>
 aAppend false 21 288 v114 v113 h115 fun v116 h117 =>
 aCall Tryz.prog (.p (.func graph_weight_i [])) [v116] h117 fun v118 h119 =>
 aBin false false .gtr v118 (.p (.int .i64 64)) fun v120 =>
 aGuard v120
 (self graph_Node_check_c17 (keepS [1,3,6,9,10,11,9999] 0 [.top,j1,.top,j3,.top,.top,j6,.top,.top,j9,j10,(.p (.int .i64 10)),.top,.top,.top,.top,.top,.top,.top,.top,.top,.top,.top,.top,.top,.top,.top,.top,.top,.top,.top,.top,.top,.top,.top,.top,.top,.top,.top,.top,.top,.top,.top,.top,.top,.top,.top,.top,.top,.top,.top,.top,.top,.top,.top,.top,.top,.top,.top,.top,.top,.top,.top,.top,.top,.top,.top,.top,.top,j11,v69,(.p (.bool true)),j1,v114,v96,v113,v116,v118,v120,(.p (.bool true)),.top,.top,.top,.top,.top,.top,.top,.top,.top,.top,.top,.top,.top,.top,.top]) h119 kp)
 (self graph_Node_check_c17 (keepS [1,3,6,9,10,11,9999] 0 [.top,j1,.top,j3,.top,.top,j6,.top,.top,j9,j10,j11,.top,.top,.top,.top,.top,.top,.top,.top,.top,.top,.top,.top,.top,.top,.top,.top,.top,.top,.top,.top,.top,.top,.top,.top,.top,.top,.top,.top,.top,.top,.top,.top,.top,.top,.top,.top,.top,.top,.top,.top,.top,.top,.top,.top,.top,.top,.top,.top,.top,.top,.top,.top,.top,.top,.top,.top,.top,j11,v69,(.p (.bool true)),j1,v114,v96,v113,v116,v118,v120,(.p (.bool false)),.top,.top,.top,.top,.top,.top,.top,.top,.top,.top,.top,.top,.top,.top,.top]) h119 kp)))
 (((self graph_Node_check_c17 (keepS [1,3,6,9,10,11,9999] 0 [.top,j1,.top,j3,.top,.top,j6,.top,.top,j9,j10,j11,.top,.top,.top,.top,.top,.top,.top,.top,.top,.top,.top,.top,.top,.top,.top,.top,.top,.top,.top,.top,.top,.top,.top,.top,.top,.top,.top,.top,.top,.top,.top,.top,.top,.top,.top,.top,.top,.top,.top,.top,.top,.top,.top,.top,.top,.top,.top,.top,.top,.top,.top,.top,.top,.top,.top,.top,.top,j11,v69,(.p (.bool false)),(.tup []),(.tup []),(.tup []),(.tup []),(.tup []),(.tup []),(.tup []),(.p (.bool false)),.top,.top,.top,.top,.top,.top,.top,.top,.top,.top,.top,.top,.top,.top,.top]) H kp) ∧
 (self graph_Node_check_c17 (keepS [1,3,6,9,10,11,9999] 0 [.top,j1,.top,j3,.top,.top,j6,.top,.top,j9,j10,j11,.top,.top,.top,.top,.top,.top,.top,.top,.top,.top,.top,.top,.top,.top,.top,.top,.top,.top,.top,.top,.top,.top,.top,.top,.top,.top,.top,.top,.top,.top,.top,.top,.top,.top,.top,.top,.top,.top,.top,.top,.top,.top,.top,.top,.top,.top,.top,.top,.top,.top,.top,.top,.top,.top,.top,.top,.top,j11,v69,(.p (.bool false)),(.tup []),(.tup []),(.tup []),(.tup []),(.tup []),(.tup []),(.tup []),(.p (.bool false)),.top,.top,.top,.top,.top,.top,.top,.top,.top,.top,.top,.top,.top,.top,.top]) H kp)) ∧
 (self graph_Node_check_c17 (keepS [1,3,6,9,10,11,9999] 0 [.top,j1,.top,j3,.top,.top,j6,.top,.top,j9,j10,j11,.top,.top,.top,.top,.top,.top,.top,.top,.top,.top,.top,.top,.top,.top,.top,.top,.top,.top,.top,.top,.top,.top,.top,.top,.top,.top,.top,.top,.top,.top,.top,.top,.top,.top,.top,.top,.top,.top,.top,.top,.top,.top,.top,.top,.top,.top,.top,.top,.top,.top,.top,.top,.top,.top,.top,.top,.top,j11,v69,(.p (.bool false)),(.tup []),(.tup []),(.tup []),(.tup []),(.tup []),(.tup []),(.tup []),(.p (.bool false)),.top,.top,.top,.top,.top,.top,.top,.top,.top,.top,.top,.top,.top,.top,.top]) H kp)))
theorem graph_Node_check_P15_x (j1 j3 j6 j9 j10 j11:AV) (H:List Ob) (self:Code→List AV→List Ob→Ko→Prop) (kp:Ko):awpX Tryz.prog graph_Node_check_ann self graph_Node_check_cut graph_Node_check_c15 ([.top,j1,.top,j3,.top,.top,j6,.top,.top,j9,j10,j11] ++ List.replicate 83 .top) H kp = graph_Node_check_P15 j1 j3 j6 j9 j10 j11 H self kp:=by kernel_rfl
theorem graph_Node_check_c15_eq (j0 j1 j2 j3 j4 j5 j6 j7 j8 j9 j10 j11 j12 j13 j14 j15 j16 j17 j18 j19 j20 j21 j22 j23 j24 j25 j26 j27 j28 j29 j30 j31 j32 j33 j34 j35 j36 j37 j38 j39 j40 j41 j42 j43 j44 j45 j46 j47 j48 j49 j50 j51 j52 j53 j54 j55 j56 j57 j58 j59 j60 j61 j62 j63 j64 j65 j66 j67 j68 j69 j70 j71 j72 j73 j74 j75 j76 j77 j78 j79 j80 j81 j82 j83 j84 j85 j86 j87 j88 j89 j90 j91 j92 j93 j94:AV) (H:List Ob) (kp:Ko):awp Tryz.prog graph_Node_check_ann graph_Node_check_c15 (keepS [1,3,6,9,10,11,9999] 0 [j0,j1,j2,j3,j4,j5,j6,j7,j8,j9,j10,j11,j12,j13,j14,j15,j16,j17,j18,j19,j20,j21,j22,j23,j24,j25,j26,j27,j28,j29,j30,j31,j32,j33,j34,j35,j36,j37,j38,j39,j40,j41,j42,j43,j44,j45,j46,j47,j48,j49,j50,j51,j52,j53,j54,j55,j56,j57,j58,j59,j60,j61,j62,j63,j64,j65,j66,j67,j68,j69,j70,j71,j72,j73,j74,j75,j76,j77,j78,j79,j80,j81,j82,j83,j84,j85,j86,j87,j88,j89,j90,j91,j92,j93,j94]) H kp = graph_Node_check_P15 j1 j3 j6 j9 j10 j11 H (awp Tryz.prog graph_Node_check_ann) kp :=
 Eq.trans (by kernel_rfl) ((awpX_eq Tryz.prog graph_Node_check_ann graph_Node_check_cut _ _ _ _).symm.trans (graph_Node_check_P15_x j1 j3 j6 j9 j10 j11 H _ kp))
def graph_Node_check_P17 (j1 j3 j6 j9 j10 j11:AV) (H:List Ob) (self:Code→List AV→List Ob→Ko→Prop) (kp:Ko):Prop :=
 aBin false false .eql j11 (.p (.int .i64 0)) fun v121 =>
 aMerge true v121 (fun Q122 =>
 aFieldAddr 1 j3 fun v123 =>
 aFieldAddr 1 v123 fun v124 =>
 aLoad false 1 v124 H fun v125 =>
 aBin false false .neq v125 (.p (.str [])) fun v126 =>
 (H = H ∧ Q122 v126)) fun v127 =>
 aMerge true v127 (fun Q128 =>
 aCall Tryz.prog (.p (.func slices_ContainsFunc_graph_Graph_graph_Node_i [])) [j1,j9] H fun v129 h130 =>
 (h130 = H ∧ Q128 v129)) fun v131 =>
 aGuard v131
 (self graph_Node_check_c19 (keepS [6,10,11,9999] 0 [.top,j1,.top,j3,.top,.top,j6,.top,.top,j9,j10,(.p (.int .i64 7)),.top,.top,.top,.top,.top,.top,.top,.top,.top,.top,.top,.top,.top,.top,.top,.top,.top,.top,.top,.top,.top,.top,.top,.top,.top,.top,.top,.top,.top,.top,.top,.top,.top,.top,.top,.top,.top,.top,.top,.top,.top,.top,.top,.top,.top,.top,.top,.top,.top,.top,.top,.top,.top,.top,.top,.top,.top,.top,.top,.top,.top,.top,.top,.top,.top,.top,.top,.top,j11,v121,v121,.top,.top,.top,.top,v127,v127,.top,.top,.top,(.p (.bool true)),.top,.top]) H kp)
 (self graph_Node_check_c19 (keepS [6,10,11,9999] 0 [.top,j1,.top,j3,.top,.top,j6,.top,.top,j9,j10,j11,.top,.top,.top,.top,.top,.top,.top,.top,.top,.top,.top,.top,.top,.top,.top,.top,.top,.top,.top,.top,.top,.top,.top,.top,.top,.top,.top,.top,.top,.top,.top,.top,.top,.top,.top,.top,.top,.top,.top,.top,.top,.top,.top,.top,.top,.top,.top,.top,.top,.top,.top,.top,.top,.top,.top,.top,.top,.top,.top,.top,.top,.top,.top,.top,.top,.top,.top,.top,j11,v121,v121,.top,.top,.top,.top,v127,v127,.top,.top,.top,(.p (.bool false)),.top,.top]) H kp)
theorem graph_Node_check_P17_x (j1 j3 j6 j9 j10 j11:AV) (H:List Ob) (self:Code→List AV→List Ob→Ko→Prop) (kp:Ko):awpX Tryz.prog graph_Node_check_ann self graph_Node_check_cut graph_Node_check_c17 ([.top,j1,.top,j3,.top,.top,j6,.top,.top,j9,j10,j11] ++ List.replicate 83 .top) H kp = graph_Node_check_P17 j1 j3 j6 j9 j10 j11 H self kp:=by kernel_rfl
theorem graph_Node_check_c17_eq (j0 j1 j2 j3 j4 j5 j6 j7 j8 j9 j10 j11 j12 j13 j14 j15 j16 j17 j18 j19 j20 j21 j22 j23 j24 j25 j26 j27 j28 j29 j30 j31 j32 j33 j34 j35 j36 j37 j38 j39 j40 j41 j42 j43 j44 j45 j46 j47 j48 j49 j50 j51 j52 j53 j54 j55 j56 j57 j58 j59 j60 j61 j62 j63 j64 j65 j66 j67 j68 j69 j70 j71 j72 j73 j74 j75 j76 j77 j78 j79 j80 j81 j82 j83 j84 j85 j86 j87 j88 j89 j90 j91 j92 j93 j94:AV) (H:List Ob) (kp:Ko):awp Tryz.prog graph_Node_check_ann graph_Node_check_c17 (keepS [1,3,6,9,10,11,9999] 0 [j0,j1,j2,j3,j4,j5,j6,j7,j8,j9,j10,j11,j12,j13,j14,j15,j16,j17,j18,j19,j20,j21,j22,j23,j24,j25,j26,j27,j28,j29,j30,j31,j32,j33,j34,j35,j36,j37,j38,j39,j40,j41,j42,j43,j44,j45,j46,j47,j48,j49,j50,j51,j52,j53,j54,j55,j56,j57,j58,j59,j60,j61,j62,j63,j64,j65,j66,j67,j68,j69,j70,j71,j72,j73,j74,j75,j76,j77,j78,j79,j80,j81,j82,j83,j84,j85,j86,j87,j88,j89,j90,j91,j92,j93,j94]) H kp = graph_Node_check_P17 j1 j3 j6 j9 j10 j11 H (awp Tryz.prog graph_Node_check_ann) kp :=
 Eq.trans (by kernel_rfl) ((awpX_eq Tryz.prog graph_Node_check_ann graph_Node_check_cut _ _ _ _).symm.trans (graph_Node_check_P17_x j1 j3 j6 j9 j10 j11 H _ kp))
def graph_Node_check_P19 (j6 j10 j11:AV) (H:List Ob) (_:Code→List AV→List Ob→Ko→Prop) (kp:Ko):Prop :=
 aLoad true 2 j10 H fun v132 =>
 aStore 2 j6 v132 H fun _ h134 =>
 kp .ret [.top,.top,.top,.top,.top,.top,j6,j11,.top,.top,j10,j11,.top,.top,.top,.top,.top,.top,.top,.top,.top,.top,.top,.top,.top,.top,.top,.top,.top,.top,.top,.top,.top,.top,.top,.top,.top,.top,.top,.top,.top,.top,.top,.top,.top,.top,.top,.top,.top,.top,.top,.top,.top,.top,.top,.top,.top,.top,.top,.top,.top,.top,.top,.top,.top,.top,.top,.top,.top,.top,.top,.top,.top,.top,.top,.top,.top,.top,.top,.top,.top,.top,.top,.top,.top,.top,.top,.top,.top,.top,.top,.top,.top,v132,j11] h134
theorem graph_Node_check_P19_x (j6 j10 j11:AV) (H:List Ob) (self:Code→List AV→List Ob→Ko→Prop) (kp:Ko):awpX Tryz.prog graph_Node_check_ann self graph_Node_check_cut graph_Node_check_c19 (List.replicate 6 .top ++ [j6,.top,.top,.top,j10,j11] ++ List.replicate 83 .top) H kp = graph_Node_check_P19 j6 j10 j11 H self kp:=by kernel_rfl
theorem graph_Node_check_c19_eq (j0 j1 j2 j3 j4 j5 j6 j7 j8 j9 j10 j11 j12 j13 j14 j15 j16 j17 j18 j19 j20 j21 j22 j23 j24 j25 j26 j27 j28 j29 j30 j31 j32 j33 j34 j35 j36 j37 j38 j39 j40 j41 j42 j43 j44 j45 j46 j47 j48 j49 j50 j51 j52 j53 j54 j55 j56 j57 j58 j59 j60 j61 j62 j63 j64 j65 j66 j67 j68 j69 j70 j71 j72 j73 j74 j75 j76 j77 j78 j79 j80 j81 j82 j83 j84 j85 j86 j87 j88 j89 j90 j91 j92 j93 j94:AV) (H:List Ob) (kp:Ko):awp Tryz.prog graph_Node_check_ann graph_Node_check_c19 (keepS [6,10,11,9999] 0 [j0,j1,j2,j3,j4,j5,j6,j7,j8,j9,j10,j11,j12,j13,j14,j15,j16,j17,j18,j19,j20,j21,j22,j23,j24,j25,j26,j27,j28,j29,j30,j31,j32,j33,j34,j35,j36,j37,j38,j39,j40,j41,j42,j43,j44,j45,j46,j47,j48,j49,j50,j51,j52,j53,j54,j55,j56,j57,j58,j59,j60,j61,j62,j63,j64,j65,j66,j67,j68,j69,j70,j71,j72,j73,j74,j75,j76,j77,j78,j79,j80,j81,j82,j83,j84,j85,j86,j87,j88,j89,j90,j91,j92,j93,j94]) H kp = graph_Node_check_P19 j6 j10 j11 H (awp Tryz.prog graph_Node_check_ann) kp :=
 Eq.trans (by kernel_rfl) ((awpX_eq Tryz.prog graph_Node_check_ann graph_Node_check_cut _ _ _ _).symm.trans (graph_Node_check_P19_x j6 j10 j11 H _ kp))
def graph_Outs (x0 x1:AV) (H:List Ob) (K:AV→List Ob→Prop):Prop :=
 aBox x1 H fun v0 h1 =>
 aMakeFunc graph_Outs_1_i [v0] h1 fun v2 h3 =>
 aCall Tryz.prog (.p (.func graph_which_graph_Node_i [])) [x0,v2] h3 fun v4 h5 =>
 K v4 h5
def graph_Outs_ann:Nat→List Nat:=fun _=>[]
theorem graph_Outs_eq (x0 x1:AV) (H:List Ob) (r:AV) (Ho:List Ob):aBody Tryz.prog graph_Outs_ann Tryz.f87 H [x0,x1] r Ho = graph_Outs x0 x1 H (fun v H'=>Gives H.length v H' r Ho):=by kernel_rfl
theorem graph_Outs_fn {x0 x1:AV} {r:AV} {Ho:List Ob} (h:graph_Outs x0 x1 [] (fun v H'=>Gives 0 v H' r Ho)):Abs.Fn Tryz.prog graph_Outs_i [] [x0,x1] r Ho :=
 fn_intro mixed graph_Outs_ann (fn:=Tryz.f87) (by kernel_rfl) (by kernel_rfl) (by rw [graph_Outs_eq]; exact h)
def graph_which_graph_Node_L1 (q1s1 q1s8 q1s9 y0 y1:AV) (H:List Ob) (B1:List AV→List Ob→Prop) (K:AV→List Ob→Prop):Prop :=
 aBin false false .lss y1 q1s9 fun v1 =>
 aGuard v1
 (aIndexAddr 21 q1s8 y1 fun v2 =>
 aLoad true 21 v2 H fun v3 =>
 aAlloc [(.p (.str [])),(.p (.int .i64 0)),(.p (.str [])),(.p (.int .i64 0)),(.full []),(.full []),(.p (.str [])),(.p (.int .i64 0)),(.p (.int .i64 0)),(.p (.bool false)),(.p (.str [])),(.full []),(.p (.int .i64 0)),(.full []),(.p (.int .i64 0)),(.p (.int .i64 0)),(.full []),(.p (.int .i64 0)),(.p (.int .i64 0)),(.p (.str [])),(.p (.bool false))] H fun v4 h5 =>
 aStore 21 v4 v3 h5 fun _ h7 =>
 aLoad true 21 v4 h7 fun v8 =>
 aCall Tryz.prog q1s1 [v8] h7 fun v9 h10 =>
 aGuard v9
 (aBuildSlice 1 [y1] fun v11 =>
 aAppend false 1 8 y0 v11 h10 fun v12 h13 =>
 aBin false false .add y1 (.p (.int .i64 1)) fun v14 =>
 B1 [v12,v14] h13)
 (aBin false false .add y1 (.p (.int .i64 1)) fun v15 =>
 B1 [y0,v15] h10))
 (aCall Tryz.prog (.p (.func slices_Clip_int_int_i [])) [y0] H fun v16 h17 =>
 K v16 h17)
def graph_which_graph_Node (x0 x1:AV) (H:List Ob) (K:AV→List Ob→Prop):Prop :=
 aLen false false x0 fun v0 =>
 aLoopN 2 [(.full []),(.p (.int .i64 0))] H fun xs H B1=>graph_which_graph_Node_L1 x1 x0 v0 (xs.getD 0 .top) (xs.getD 1 .top) H B1 K
def graph_which_graph_Node_ann:Nat→List Nat:=fun k=>match k with | 3=>[5,10] | _=>[]
theorem graph_which_graph_Node_eq (x0 x1:AV) (H:List Ob) (r:AV) (Ho:List Ob):aBody Tryz.prog graph_which_graph_Node_ann Tryz.f88 H [x0,x1] r Ho = graph_which_graph_Node x0 x1 H (fun v H'=>Gives H.length v H' r Ho):=by kernel_rfl
theorem graph_which_graph_Node_fn {x0 x1:AV} {r:AV} {Ho:List Ob} (h:graph_which_graph_Node x0 x1 [] (fun v H'=>Gives 0 v H' r Ho)):Abs.Fn Tryz.prog graph_which_graph_Node_i [] [x0,x1] r Ho :=
 fn_intro mixed graph_which_graph_Node_ann (fn:=Tryz.f88) (by kernel_rfl) (by kernel_rfl) (by rw [graph_which_graph_Node_eq]; exact h)
def graph_Named_1 (x0 x1:AV) (H:List Ob) (K:AV→List Ob→Prop):Prop :=
 aBox x0 H fun v0 h1 =>
 aFieldAddr 1 v0 fun v2 =>
 aFieldAddr 0 v2 fun v3 =>
 aLoad false 1 v3 h1 fun v4 =>
 aLoad false 1 x1 h1 fun v5 =>
 aBin false false .eql v4 v5 fun v6 =>
 K v6 h1
def graph_Named_1_ann:Nat→List Nat:=fun _=>[]
theorem graph_Named_1_eq (x0 x1:AV) (H:List Ob) (r:AV) (Ho:List Ob):aBody Tryz.prog graph_Named_1_ann Tryz.f89 H [x0,x1] r Ho = graph_Named_1 x0 x1 H (fun v H'=>Gives H.length v H' r Ho):=by kernel_rfl
theorem graph_Named_1_fn {x0 x1:AV} {r:AV} {Ho:List Ob} (h:graph_Named_1 x0 x1 [] (fun v H'=>Gives 0 v H' r Ho)):Abs.Fn Tryz.prog graph_Named_1_i [] [x0,x1] r Ho :=
 fn_intro mixed graph_Named_1_ann (fn:=Tryz.f89) (by kernel_rfl) (by kernel_rfl) (by rw [graph_Named_1_eq]; exact h)
def graph_Node_check_1 (x0 x1:AV) (H:List Ob) (K:AV→List Ob→Prop):Prop :=
 aBox x0 H fun v0 h1 =>
 aFieldAddr 0 v0 fun v2 =>
 aLoad false 1 v2 h1 fun v3 =>
 aFieldAddr 0 x1 fun v4 =>
 aLoad false 1 v4 h1 fun v5 =>
 aBin false false .eql v3 v5 fun v6 =>
 K v6 h1
def graph_Node_check_1_ann:Nat→List Nat:=fun _=>[]
theorem graph_Node_check_1_eq (x0 x1:AV) (H:List Ob) (r:AV) (Ho:List Ob):aBody Tryz.prog graph_Node_check_1_ann Tryz.f124 H [x0,x1] r Ho = graph_Node_check_1 x0 x1 H (fun v H'=>Gives H.length v H' r Ho):=by kernel_rfl
theorem graph_Node_check_1_fn {x0 x1:AV} {r:AV} {Ho:List Ob} (h:graph_Node_check_1 x0 x1 [] (fun v H'=>Gives 0 v H' r Ho)):Abs.Fn Tryz.prog graph_Node_check_1_i [] [x0,x1] r Ho :=
 fn_intro mixed graph_Node_check_1_ann (fn:=Tryz.f124) (by kernel_rfl) (by kernel_rfl) (by rw [graph_Node_check_1_eq]; exact h)
def graph_Node_check_2 (x0 x1:AV) (H:List Ob) (K:AV→List Ob→Prop):Prop :=
 aBox x0 H fun v0 h1 =>
 aFieldAddr 1 v0 fun v2 =>
 aFieldAddr 0 v2 fun v3 =>
 aLoad false 1 v3 h1 fun v4 =>
 aFieldAddr 1 x1 fun v5 =>
 aFieldAddr 0 v5 fun v6 =>
 aLoad false 1 v6 h1 fun v7 =>
 aBin false false .eql v4 v7 fun v8 =>
 aMerge true v8 (fun Q9 =>
 aFieldAddr 1 v0 fun v10 =>
 aFieldAddr 1 v10 fun v11 =>
 aLoad false 1 v11 h1 fun v12 =>
 aFieldAddr 1 x1 fun v13 =>
 aFieldAddr 1 v13 fun v14 =>
 aLoad false 1 v14 h1 fun v15 =>
 aBin false false .eql v12 v15 fun v16 =>
 (h1 = h1 ∧ Q9 v16)) fun v17 =>
 K v17 h1
def graph_Node_check_2_ann:Nat→List Nat:=fun _=>[]
theorem graph_Node_check_2_eq (x0 x1:AV) (H:List Ob) (r:AV) (Ho:List Ob):aBody Tryz.prog graph_Node_check_2_ann Tryz.f125 H [x0,x1] r Ho = graph_Node_check_2 x0 x1 H (fun v H'=>Gives H.length v H' r Ho):=by kernel_rfl
theorem graph_Node_check_2_fn {x0 x1:AV} {r:AV} {Ho:List Ob} (h:graph_Node_check_2 x0 x1 [] (fun v H'=>Gives 0 v H' r Ho)):Abs.Fn Tryz.prog graph_Node_check_2_i [] [x0,x1] r Ho :=
 fn_intro mixed graph_Node_check_2_ann (fn:=Tryz.f125) (by kernel_rfl) (by kernel_rfl) (by rw [graph_Node_check_2_eq]; exact h)
def slices_ContainsFunc_graph_Graph_graph_Node (x0 x1:AV) (H:List Ob) (K:AV→List Ob→Prop):Prop :=
 aCall Tryz.prog (.p (.func slices_IndexFunc_graph_Graph_graph_Node_i [])) [x0,x1] H fun v0 h1 =>
 aBin false false .geq v0 (.p (.int .i64 0)) fun v2 =>
 K v2 h1
def slices_ContainsFunc_graph_Graph_graph_Node_ann:Nat→List Nat:=fun _=>[]
theorem slices_ContainsFunc_graph_Graph_graph_Node_eq (x0 x1:AV) (H:List Ob) (r:AV) (Ho:List Ob):aBody Tryz.prog slices_ContainsFunc_graph_Graph_graph_Node_ann Tryz.f127 H [x0,x1] r Ho = slices_ContainsFunc_graph_Graph_graph_Node x0 x1 H (fun v H'=>Gives H.length v H' r Ho):=by kernel_rfl
theorem slices_ContainsFunc_graph_Graph_graph_Node_fn {x0 x1:AV} {r:AV} {Ho:List Ob} (h:slices_ContainsFunc_graph_Graph_graph_Node x0 x1 [] (fun v H'=>Gives 0 v H' r Ho)):Abs.Fn Tryz.prog slices_ContainsFunc_graph_Graph_graph_Node_i [] [x0,x1] r Ho :=
 fn_intro mixed slices_ContainsFunc_graph_Graph_graph_Node_ann (fn:=Tryz.f127) (by kernel_rfl) (by kernel_rfl) (by rw [slices_ContainsFunc_graph_Graph_graph_Node_eq]; exact h)
def graph_Node_ins_L1 (q1s1 q1s2 q1s8 q1s9 y0:AV) (H:List Ob) (B1:List AV→List Ob→Prop) (K:AV→List Ob→Prop):Prop :=
 aBin false false .lss y0 q1s9 fun v5 =>
 aGuard v5
 (aIndexAddr 1 q1s8 y0 fun v6 =>
 aLoad false 1 v6 H fun v7 =>
 aBin false false .lss v7 (.p (.int .i64 0)) fun v8 =>
 aMerge false v8 (fun Q9 =>
 aLenS false q1s1 fun v10 =>
 aBin false false .geq v7 v10 fun v11 =>
 (H = H ∧ Q9 v11)) fun v12 =>
 aMerge false v12 (fun Q13 =>
 aIndexAddr 21 q1s1 v7 fun v14 =>
 aFieldAddr 1 v14 fun v15 =>
 aFieldAddr 0 v15 fun v16 =>
 aLoad false 1 v16 H fun v17 =>
 aBin false false .eql v17 (.p (.int .i64 9)) fun v18 =>
 (H = H ∧ Q13 v18)) fun v19 =>
 aMerge false v19 (fun Q20 =>
 aFieldAddr 16 q1s2 fun v21 =>
 aLoad false 1 v21 H fun v22 =>
 aSlice false 1 v22 none (some y0) none fun v23 =>
 aCall Tryz.prog (.p (.func slices_Contains_int_int_i [])) [v23,v7] H fun v24 h25 =>
 (h25 = H ∧ Q20 v24)) fun v26 =>
 aGuard v26
 (K (.p (.bool false)) H)
 (aBin false false .add y0 (.p (.int .i64 1)) fun v27 =>
 B1 [v27] H))
 (K (.p (.bool true)) H)
def graph_Node_ins (x0 x1:AV) (H:List Ob) (K:AV→List Ob→Prop):Prop :=
 aBox x0 H fun v0 h1 =>
 aFieldAddr 16 v0 fun v2 =>
 aLoad false 1 v2 h1 fun v3 =>
 aLen false false v3 fun v4 =>
 aLoopN 1 [(.p (.int .i64 0))] h1 fun xs H B1=>graph_Node_ins_L1 x1 v0 v3 v4 (xs.getD 0 .top) H B1 K
def graph_Node_ins_ann:Nat→List Nat:=fun k=>match k with | 2=>[10] | _=>[]
theorem graph_Node_ins_eq (x0 x1:AV) (H:List Ob) (r:AV) (Ho:List Ob):aBody Tryz.prog graph_Node_ins_ann Tryz.f128 H [x0,x1] r Ho = graph_Node_ins x0 x1 H (fun v H'=>Gives H.length v H' r Ho):=by kernel_rfl
theorem graph_Node_ins_fn {x0 x1:AV} {r:AV} {Ho:List Ob} (h:graph_Node_ins x0 x1 [] (fun v H'=>Gives 0 v H' r Ho)):Abs.Fn Tryz.prog graph_Node_ins_i [] [x0,x1] r Ho :=
 fn_intro mixed graph_Node_ins_ann (fn:=Tryz.f128) (by kernel_rfl) (by kernel_rfl) (by rw [graph_Node_ins_eq]; exact h)
def graph_of_L1 (q1s0 q1s8 q1s9 y0 y1:AV) (H:List Ob) (B1:List AV→List Ob→Prop) (K:AV→List Ob→Prop):Prop :=
 aBin false false .lss y1 q1s9 fun v1 =>
 aGuard v1
 (aIndexAddr 1 q1s8 y1 fun v2 =>
 aLoad false 1 v2 H fun v3 =>
 aIndexAddr 2 q1s0 v3 fun v4 =>
 aLoad true 2 v4 H fun v5 =>
 aBuildSlice 2 [v5] fun v6 =>
 aAppend false 2 32 y0 v6 H fun v7 h8 =>
 aBin false false .add y1 (.p (.int .i64 1)) fun v9 =>
 B1 [v7,v9] h8)
 (K y0 H)
def graph_of (x0 x1:AV) (H:List Ob) (K:AV→List Ob→Prop):Prop :=
 aLen false false x1 fun v0 =>
 aLoopN 2 [(.full []),(.p (.int .i64 0))] H fun xs H B1=>graph_of_L1 x0 x1 v0 (xs.getD 0 .top) (xs.getD 1 .top) H B1 K
def graph_of_ann:Nat→List Nat:=fun k=>match k with | 3=>[5,10] | _=>[]
theorem graph_of_eq (x0 x1:AV) (H:List Ob) (r:AV) (Ho:List Ob):aBody Tryz.prog graph_of_ann Tryz.f130 H [x0,x1] r Ho = graph_of x0 x1 H (fun v H'=>Gives H.length v H' r Ho):=by kernel_rfl
theorem graph_of_fn {x0 x1:AV} {r:AV} {Ho:List Ob} (h:graph_of x0 x1 [] (fun v H'=>Gives 0 v H' r Ho)):Abs.Fn Tryz.prog graph_of_i [] [x0,x1] r Ho :=
 fn_intro mixed graph_of_ann (fn:=Tryz.f130) (by kernel_rfl) (by kernel_rfl) (by rw [graph_of_eq]; exact h)
def graph_weight_L2 (q2s3 q2s5 q2s11 q2s16 q2s17 y0 y1:AV) (H:List Ob) (B2:List AV→List Ob→Prop) (B1:List AV→List Ob→Prop) (K:AV→List Ob→Prop):Prop :=
 aBin false false .lss y1 q2s17 fun v11 =>
 aGuard v11
 (aIndexAddr 1 q2s16 y1 fun v12 =>
 aLoad false 1 v12 H fun v13 =>
 aIndexAddr 1 q2s3 v13 fun v14 =>
 aLoad false 1 v14 H fun v15 =>
 aBin false false .add y0 v15 fun v16 =>
 aBin false false .add y1 (.p (.int .i64 1)) fun v17 =>
 B2 [v16,v17] H)
 (aFieldAddr 1 q2s5 fun v18 =>
 aFieldAddr 0 v18 fun v19 =>
 aLoad false 1 v19 H fun v20 =>
 aBin false false .eql v20 (.p (.int .i64 1)) fun v21 =>
 aGuard v21
 (aBuildSlice 1 [(.p (.int .i64 1))] fun v22 =>
 aAppend false 1 8 q2s3 v22 H fun v23 h24 =>
 aBin false false .add q2s11 (.p (.int .i64 1)) fun v25 =>
 B1 [v23,v25] h24)
 (aBin false false .eql v20 (.p (.int .i64 4)) fun v26 =>
 aGuard v26
 (aFieldAddr 1 q2s5 fun v27 =>
 aFieldAddr 4 v27 fun v28 =>
 aLoad false 1 v28 H fun v29 =>
 aLen false false v29 fun v30 =>
 aBin false false .mul y0 v30 fun v31 =>
 aBuildSlice 1 [v31] fun v32 =>
 aAppend false 1 8 q2s3 v32 H fun v33 h34 =>
 aBin false false .add q2s11 (.p (.int .i64 1)) fun v35 =>
 B1 [v33,v35] h34)
 (aBuildSlice 1 [y0] fun v36 =>
 aAppend false 1 8 q2s3 v36 H fun v37 h38 =>
 aBin false false .add q2s11 (.p (.int .i64 1)) fun v39 =>
 B1 [v37,v39] h38)))
def graph_weight_L1 (q1s9 q1s10 y0 y1:AV) (H:List Ob) (B1:List AV→List Ob→Prop) (K:AV→List Ob→Prop):Prop :=
 aBin false false .lss y1 q1s10 fun v1 =>
 aGuard v1
 (aIndexAddr 21 q1s9 y1 fun v2 =>
 aLoad true 21 v2 H fun v3 =>
 aAlloc [(.p (.str [])),(.p (.int .i64 0)),(.p (.str [])),(.p (.int .i64 0)),(.full []),(.full []),(.p (.str [])),(.p (.int .i64 0)),(.p (.int .i64 0)),(.p (.bool false)),(.p (.str [])),(.full []),(.p (.int .i64 0)),(.full []),(.p (.int .i64 0)),(.p (.int .i64 0)),(.full []),(.p (.int .i64 0)),(.p (.int .i64 0)),(.p (.str [])),(.p (.bool false))] H fun v4 h5 =>
 aStore 21 v4 v3 h5 fun _ h7 =>
 aFieldAddr 16 v4 fun v8 =>
 aLoad false 1 v8 h7 fun v9 =>
 aLen false false v9 fun v10 =>
 aLoopN 2 [(.p (.int .i64 0)),(.p (.int .i64 0))] h7 fun xs H B2=>graph_weight_L2 y0 v4 y1 v9 v10 (xs.getD 0 .top) (xs.getD 1 .top) H B2 B1 K)
 (aLen false false y0 fun v40 =>
 aBin false false .sub v40 (.p (.int .i64 1)) fun v41 =>
 aIndexAddr 1 y0 v41 fun v42 =>
 aLoad false 1 v42 H fun v43 =>
 K v43 H)
def graph_weight (x0:AV) (H:List Ob) (K:AV→List Ob→Prop):Prop :=
 aLen false false x0 fun v0 =>
 aLoopN 2 [(.full []),(.p (.int .i64 0))] H fun xs H B1=>graph_weight_L1 x0 v0 (xs.getD 0 .top) (xs.getD 1 .top) H B1 K
def graph_weight_ann:Nat→List Nat:=fun k=>match k with | 3=>[3,11] | 7=>[6,18] | _=>[]
theorem graph_weight_eq (x0:AV) (H:List Ob) (r:AV) (Ho:List Ob):aBody Tryz.prog graph_weight_ann Tryz.f131 H [x0] r Ho = graph_weight x0 H (fun v H'=>Gives H.length v H' r Ho):=by kernel_rfl
theorem graph_weight_fn {x0:AV} {r:AV} {Ho:List Ob} (h:graph_weight x0 [] (fun v H'=>Gives 0 v H' r Ho)):Abs.Fn Tryz.prog graph_weight_i [] [x0] r Ho :=
 fn_intro mixed graph_weight_ann (fn:=Tryz.f131) (by kernel_rfl) (by kernel_rfl) (by rw [graph_weight_eq]; exact h)
def slices_Clone_graph_Graph_graph_Node (x0:AV) (H:List Ob) (K:AV→List Ob→Prop):Prop :=
 aNil true .eql x0 fun v0 =>
 aGuard v0
 (K (.full []) H)
 (aBuildSlice 21 [] fun v1 =>
 aAppend false 21 288 v1 x0 H fun v2 h3 =>
 K v2 h3)
def slices_Clone_graph_Graph_graph_Node_ann:Nat→List Nat:=fun _=>[]
theorem slices_Clone_graph_Graph_graph_Node_eq (x0:AV) (H:List Ob) (r:AV) (Ho:List Ob):aBody Tryz.prog slices_Clone_graph_Graph_graph_Node_ann Tryz.f132 H [x0] r Ho = slices_Clone_graph_Graph_graph_Node x0 H (fun v H'=>Gives H.length v H' r Ho):=by kernel_rfl
theorem slices_Clone_graph_Graph_graph_Node_fn {x0:AV} {r:AV} {Ho:List Ob} (h:slices_Clone_graph_Graph_graph_Node x0 [] (fun v H'=>Gives 0 v H' r Ho)):Abs.Fn Tryz.prog slices_Clone_graph_Graph_graph_Node_i [] [x0] r Ho :=
 fn_intro mixed slices_Clone_graph_Graph_graph_Node_ann (fn:=Tryz.f132) (by kernel_rfl) (by kernel_rfl) (by rw [slices_Clone_graph_Graph_graph_Node_eq]; exact h)
def graph_Outs_1 (x0 x1:AV) (H:List Ob) (K:AV→List Ob→Prop):Prop :=
 aBox x0 H fun v0 h1 =>
 aFieldAddr 16 v0 fun v2 =>
 aLoad false 1 v2 h1 fun v3 =>
 aLoad false 1 x1 h1 fun v4 =>
 aCall Tryz.prog (.p (.func slices_Contains_int_int_i [])) [v3,v4] h1 fun v5 h6 =>
 K v5 h6
def graph_Outs_1_ann:Nat→List Nat:=fun _=>[]
theorem graph_Outs_1_eq (x0 x1:AV) (H:List Ob) (r:AV) (Ho:List Ob):aBody Tryz.prog graph_Outs_1_ann Tryz.f133 H [x0,x1] r Ho = graph_Outs_1 x0 x1 H (fun v H'=>Gives H.length v H' r Ho):=by kernel_rfl
theorem graph_Outs_1_fn {x0 x1:AV} {r:AV} {Ho:List Ob} (h:graph_Outs_1 x0 x1 [] (fun v H'=>Gives 0 v H' r Ho)):Abs.Fn Tryz.prog graph_Outs_1_i [] [x0,x1] r Ho :=
 fn_intro mixed graph_Outs_1_ann (fn:=Tryz.f133) (by kernel_rfl) (by kernel_rfl) (by rw [graph_Outs_1_eq]; exact h)
def slices_IndexFunc_graph_Graph_graph_Node_L1 (q1s0 q1s1 q1s7 y0:AV) (H:List Ob) (B1:List AV→List Ob→Prop) (K:AV→List Ob→Prop):Prop :=
 aBin false false .lss y0 q1s7 fun v1 =>
 aGuard v1
 (aIndexAddr 21 q1s0 y0 fun v2 =>
 aLoad true 21 v2 H fun v3 =>
 aCall Tryz.prog q1s1 [v3] H fun v4 h5 =>
 aGuard v4
 (K y0 h5)
 (aBin false false .add y0 (.p (.int .i64 1)) fun v6 =>
 B1 [v6] h5))
 (K (.p (.int .i64 (-1))) H)
def slices_IndexFunc_graph_Graph_graph_Node (x0 x1:AV) (H:List Ob) (K:AV→List Ob→Prop):Prop :=
 aLen false false x0 fun v0 =>
 aLoopN 1 [(.p (.int .i64 0))] H fun xs H B1=>slices_IndexFunc_graph_Graph_graph_Node_L1 x0 x1 v0 (xs.getD 0 .top) H B1 K
def slices_IndexFunc_graph_Graph_graph_Node_ann:Nat→List Nat:=fun k=>match k with | 2=>[8] | _=>[]
theorem slices_IndexFunc_graph_Graph_graph_Node_eq (x0 x1:AV) (H:List Ob) (r:AV) (Ho:List Ob):aBody Tryz.prog slices_IndexFunc_graph_Graph_graph_Node_ann Tryz.f160 H [x0,x1] r Ho = slices_IndexFunc_graph_Graph_graph_Node x0 x1 H (fun v H'=>Gives H.length v H' r Ho):=by kernel_rfl
theorem slices_IndexFunc_graph_Graph_graph_Node_fn {x0 x1:AV} {r:AV} {Ho:List Ob} (h:slices_IndexFunc_graph_Graph_graph_Node x0 x1 [] (fun v H'=>Gives 0 v H' r Ho)):Abs.Fn Tryz.prog slices_IndexFunc_graph_Graph_graph_Node_i [] [x0,x1] r Ho :=
 fn_intro mixed slices_IndexFunc_graph_Graph_graph_Node_ann (fn:=Tryz.f160) (by kernel_rfl) (by kernel_rfl) (by rw [slices_IndexFunc_graph_Graph_graph_Node_eq]; exact h)
end Go.Proofs.YtdmgbhamigegfaaGreatDoor
end

section
/- Made by program (Gen.lean): functions of the dump, over trees. -/
set_option maxRecDepth 4000
set_option linter.unusedVariables false
namespace Go.Proofs.YtdmgbhamigegfaaGreatDoor
open Go Go.Abs
noncomputable def slices_Values_val_Value_val_Value_1_r0:Array Oper:=opsOf (cl (Tryz.f141.body.getD .skip))
noncomputable def slices_Values_val_Value_val_Value_1_r1:Array Oper:=opsOf (cl (cl (cl (cr (Tryz.f141.body.getD .skip)))))
noncomputable def slices_Values_val_Value_val_Value_1_r2:Array Oper:=opsOf (cl (cl (cl (cr (cr (cl (cl (cr (Tryz.f141.body.getD .skip)))))))))
noncomputable def slices_Values_val_Value_val_Value_1_r3:Array Oper:=opsOf (cl (cr (cl (cl (cr (cr (cl (cl (cr (Tryz.f141.body.getD .skip))))))))))
noncomputable def slices_Values_val_Value_val_Value_1_r4:Array Oper:=opsOf (cr (cr (cr (cl (cl (cr (Tryz.f141.body.getD .skip)))))))
theorem slices_Values_val_Value_val_Value_1_code:Tryz.f141.body = some (.seq (.region 0 slices_Values_val_Value_val_Value_1_r0 false) (.block 0 (.loop (.seq (.region 1 slices_Values_val_Value_val_Value_1_r1 false) (.seq (.cond (.tmp 8) .skip (.exit 0)) (.seq (.block 1 (.seq (.region 2 slices_Values_val_Value_val_Value_1_r2 false) (.seq (.region 3 slices_Values_val_Value_val_Value_1_r3 false) (.cond (.tmp 14) .ret .skip)))) (.region 4 slices_Values_val_Value_val_Value_1_r4 false))))))):=by kernel_rfl
theorem slices_Values_val_Value_val_Value_1_r1_eq (j0 j1 j2 j3 j4 j5 j6 j7 j8 j9 j10 j11 j12 j13 j14 j15:AV) (H:List Ob) (K:List AV→List Ob→Prop):aRegion Tryz.prog slices_Values_val_Value_val_Value_1_r1 false [j0,j1,j2,j3,j4,j5,j6,j7,j8,j9,j10,j11,j12,j13,j14,j15] H K = (
 aBin false false .lss j7 j6 fun v0 =>
 K [j0,j1,j2,j3,j4,j5,j6,j7,v0,j9,j10,j11,j12,j13,j14,j15] H):=by kernel_rfl
theorem slices_Values_val_Value_val_Value_1_r2_eq (j0 j1 j2 j3 j4 j5 j6 j7 j8 j9 j10 j11 j12 j13 j14 j15:AV) (H:List Ob) (K:List AV→List Ob→Prop):aRegion Tryz.prog slices_Values_val_Value_val_Value_1_r2 false [j0,j1,j2,j3,j4,j5,j6,j7,j8,j9,j10,j11,j12,j13,j14,j15] H K = (
 aIndexAddr 5 j5 j7 fun v0 =>
 aLoad true 5 v0 H fun v1 =>
 aAlloc [(.p (.int .i64 0)),(.p (.int .i64 0)),(.p (.bool false)),(.p (.str [])),(.full [])] H fun v2 h3 =>
 aStore 5 v2 v1 h3 fun _ h5 =>
 K [j0,j1,j2,j3,v2,j5,j6,j7,j8,v0,v1,j11,j12,j13,j14,j15] h5):=by kernel_rfl
theorem slices_Values_val_Value_val_Value_1_r4_eq (j0 j1 j2 j3 j4 j5 j6 j7 j8 j9 j10 j11 j12 j13 j14 j15:AV) (H:List Ob) (K:List AV→List Ob→Prop):aRegion Tryz.prog slices_Values_val_Value_val_Value_1_r4 false [j0,j1,j2,j3,j4,j5,j6,j7,j8,j9,j10,j11,j12,j13,j14,j15] H K = (
 aBin false false .add j7 (.p (.int .i64 1)) fun v0 =>
 K [j0,j1,j2,j3,j4,j5,j6,v0,j8,j9,j10,j11,j12,j13,j14,v0] H):=by kernel_rfl
noncomputable def slices_Values_deno_Bad_deno_Bad_1_r0:Array Oper:=opsOf (cl (Tryz.f147.body.getD .skip))
noncomputable def slices_Values_deno_Bad_deno_Bad_1_r1:Array Oper:=opsOf (cl (cl (cl (cr (Tryz.f147.body.getD .skip)))))
noncomputable def slices_Values_deno_Bad_deno_Bad_1_r2:Array Oper:=opsOf (cl (cl (cl (cr (cr (cl (cl (cr (Tryz.f147.body.getD .skip)))))))))
noncomputable def slices_Values_deno_Bad_deno_Bad_1_r3:Array Oper:=opsOf (cl (cr (cl (cl (cr (cr (cl (cl (cr (Tryz.f147.body.getD .skip))))))))))
noncomputable def slices_Values_deno_Bad_deno_Bad_1_r4:Array Oper:=opsOf (cr (cr (cr (cl (cl (cr (Tryz.f147.body.getD .skip)))))))
theorem slices_Values_deno_Bad_deno_Bad_1_code:Tryz.f147.body = some (.seq (.region 0 slices_Values_deno_Bad_deno_Bad_1_r0 false) (.block 0 (.loop (.seq (.region 1 slices_Values_deno_Bad_deno_Bad_1_r1 false) (.seq (.cond (.tmp 8) .skip (.exit 0)) (.seq (.block 1 (.seq (.region 2 slices_Values_deno_Bad_deno_Bad_1_r2 false) (.seq (.region 3 slices_Values_deno_Bad_deno_Bad_1_r3 false) (.cond (.tmp 14) .ret .skip)))) (.region 4 slices_Values_deno_Bad_deno_Bad_1_r4 false))))))):=by kernel_rfl
theorem slices_Values_deno_Bad_deno_Bad_1_r1_eq (j0 j1 j2 j3 j4 j5 j6 j7 j8 j9 j10 j11 j12 j13 j14 j15:AV) (H:List Ob) (K:List AV→List Ob→Prop):aRegion Tryz.prog slices_Values_deno_Bad_deno_Bad_1_r1 false [j0,j1,j2,j3,j4,j5,j6,j7,j8,j9,j10,j11,j12,j13,j14,j15] H K = (
 aBin false false .lss j7 j6 fun v0 =>
 K [j0,j1,j2,j3,j4,j5,j6,j7,v0,j9,j10,j11,j12,j13,j14,j15] H):=by kernel_rfl
theorem slices_Values_deno_Bad_deno_Bad_1_r2_eq (j0 j1 j2 j3 j4 j5 j6 j7 j8 j9 j10 j11 j12 j13 j14 j15:AV) (H:List Ob) (K:List AV→List Ob→Prop):aRegion Tryz.prog slices_Values_deno_Bad_deno_Bad_1_r2 false [j0,j1,j2,j3,j4,j5,j6,j7,j8,j9,j10,j11,j12,j13,j14,j15] H K = (
 aIndexAddr 6 j5 j7 fun v0 =>
 aLoad true 6 v0 H fun v1 =>
 aAlloc [(.p (.int .i64 0)),(.p (.int .i64 0)),(.p (.int .i64 0)),(.p (.bool false)),(.p (.str [])),(.full [])] H fun v2 h3 =>
 aStore 6 v2 v1 h3 fun _ h5 =>
 K [j0,j1,j2,j3,v2,j5,j6,j7,j8,v0,v1,j11,j12,j13,j14,j15] h5):=by kernel_rfl
theorem slices_Values_deno_Bad_deno_Bad_1_r4_eq (j0 j1 j2 j3 j4 j5 j6 j7 j8 j9 j10 j11 j12 j13 j14 j15:AV) (H:List Ob) (K:List AV→List Ob→Prop):aRegion Tryz.prog slices_Values_deno_Bad_deno_Bad_1_r4 false [j0,j1,j2,j3,j4,j5,j6,j7,j8,j9,j10,j11,j12,j13,j14,j15] H K = (
 aBin false false .add j7 (.p (.int .i64 1)) fun v0 =>
 K [j0,j1,j2,j3,j4,j5,j6,v0,j8,j9,j10,j11,j12,j13,j14,v0] H):=by kernel_rfl
noncomputable def slices_AppendSeq_val_Value_val_Value_r0:Array Oper:=opsOf (cl (Tryz.f170.body.getD .skip))
noncomputable def slices_AppendSeq_val_Value_val_Value_r1:Array Oper:=opsOf (cl (cl (cr (Tryz.f170.body.getD .skip))))
noncomputable def slices_AppendSeq_val_Value_val_Value_r2:Array Oper:=opsOf (rfA (cl (cr (cl (cr (Tryz.f170.body.getD .skip))))))
noncomputable def slices_AppendSeq_val_Value_val_Value_r3:Array Oper:=opsOf (cl (rfB (cl (cr (cl (cr (Tryz.f170.body.getD .skip)))))))
noncomputable def slices_AppendSeq_val_Value_val_Value_r4:Array Oper:=opsOf (cl (cr (cr (Tryz.f170.body.getD .skip))))
theorem slices_AppendSeq_val_Value_val_Value_code:Tryz.f170.body = some (.seq (.region 0 slices_AppendSeq_val_Value_val_Value_r0 false) (.seq (.seq (.region 1 slices_AppendSeq_val_Value_val_Value_r1 false) (.block 0 (.rangeFunc (.tmp 6) #[7] (.region 2 slices_AppendSeq_val_Value_val_Value_r2 false) (.block 1 (.region 3 slices_AppendSeq_val_Value_val_Value_r3 true))))) (.seq (.region 4 slices_AppendSeq_val_Value_val_Value_r4 false) .ret))):=by kernel_rfl
theorem slices_AppendSeq_val_Value_val_Value_r0_eq (j0 j1 j2 j3 j4 j5 j6 j7 j8 j9 j10 j11 j12 j13 j14:AV) (H:List Ob) (K:List AV→List Ob→Prop):aRegion Tryz.prog slices_AppendSeq_val_Value_val_Value_r0 false [j0,j1,j2,j3,j4,j5,j6,j7,j8,j9,j10,j11,j12,j13,j14] H K = (
 aBox j0 H fun v0 h1 =>
 K [j0,j1,v0,j3,(.full []),j5,j6,j7,j8,j9,j10,j11,j12,j13,j14] h1):=by kernel_rfl
theorem slices_AppendSeq_val_Value_val_Value_r1_eq (j0 j1 j2 j3 j4 j5 j6 j7 j8 j9 j10 j11 j12 j13 j14:AV) (H:List Ob) (K:List AV→List Ob→Prop):aRegion Tryz.prog slices_AppendSeq_val_Value_val_Value_r1 false [j0,j1,j2,j3,j4,j5,j6,j7,j8,j9,j10,j11,j12,j13,j14] H K = (
 K [j0,j1,j2,j3,j4,j5,j1,j7,j8,j9,j10,j11,j12,j13,j14] H):=by kernel_rfl
theorem slices_AppendSeq_val_Value_val_Value_r2_eq (j0 j1 j2 j3 j4 j5 j6 j7 j8 j9 j10 j11 j12 j13 j14:AV) (H:List Ob) (K:List AV→List Ob→Prop):aRegion Tryz.prog slices_AppendSeq_val_Value_val_Value_r2 false [j0,j1,j2,j3,j4,j5,j6,j7,j8,j9,j10,j11,j12,j13,j14] H K = (
 aAlloc [(.p (.int .i64 0)),(.p (.int .i64 0)),(.p (.bool false)),(.p (.str [])),(.full [])] H fun v0 h1 =>
 aStore 5 v0 j7 h1 fun _ h3 =>
 K [j0,j1,j2,j3,j4,v0,j6,j7,j8,j9,j10,j11,j12,j13,j14] h3):=by kernel_rfl
theorem slices_AppendSeq_val_Value_val_Value_r2_plain:roundOps slices_AppendSeq_val_Value_val_Value_r2 = true:=by kernel_rfl
theorem slices_AppendSeq_val_Value_val_Value_r3_eq (j0 j1 j2 j3 j4 j5 j6 j7 j8 j9 j10 j11 j12 j13 j14:AV) (H:List Ob) (K:List AV→List Ob→Prop):aAnyR Tryz.prog slices_AppendSeq_val_Value_val_Value_r3 [j0,j1,j2,j3,j4,j5,j6,j7,j8,j9,j10,j11,j12,j13,j14] H K = (
 (aLoad false 1 j2 H fun v0 =>
 aLen true false v0 fun v1 =>
 (aLoad true 5 j5 H fun v2 =>
 aBuildSlice 5 [(.agg [(.p (.int .i64 0)),(.p (.int .i64 0)),(.p (.bool false)),(.p (.str [])),(.full [])])] fun v3 =>
 aAppend false 5 64 v0 v3 H fun v4 h5 =>
 aIndexAddr 5 v4 v1 fun v6 =>
 (aStore 5 v6 v2 h5 fun _ h8 =>
 aStore 1 j2 v4 h8 fun _ h10 =>
 K [j0,j1,j2,j3,j4,j5,j6,j7,v0,v2,v1,v3,v4,v6,j14] h10) ∧
 (aStore 1 j2 v4 h5 fun _ h12 =>
 aStore 5 v6 v2 h12 fun _ h14 =>
 K [j0,j1,j2,j3,j4,j5,j6,j7,v0,v2,v1,v3,v4,v6,j14] h14)) ∧
 (aBuildSlice 5 [(.agg [(.p (.int .i64 0)),(.p (.int .i64 0)),(.p (.bool false)),(.p (.str [])),(.full [])])] fun v15 =>
 aLoad true 5 j5 H fun v16 =>
 aAppend false 5 64 v0 v15 H fun v17 h18 =>
 aIndexAddr 5 v17 v1 fun v19 =>
 (aStore 5 v19 v16 h18 fun _ h21 =>
 aStore 1 j2 v17 h21 fun _ h23 =>
 K [j0,j1,j2,j3,j4,j5,j6,j7,v0,v16,v1,v15,v17,v19,j14] h23) ∧
 (aStore 1 j2 v17 h18 fun _ h25 =>
 aStore 5 v19 v16 h25 fun _ h27 =>
 K [j0,j1,j2,j3,j4,j5,j6,j7,v0,v16,v1,v15,v17,v19,j14] h27))) ∧
 (aLoad true 5 j5 H fun v28 =>
 (aLoad false 1 j2 H fun v29 =>
 aLen true false v29 fun v30 =>
 aBuildSlice 5 [(.agg [(.p (.int .i64 0)),(.p (.int .i64 0)),(.p (.bool false)),(.p (.str [])),(.full [])])] fun v31 =>
 aAppend false 5 64 v29 v31 H fun v32 h33 =>
 aIndexAddr 5 v32 v30 fun v34 =>
 (aStore 5 v34 v28 h33 fun _ h36 =>
 aStore 1 j2 v32 h36 fun _ h38 =>
 K [j0,j1,j2,j3,j4,j5,j6,j7,v29,v28,v30,v31,v32,v34,j14] h38) ∧
 (aStore 1 j2 v32 h33 fun _ h40 =>
 aStore 5 v34 v28 h40 fun _ h42 =>
 K [j0,j1,j2,j3,j4,j5,j6,j7,v29,v28,v30,v31,v32,v34,j14] h42)) ∧
 (aBuildSlice 5 [(.agg [(.p (.int .i64 0)),(.p (.int .i64 0)),(.p (.bool false)),(.p (.str [])),(.full [])])] fun v43 =>
 aLoad false 1 j2 H fun v44 =>
 aLen true false v44 fun v45 =>
 aAppend false 5 64 v44 v43 H fun v46 h47 =>
 aIndexAddr 5 v46 v45 fun v48 =>
 (aStore 5 v48 v28 h47 fun _ h50 =>
 aStore 1 j2 v46 h50 fun _ h52 =>
 K [j0,j1,j2,j3,j4,j5,j6,j7,v44,v28,v45,v43,v46,v48,j14] h52) ∧
 (aStore 1 j2 v46 h47 fun _ h54 =>
 aStore 5 v48 v28 h54 fun _ h56 =>
 K [j0,j1,j2,j3,j4,j5,j6,j7,v44,v28,v45,v43,v46,v48,j14] h56))) ∧
 (aBuildSlice 5 [(.agg [(.p (.int .i64 0)),(.p (.int .i64 0)),(.p (.bool false)),(.p (.str [])),(.full [])])] fun v57 =>
 (aLoad false 1 j2 H fun v58 =>
 aLen true false v58 fun v59 =>
 aLoad true 5 j5 H fun v60 =>
 aAppend false 5 64 v58 v57 H fun v61 h62 =>
 aIndexAddr 5 v61 v59 fun v63 =>
 (aStore 5 v63 v60 h62 fun _ h65 =>
 aStore 1 j2 v61 h65 fun _ h67 =>
 K [j0,j1,j2,j3,j4,j5,j6,j7,v58,v60,v59,v57,v61,v63,j14] h67) ∧
 (aStore 1 j2 v61 h62 fun _ h69 =>
 aStore 5 v63 v60 h69 fun _ h71 =>
 K [j0,j1,j2,j3,j4,j5,j6,j7,v58,v60,v59,v57,v61,v63,j14] h71)) ∧
 (aLoad true 5 j5 H fun v72 =>
 aLoad false 1 j2 H fun v73 =>
 aLen true false v73 fun v74 =>
 aAppend false 5 64 v73 v57 H fun v75 h76 =>
 aIndexAddr 5 v75 v74 fun v77 =>
 (aStore 5 v77 v72 h76 fun _ h79 =>
 aStore 1 j2 v75 h79 fun _ h81 =>
 K [j0,j1,j2,j3,j4,j5,j6,j7,v73,v72,v74,v57,v75,v77,j14] h81) ∧
 (aStore 1 j2 v75 h76 fun _ h83 =>
 aStore 5 v77 v72 h83 fun _ h85 =>
 K [j0,j1,j2,j3,j4,j5,j6,j7,v73,v72,v74,v57,v75,v77,j14] h85)))):=by kernel_rfl
theorem slices_AppendSeq_val_Value_val_Value_r3_plain:roundOps slices_AppendSeq_val_Value_val_Value_r3 = true:=by kernel_rfl
theorem slices_AppendSeq_val_Value_val_Value_r4_eq (j0 j1 j2 j3 j4 j5 j6 j7 j8 j9 j10 j11 j12 j13 j14:AV) (H:List Ob) (K:List AV→List Ob→Prop):aRegion Tryz.prog slices_AppendSeq_val_Value_val_Value_r4 false [j0,j1,j2,j3,j4,j5,j6,j7,j8,j9,j10,j11,j12,j13,j14] H K = (
 aLoad false 1 j2 H fun v0 =>
 K [j0,j1,j2,j3,v0,j5,j6,j7,j8,j9,j10,j11,j12,j13,v0] H):=by kernel_rfl
noncomputable def slices_AppendSeq_deno_Bad_deno_Bad_r0:Array Oper:=opsOf (cl (Tryz.f174.body.getD .skip))
noncomputable def slices_AppendSeq_deno_Bad_deno_Bad_r1:Array Oper:=opsOf (cl (cl (cr (Tryz.f174.body.getD .skip))))
noncomputable def slices_AppendSeq_deno_Bad_deno_Bad_r2:Array Oper:=opsOf (rfA (cl (cr (cl (cr (Tryz.f174.body.getD .skip))))))
noncomputable def slices_AppendSeq_deno_Bad_deno_Bad_r3:Array Oper:=opsOf (cl (rfB (cl (cr (cl (cr (Tryz.f174.body.getD .skip)))))))
noncomputable def slices_AppendSeq_deno_Bad_deno_Bad_r4:Array Oper:=opsOf (cl (cr (cr (Tryz.f174.body.getD .skip))))
theorem slices_AppendSeq_deno_Bad_deno_Bad_code:Tryz.f174.body = some (.seq (.region 0 slices_AppendSeq_deno_Bad_deno_Bad_r0 false) (.seq (.seq (.region 1 slices_AppendSeq_deno_Bad_deno_Bad_r1 false) (.block 0 (.rangeFunc (.tmp 6) #[7] (.region 2 slices_AppendSeq_deno_Bad_deno_Bad_r2 false) (.block 1 (.region 3 slices_AppendSeq_deno_Bad_deno_Bad_r3 false))))) (.seq (.region 4 slices_AppendSeq_deno_Bad_deno_Bad_r4 false) .ret))):=by kernel_rfl
theorem slices_AppendSeq_deno_Bad_deno_Bad_r0_eq (j0 j1 j2 j3 j4 j5 j6 j7 j8 j9 j10 j11 j12:AV) (H:List Ob) (K:List AV→List Ob→Prop):aRegion Tryz.prog slices_AppendSeq_deno_Bad_deno_Bad_r0 false [j0,j1,j2,j3,j4,j5,j6,j7,j8,j9,j10,j11,j12] H K = (
 aBox j0 H fun v0 h1 =>
 K [j0,j1,v0,j3,(.full []),j5,j6,j7,j8,j9,j10,j11,j12] h1):=by kernel_rfl
theorem slices_AppendSeq_deno_Bad_deno_Bad_r1_eq (j0 j1 j2 j3 j4 j5 j6 j7 j8 j9 j10 j11 j12:AV) (H:List Ob) (K:List AV→List Ob→Prop):aRegion Tryz.prog slices_AppendSeq_deno_Bad_deno_Bad_r1 false [j0,j1,j2,j3,j4,j5,j6,j7,j8,j9,j10,j11,j12] H K = (
 K [j0,j1,j2,j3,j4,j5,j1,j7,j8,j9,j10,j11,j12] H):=by kernel_rfl
theorem slices_AppendSeq_deno_Bad_deno_Bad_r2_eq (j0 j1 j2 j3 j4 j5 j6 j7 j8 j9 j10 j11 j12:AV) (H:List Ob) (K:List AV→List Ob→Prop):aRegion Tryz.prog slices_AppendSeq_deno_Bad_deno_Bad_r2 false [j0,j1,j2,j3,j4,j5,j6,j7,j8,j9,j10,j11,j12] H K = (
 aAlloc [(.p (.int .i64 0)),(.p (.int .i64 0)),(.p (.int .i64 0)),(.p (.bool false)),(.p (.str [])),(.full [])] H fun v0 h1 =>
 aStore 6 v0 j7 h1 fun _ h3 =>
 K [j0,j1,j2,j3,j4,v0,j6,j7,j8,j9,j10,j11,j12] h3):=by kernel_rfl
theorem slices_AppendSeq_deno_Bad_deno_Bad_r2_plain:roundOps slices_AppendSeq_deno_Bad_deno_Bad_r2 = true:=by kernel_rfl
theorem slices_AppendSeq_deno_Bad_deno_Bad_r3_eq (j0 j1 j2 j3 j4 j5 j6 j7 j8 j9 j10 j11 j12:AV) (H:List Ob) (K:List AV→List Ob→Prop):aRegion Tryz.prog slices_AppendSeq_deno_Bad_deno_Bad_r3 false [j0,j1,j2,j3,j4,j5,j6,j7,j8,j9,j10,j11,j12] H K = (
 aLoad false 1 j2 H fun v0 =>
 aLoad true 6 j5 H fun v1 =>
 aBuildSlice 6 [v1] fun v2 =>
 aAppend false 6 72 v0 v2 H fun v3 h4 =>
 aStore 1 j2 v3 h4 fun _ h6 =>
 K [j0,j1,j2,j3,j4,j5,j6,j7,v0,v1,v2,v3,j12] h6):=by kernel_rfl
theorem slices_AppendSeq_deno_Bad_deno_Bad_r3_plain:roundOps slices_AppendSeq_deno_Bad_deno_Bad_r3 = true:=by kernel_rfl
theorem slices_AppendSeq_deno_Bad_deno_Bad_r4_eq (j0 j1 j2 j3 j4 j5 j6 j7 j8 j9 j10 j11 j12:AV) (H:List Ob) (K:List AV→List Ob→Prop):aRegion Tryz.prog slices_AppendSeq_deno_Bad_deno_Bad_r4 false [j0,j1,j2,j3,j4,j5,j6,j7,j8,j9,j10,j11,j12] H K = (
 aLoad false 1 j2 H fun v0 =>
 K [j0,j1,j2,j3,v0,j5,j6,j7,j8,j9,j10,j11,v0] H):=by kernel_rfl
end Go.Proofs.YtdmgbhamigegfaaGreatDoor
end

section
/- Made by program (Gen.lean): functions of the dump, over trees. -/
set_option maxRecDepth 4000
set_option linter.unusedVariables false
namespace Go.Proofs.YtdmgbhamigegfaaGreatDoor
open Go Go.Abs
def slices_Repeat_int_int_L1 (q1s7 y0:AV) (H:List Ob) (B1:List AV→List Ob→Prop) (K:AV→List Ob→Prop):Prop :=
 aLen false false q1s7 fun v12 =>
 aBin false false .lss y0 v12 fun v13 =>
 aGuard v13
 ((aSlice false 1 q1s7 (some y0) none none fun v14 =>
 aSlice false 1 q1s7 none (some y0) none fun v15 =>
 aCopy 1 v14 v15 H fun v16 h17 =>
 aBin false false .add y0 v16 fun v18 =>
 B1 [v18] h17) ∧
 (aSlice false 1 q1s7 none (some y0) none fun v19 =>
 aSlice false 1 q1s7 (some y0) none none fun v20 =>
 aCopy 1 v20 v19 H fun v21 h22 =>
 aBin false false .add y0 v21 fun v23 =>
 B1 [v23] h22))
 (K q1s7 H)
def slices_Repeat_int_int_J2 (j2s0 j2s6:AV) (H:List Ob) (K:AV→List Ob→Prop):Prop :=
 aConvInt .i64 j2s6 fun v7 =>
 aMake 1 [(.p (.int .i64 0))] v7 v7 H fun v8 h9 =>
 aCopy 1 v8 j2s0 h9 fun v10 h11 =>
 aLoopN 1 [v10] h11 fun xs H B1=>slices_Repeat_int_int_L1 v8 (xs.getD 0 .top) H B1 K
def slices_Repeat_int_int_J1 (j1s0 j1s1:AV) (H:List Ob) (K:AV→List Ob→Prop):Prop :=
 aLen false false j1s0 fun v0 =>
 aConvInt .u64 v0 fun v1 =>
 aConvInt .u64 j1s1 fun v2 =>
 aCall Tryz.prog (.p (.func math_bits_Mul_i [])) [v1,v2] H fun v3 h4 =>
 aExtract v3 0 fun v5 =>
 aExtract v3 1 fun v6 =>
 aBin false false .gtr v5 (.p (.int .u64 0)) fun v24 =>
 aMerge false v24 (fun Q25 =>
 aBin false false .gtr v6 (.p (.int .u64 9223372036854775807)) fun v26 =>
 (h4 = h4 ∧ Q25 v26)) fun v27 =>
 aGuard v27
 (False)
 (slices_Repeat_int_int_J2 j1s0 v6 h4 K)
def slices_Repeat_int_int (x0 x1:AV) (H:List Ob) (K:AV→List Ob→Prop):Prop :=
 aBin false false .lss x1 (.p (.int .i64 0)) fun v28 =>
 aGuard v28
 (False)
 (slices_Repeat_int_int_J1 x0 x1 H K)
def slices_Repeat_int_int_ann:Nat→List Nat:=fun k=>match k with | 8=>[8] | 3000009=>[1000] | _=>[]
theorem slices_Repeat_int_int_eq (x0 x1:AV) (H:List Ob) (r:AV) (Ho:List Ob):aBody Tryz.prog slices_Repeat_int_int_ann Tryz.f38 H [x0,x1] r Ho = slices_Repeat_int_int x0 x1 H (fun v H'=>Gives H.length v H' r Ho):=by kernel_rfl
theorem slices_Repeat_int_int_fn {x0 x1:AV} {r:AV} {Ho:List Ob} (h:slices_Repeat_int_int x0 x1 [] (fun v H'=>Gives 0 v H' r Ho)):Abs.Fn Tryz.prog slices_Repeat_int_int_i [] [x0,x1] r Ho :=
 fn_intro mixed slices_Repeat_int_int_ann (fn:=Tryz.f38) (by kernel_rfl) (by kernel_rfl) (by rw [slices_Repeat_int_int_eq]; exact h)
def math_bits_Mul (x0 x1:AV) (H:List Ob) (K:AV→List Ob→Prop):Prop :=
 aCall Tryz.prog (.p (.func math_bits_Mul64_i [])) [x0,x1] H fun v0 h1 =>
 aExtract v0 0 fun v2 =>
 aExtract v0 1 fun v3 =>
 K (.tup [v2,v3]) h1
def math_bits_Mul_ann:Nat→List Nat:=fun _=>[]
theorem math_bits_Mul_eq (x0 x1:AV) (H:List Ob) (r:AV) (Ho:List Ob):aBody Tryz.prog math_bits_Mul_ann Tryz.f74 H [x0,x1] r Ho = math_bits_Mul x0 x1 H (fun v H'=>Gives H.length v H' r Ho):=by kernel_rfl
theorem math_bits_Mul_fn {x0 x1:AV} {r:AV} {Ho:List Ob} (h:math_bits_Mul x0 x1 [] (fun v H'=>Gives 0 v H' r Ho)):Abs.Fn Tryz.prog math_bits_Mul_i [] [x0,x1] r Ho :=
 fn_intro mixed math_bits_Mul_ann (fn:=Tryz.f74) (by kernel_rfl) (by kernel_rfl) (by rw [math_bits_Mul_eq]; exact h)
def math_bits_Mul64 (x0 x1:AV) (H:List Ob) (K:AV→List Ob→Prop):Prop :=
 aBin false false .and x0 (.p (.int .u64 4294967295)) fun v0 =>
 aBin false false .shr x0 (.p (.int .u64 32)) fun v1 =>
 aBin false false .and x1 (.p (.int .u64 4294967295)) fun v2 =>
 aBin false false .shr x1 (.p (.int .u64 32)) fun v3 =>
 aBin false false .mul v0 v2 fun v4 =>
 aBin false false .mul v1 v2 fun v5 =>
 aBin false false .shr v4 (.p (.int .u64 32)) fun v6 =>
 aBin false false .add v5 v6 fun v7 =>
 aBin false false .and v7 (.p (.int .u64 4294967295)) fun v8 =>
 aBin false false .shr v7 (.p (.int .u64 32)) fun v9 =>
 aBin false false .mul v0 v3 fun v10 =>
 aBin false false .add v8 v10 fun v11 =>
 aBin false false .mul v1 v3 fun v12 =>
 aBin false false .add v12 v9 fun v13 =>
 aBin false false .shr v11 (.p (.int .u64 32)) fun v14 =>
 aBin false false .add v13 v14 fun v15 =>
 aBin false false .mul x0 x1 fun v16 =>
 K (.tup [v15,v16]) H
def math_bits_Mul64_ann:Nat→List Nat:=fun _=>[]
theorem math_bits_Mul64_eq (x0 x1:AV) (H:List Ob) (r:AV) (Ho:List Ob):aBody Tryz.prog math_bits_Mul64_ann Tryz.f118 H [x0,x1] r Ho = math_bits_Mul64 x0 x1 H (fun v H'=>Gives H.length v H' r Ho):=by kernel_rfl
theorem math_bits_Mul64_fn {x0 x1:AV} {r:AV} {Ho:List Ob} (h:math_bits_Mul64 x0 x1 [] (fun v H'=>Gives 0 v H' r Ho)):Abs.Fn Tryz.prog math_bits_Mul64_i [] [x0,x1] r Ho :=
 fn_intro mixed math_bits_Mul64_ann (fn:=Tryz.f118) (by kernel_rfl) (by kernel_rfl) (by rw [math_bits_Mul64_eq]; exact h)
end Go.Proofs.YtdmgbhamigegfaaGreatDoor
end

section
/- Made by program (Gen.lean): functions of the dump, over trees. -/
set_option maxRecDepth 4000
set_option linter.unusedVariables false
namespace Go.Proofs.YtdmgbhamigegfaaGreatDoor
open Go Go.Abs
def runnellaw10_DenoTwo_L2 (q2s0 q2s1 q2s2 q2s3 y0:AV) (H:List Ob) (B2:List AV→List Ob→Prop) (K:AV→List Ob→Prop):Prop :=
 aLen false false q2s1 fun v17 =>
 aBin false false .lss y0 v17 fun v18 =>
 aGuard v18
 (aIndexAddr 5 q2s1 y0 fun v19 =>
 aLoad true 5 v19 H fun v20 =>
 aCall Tryz.prog (.p (.func runnellaw2_Good_i [])) [v20] H fun v21 h22 =>
 aUn .not v21 fun v23 =>
 aGuard v23
 (K (.p (.bool true)) h22)
 (aBin false false .add y0 (.p (.int .i64 1)) fun v24 =>
 B2 [v24] h22))
 (aCall Tryz.prog (.p (.func runnellaw2_OfAll_i [])) [q2s0] H fun v25 h26 =>
 aCall Tryz.prog (.p (.func runnelref10_Sorted_i [])) [v25] h26 fun v27 h28 =>
 aBuildSlice 1 [v27] fun v29 =>
 aCall Tryz.prog (.p (.func runnelref6_V_i [])) [(.p (.int .i64 1))] h28 fun v30 h31 =>
 aBuild [(.p (.int .i64 0)),(.p (.int .i64 0)),(.p (.int .i64 0)),(.p (.bool false)),(.p (.str [])),(.full [])] [(0,1,q2s2),(1,5,v30)] fun v32 =>
 aBuildSlice 6 [v32] fun v33 =>
 aBuild [(.full []),(.full [])] [(0,1,v29),(1,1,v33)] fun v34 =>
 aAlloc [(.full []),(.full [])] h31 fun v35 h36 =>
 aStore 2 v35 v34 h36 fun _ h38 =>
 aCall Tryz.prog (.p (.func runnellaw2_OfAll_i [])) [q2s1] h38 fun v39 h40 =>
 aCall Tryz.prog (.p (.func runnelref10_Sorted_i [])) [v39] h40 fun v41 h42 =>
 aBuildSlice 1 [v41] fun v43 =>
 aCall Tryz.prog (.p (.func runnelref6_V_i [])) [(.p (.int .i64 1))] h42 fun v44 h45 =>
 aBuild [(.p (.int .i64 0)),(.p (.int .i64 0)),(.p (.int .i64 0)),(.p (.bool false)),(.p (.str [])),(.full [])] [(0,1,q2s3),(1,5,v44)] fun v46 =>
 aBuildSlice 6 [v46] fun v47 =>
 aBuild [(.full []),(.full [])] [(0,1,v43),(1,1,v47)] fun v48 =>
 aAlloc [(.full []),(.full [])] h45 fun v49 h50 =>
 aStore 2 v49 v48 h50 fun _ h52 =>
 aLoad true 2 v35 h52 fun v53 =>
 aCallT Tryz.prog (.p (.func runnellaw10_ToOutput_i [])) [v53] fun v54 =>
 aLoad true 2 v49 h52 fun v55 =>
 aCallT Tryz.prog (.p (.func runnellaw10_ToOutput_i [])) [v55] fun v56 =>
 aCallT Tryz.prog (.p (.func deno_Same_i [])) [v54,v56] fun v57 =>
 aLoad true 2 v35 h52 fun v58 =>
 aLoad true 2 v49 h52 fun v59 =>
 aCallT Tryz.prog (.p (.func runnelref10_SameOutput_i [])) [v58,v59] fun v60 =>
 aBin true false .eql v57 v60 fun v61 =>
 aGuard v61
 (aLoad true 2 v35 h52 fun v62 =>
 aCallT Tryz.prog (.p (.func runnellaw10_ToOutput_i [])) [v62] fun v63 =>
 aLoad true 2 v49 h52 fun v64 =>
 aCallT Tryz.prog (.p (.func runnellaw10_ToOutput_i [])) [v64] fun v65 =>
 aCallT Tryz.prog (.p (.func deno_Within_i [])) [v63,v65] fun v66 =>
 aLoad true 2 v35 h52 fun v67 =>
 aLoad true 2 v49 h52 fun v68 =>
 aCallT Tryz.prog (.p (.func runnelref10_Within_i [])) [v67,v68] fun v69 =>
 aBin true false .eql v66 v69 fun v70 =>
 K v70 h52)
 (K (.p (.bool false)) h52))
def runnellaw10_DenoTwo_L1 (q1s0 q1s1 q1s2 q1s3 y0:AV) (H:List Ob) (B1:List AV→List Ob→Prop) (K:AV→List Ob→Prop):Prop :=
 aLen false false q1s0 fun v9 =>
 aBin false false .lss y0 v9 fun v10 =>
 aGuard v10
 (aIndexAddr 5 q1s0 y0 fun v11 =>
 aLoad true 5 v11 H fun v12 =>
 aCall Tryz.prog (.p (.func runnellaw2_Good_i [])) [v12] H fun v13 h14 =>
 aUn .not v13 fun v15 =>
 aGuard v15
 (K (.p (.bool true)) h14)
 (aBin false false .add y0 (.p (.int .i64 1)) fun v16 =>
 B1 [v16] h14))
 (aLoopN 1 [(.p (.int .i64 0))] H fun xs H B2=>runnellaw10_DenoTwo_L2 q1s0 q1s1 q1s2 q1s3 (xs.getD 0 .top) H B2 K)
def runnellaw10_DenoTwo (x0 x1 x2 x3:AV) (H:List Ob) (K:AV→List Ob→Prop):Prop :=
 aCall Tryz.prog (.p (.func runnellaw10_known_i [])) [] H fun v0 h1 =>
 aUn .not v0 fun v2 =>
 aGuard v2
 (K (.p (.bool false)) h1)
 (aLen false false x0 fun v3 =>
 aBin false false .gtr v3 (.p (.int .i64 20)) fun v4 =>
 aMerge false v4 (fun Q5 =>
 aLenS false x1 fun v6 =>
 aBin false false .gtr v6 (.p (.int .i64 20)) fun v7 =>
 (h1 = h1 ∧ Q5 v7)) fun v8 =>
 aGuard v8
 (K (.p (.bool true)) h1)
 (aLoopN 1 [(.p (.int .i64 0))] h1 fun xs H B1=>runnellaw10_DenoTwo_L1 x0 x1 x2 x3 (xs.getD 0 .top) H B1 K))
def runnellaw10_DenoTwo_ann:Nat→List Nat:=fun k=>match k with | 6=>[9] | 11=>[10] | _=>[]
theorem runnellaw10_DenoTwo_eq (x0 x1 x2 x3:AV) (H:List Ob) (r:AV) (Ho:List Ob):aBody Tryz.prog runnellaw10_DenoTwo_ann Tryz.f6 H [x0,x1,x2,x3] r Ho = runnellaw10_DenoTwo x0 x1 x2 x3 H (fun v H'=>Gives H.length v H' r Ho):=by kernel_rfl
theorem runnellaw10_DenoTwo_fn {x0 x1 x2 x3:AV} {r:AV} {Ho:List Ob} (h:runnellaw10_DenoTwo x0 x1 x2 x3 [] (fun v H'=>Gives 0 v H' r Ho)):Abs.Fn Tryz.prog runnellaw10_DenoTwo_i [] [x0,x1,x2,x3] r Ho :=
 fn_intro mixed runnellaw10_DenoTwo_ann (fn:=Tryz.f6) (by kernel_rfl) (by kernel_rfl) (by rw [runnellaw10_DenoTwo_eq]; exact h)
def runnellaw10_known (H:List Ob) (K:AV→List Ob→Prop):Prop :=
 aCall Tryz.prog (.p (.func runnellaw8_Small_i [])) [] H fun v0 h1 =>
 aCall Tryz.prog (.p (.func val_Int_i [])) [(.p (.int .i64 5))] h1 fun v2 h3 =>
 aCall Tryz.prog (.p (.func val_Int_i [])) [(.p (.int .i64 3))] h3 fun v4 h5 =>
 aBuildSlice 5 [v2,v4] fun v6 =>
 aBuild [(.p (.str [])),(.full [])] [(0,1,(.p (.str [115]))),(1,1,v6)] fun v7 =>
 aBuildSlice 2 [v7] fun v8 =>
 aCall Tryz.prog (.p (.func deno_Whole_i [])) [v0,v8] h5 fun v9 h10 =>
 aAlloc [(.full []),(.full [])] h10 fun v11 h12 =>
 aStore 2 v11 v9 h12 fun _ h14 =>
 aBuildSlice 1 [(.p (.int .i64 1)),(.p (.int .i64 0)),(.p (.int .i64 0)),(.p (.int .i64 0))] fun v15 =>
 aBuildSlice 1 [v15] fun v16 =>
 aCall Tryz.prog (.p (.func deno_Front_i [])) [v0,v8,v16,(.p (.bool false))] h14 fun v17 h18 =>
 aAlloc [(.full []),(.full [])] h18 fun v19 h20 =>
 aStore 2 v19 v17 h20 fun _ h22 =>
 aCall Tryz.prog (.p (.func deno_Check_i [])) [v0,v8] h22 fun v23 h24 =>
 aBin false false .eql v23 (.p (.int .i64 0)) fun v25 =>
 aMerge true v25 (fun Q26 =>
 aCall Tryz.prog (.p (.func deno_Check_i [])) [v0,(.full [])] h24 fun v27 h28 =>
 aBin false false .eql v27 (.p (.int .i64 6)) fun v29 =>
 (h28 = h24 ∧ Q26 v29)) fun v30 =>
 aMerge true v30 (fun Q31 =>
 aFieldAddr 0 v11 fun v32 =>
 aLoad false 1 v32 h24 fun v33 =>
 aLenS false v33 fun v34 =>
 aBin false false .eql v34 (.p (.int .i64 1)) fun v35 =>
 (h24 = h24 ∧ Q31 v35)) fun v36 =>
 aMerge true v36 (fun Q37 =>
 aFieldAddr 0 v11 fun v38 =>
 aLoad false 1 v38 h24 fun v39 =>
 aIndexAddr 1 v39 (.p (.int .i64 0)) fun v40 =>
 aLoad false 1 v40 h24 fun v41 =>
 aLenS false v41 fun v42 =>
 aBin false false .eql v42 (.p (.int .i64 2)) fun v43 =>
 (h24 = h24 ∧ Q37 v43)) fun v44 =>
 aMerge true v44 (fun Q45 =>
 aFieldAddr 0 v11 fun v46 =>
 aLoad false 1 v46 h24 fun v47 =>
 aIndexAddr 1 v47 (.p (.int .i64 0)) fun v48 =>
 aLoad false 1 v48 h24 fun v49 =>
 aIndexAddr 5 v49 (.p (.int .i64 0)) fun v50 =>
 aFieldAddr 1 v50 fun v51 =>
 aLoad false 1 v51 h24 fun v52 =>
 aBin false false .eql v52 (.p (.int .i64 4)) fun v53 =>
 (h24 = h24 ∧ Q45 v53)) fun v54 =>
 aMerge true v54 (fun Q55 =>
 aFieldAddr 1 v11 fun v56 =>
 aLoad false 1 v56 h24 fun v57 =>
 aLenS false v57 fun v58 =>
 aBin false false .eql v58 (.p (.int .i64 0)) fun v59 =>
 (h24 = h24 ∧ Q55 v59)) fun v60 =>
 aMerge true v60 (fun Q61 =>
 aFieldAddr 0 v19 fun v62 =>
 aLoad false 1 v62 h24 fun v63 =>
 aLenS false v63 fun v64 =>
 aBin false false .eql v64 (.p (.int .i64 1)) fun v65 =>
 (h24 = h24 ∧ Q61 v65)) fun v66 =>
 aMerge true v66 (fun Q67 =>
 aFieldAddr 0 v19 fun v68 =>
 aLoad false 1 v68 h24 fun v69 =>
 aIndexAddr 1 v69 (.p (.int .i64 0)) fun v70 =>
 aLoad false 1 v70 h24 fun v71 =>
 aLenS false v71 fun v72 =>
 aBin false false .eql v72 (.p (.int .i64 1)) fun v73 =>
 (h24 = h24 ∧ Q67 v73)) fun v74 =>
 aMerge true v74 (fun Q75 =>
 aFieldAddr 0 v19 fun v76 =>
 aLoad false 1 v76 h24 fun v77 =>
 aIndexAddr 1 v77 (.p (.int .i64 0)) fun v78 =>
 aLoad false 1 v78 h24 fun v79 =>
 aIndexAddr 5 v79 (.p (.int .i64 0)) fun v80 =>
 aFieldAddr 1 v80 fun v81 =>
 aLoad false 1 v81 h24 fun v82 =>
 aBin false false .eql v82 (.p (.int .i64 6)) fun v83 =>
 (h24 = h24 ∧ Q75 v83)) fun v84 =>
 aMerge true v84 (fun Q85 =>
 aLoad true 2 v19 h24 fun v86 =>
 aLoad true 2 v11 h24 fun v87 =>
 aCall Tryz.prog (.p (.func deno_Within_i [])) [v86,v87] h24 fun v88 h89 =>
 (h89 = h24 ∧ Q85 v88)) fun v90 =>
 aMerge true v90 (fun Q91 =>
 aLoad true 2 v11 h24 fun v92 =>
 aLoad true 2 v19 h24 fun v93 =>
 aCall Tryz.prog (.p (.func deno_Within_i [])) [v92,v93] h24 fun v94 h95 =>
 aUn .not v94 fun v96 =>
 (h95 = h24 ∧ Q91 v96)) fun v97 =>
 aMerge true v97 (fun Q98 =>
 aLoad true 2 v11 h24 fun v99 =>
 aLoad true 2 v11 h24 fun v100 =>
 aCall Tryz.prog (.p (.func deno_Same_i [])) [v99,v100] h24 fun v101 h102 =>
 (h102 = h24 ∧ Q98 v101)) fun v103 =>
 aMerge true v103 (fun Q104 =>
 aLoad true 2 v11 h24 fun v105 =>
 aLoad true 2 v19 h24 fun v106 =>
 aCall Tryz.prog (.p (.func deno_Same_i [])) [v105,v106] h24 fun v107 h108 =>
 aUn .not v107 fun v109 =>
 (h108 = h24 ∧ Q104 v109)) fun v110 =>
 aMerge true v110 (fun Q111 =>
 aCall Tryz.prog (.p (.func deno_Split_i [])) [v0,(.p (.int .i64 0)),(.p (.int .i64 5))] h24 fun v112 h113 =>
 aBin false false .eql v112 (.p (.int .i64 1)) fun v114 =>
 (h113 = h24 ∧ Q111 v114)) fun v115 =>
 K v115 h24
def runnellaw10_known_ann:Nat→List Nat:=fun _=>[]
theorem runnellaw10_known_eq (H:List Ob) (r:AV) (Ho:List Ob):aBody Tryz.prog runnellaw10_known_ann Tryz.f9 H [] r Ho = runnellaw10_known H (fun v H'=>Gives H.length v H' r Ho):=by kernel_rfl
theorem runnellaw10_known_fn {r:AV} {Ho:List Ob} (h:runnellaw10_known [] (fun v H'=>Gives 0 v H' r Ho)):Abs.Fn Tryz.prog runnellaw10_known_i [] [] r Ho :=
 fn_intro mixed runnellaw10_known_ann (fn:=Tryz.f9) (by kernel_rfl) (by kernel_rfl) (by rw [runnellaw10_known_eq]; exact h)
end Go.Proofs.YtdmgbhamigegfaaGreatDoor
end

section
/- Made by program (Gen.lean): functions of the dump, over trees. -/
set_option maxRecDepth 4000
set_option linter.unusedVariables false
namespace Go.Proofs.YtdmgbhamigegfaaGreatDoor
open Go Go.Abs
def runnelref10_SameOutput_L2 (q2s2 q2s3 y0:AV) (H:List Ob) (B2:List AV→List Ob→Prop) (K:AV→List Ob→Prop):Prop :=
 aFieldAddr 1 q2s2 fun v35 =>
 aLoad false 1 v35 H fun v36 =>
 aLen false false v36 fun v37 =>
 aBin false false .lss y0 v37 fun v38 =>
 aGuard v38
 (aFieldAddr 1 q2s2 fun v39 =>
 aLoad false 1 v39 H fun v40 =>
 aIndexAddr 6 v40 y0 fun v41 =>
 aFieldAddr 0 v41 fun v42 =>
 aLoad false 1 v42 H fun v43 =>
 aFieldAddr 1 q2s3 fun v44 =>
 aLoad false 1 v44 H fun v45 =>
 aIndexAddr 6 v45 y0 fun v46 =>
 aFieldAddr 0 v46 fun v47 =>
 aLoad false 1 v47 H fun v48 =>
 aBin false false .neq v43 v48 fun v49 =>
 aGuard v49
 (K (.p (.bool false)) H)
 (aFieldAddr 1 q2s2 fun v50 =>
 aLoad false 1 v50 H fun v51 =>
 aIndexAddr 6 v51 y0 fun v52 =>
 aFieldAddr 1 v52 fun v53 =>
 aLoad true 5 v53 H fun v54 =>
 aFieldAddr 1 q2s3 fun v55 =>
 aLoad false 1 v55 H fun v56 =>
 aIndexAddr 6 v56 y0 fun v57 =>
 aFieldAddr 1 v57 fun v58 =>
 aLoad true 5 v58 H fun v59 =>
 aCallT Tryz.prog (.p (.func runnelref6_Same_i [])) [v54,v59] fun v60 =>
 aUn .not v60 fun v61 =>
 aGuard v61
 (K (.p (.bool false)) H)
 (aBin false false .add y0 (.p (.int .i64 1)) fun v62 =>
 B2 [v62] H)))
 (K (.p (.bool true)) H)
def runnelref10_SameOutput_L1 (q1s2 q1s3 y0:AV) (H:List Ob) (B1:List AV→List Ob→Prop) (K:AV→List Ob→Prop):Prop :=
 aFieldAddr 0 q1s2 fun v20 =>
 aLoad false 1 v20 H fun v21 =>
 aLen false false v21 fun v22 =>
 aBin false false .lss y0 v22 fun v23 =>
 aGuard v23
 (aFieldAddr 0 q1s2 fun v24 =>
 aLoad false 1 v24 H fun v25 =>
 aIndexAddr 1 v25 y0 fun v26 =>
 aLoad false 1 v26 H fun v27 =>
 aFieldAddr 0 q1s3 fun v28 =>
 aLoad false 1 v28 H fun v29 =>
 aIndexAddr 1 v29 y0 fun v30 =>
 aLoad false 1 v30 H fun v31 =>
 aCallT Tryz.prog (.p (.func runnelref10_sameRows_i [])) [v27,v31] fun v32 =>
 aUn .not v32 fun v33 =>
 aGuard v33
 (K (.p (.bool false)) H)
 (aBin false false .add y0 (.p (.int .i64 1)) fun v34 =>
 B1 [v34] H))
 (aLoopN 1 [(.p (.int .i64 0))] H fun xs H B2=>runnelref10_SameOutput_L2 q1s2 q1s3 (xs.getD 0 .top) H B2 K)
def runnelref10_SameOutput (x0 x1:AV) (H:List Ob) (K:AV→List Ob→Prop):Prop :=
 aBox x0 H fun v0 h1 =>
 aBox x1 h1 fun v2 h3 =>
 aFieldAddr 0 v0 fun v4 =>
 aLoad false 1 v4 h3 fun v5 =>
 aLen false false v5 fun v6 =>
 aFieldAddr 0 v2 fun v7 =>
 aLoad false 1 v7 h3 fun v8 =>
 aLen false false v8 fun v9 =>
 aBin false false .neq v6 v9 fun v10 =>
 aMerge false v10 (fun Q11 =>
 aFieldAddr 1 v0 fun v12 =>
 aLoad false 1 v12 h3 fun v13 =>
 aLenS false v13 fun v14 =>
 aFieldAddr 1 v2 fun v15 =>
 aLoad false 1 v15 h3 fun v16 =>
 aLenS false v16 fun v17 =>
 aBin false false .neq v14 v17 fun v18 =>
 (h3 = h3 ∧ Q11 v18)) fun v19 =>
 aGuard v19
 (K (.p (.bool false)) h3)
 (aLoopN 1 [(.p (.int .i64 0))] h3 fun xs H B1=>runnelref10_SameOutput_L1 v0 v2 (xs.getD 0 .top) H B1 K)
def runnelref10_SameOutput_ann:Nat→List Nat:=fun k=>match k with | 4=>[5] | 9=>[6] | _=>[]
theorem runnelref10_SameOutput_eq (x0 x1:AV) (H:List Ob) (r:AV) (Ho:List Ob):aBody Tryz.prog runnelref10_SameOutput_ann Tryz.f18 H [x0,x1] r Ho = runnelref10_SameOutput x0 x1 H (fun v H'=>Gives H.length v H' r Ho):=by kernel_rfl
theorem runnelref10_SameOutput_fn {x0 x1:AV} {r:AV} {Ho:List Ob} (h:runnelref10_SameOutput x0 x1 [] (fun v H'=>Gives 0 v H' r Ho)):Abs.Fn Tryz.prog runnelref10_SameOutput_i [] [x0,x1] r Ho :=
 fn_intro mixed runnelref10_SameOutput_ann (fn:=Tryz.f18) (by kernel_rfl) (by kernel_rfl) (by rw [runnelref10_SameOutput_eq]; exact h)
def runnelref10_Sorted_L2 (q2s0 q2s3 q2s4 y0:AV) (H:List Ob) (B2:List AV→List Ob→Prop) (B1:List AV→List Ob→Prop) (K:AV→List Ob→Prop):Prop :=
 aBin false false .gtr y0 (.p (.int .i64 0)) fun v3 =>
 aGuard v3
 (aBin false false .sub y0 (.p (.int .i64 1)) fun v4 =>
 aIndexAddr 5 q2s3 v4 fun v5 =>
 aLoad true 5 v5 H fun v6 =>
 aIndexAddr 5 q2s0 q2s4 fun v7 =>
 aLoad true 5 v7 H fun v8 =>
 aCallT Tryz.prog (.p (.func runnelref6_Compare_i [])) [v6,v8] fun v9 =>
 aBin false false .gtr v9 (.p (.int .i64 0)) fun v10 =>
 aGuard v10
 (aBin false false .sub y0 (.p (.int .i64 1)) fun v11 =>
 B2 [v11] H)
 (aBuildSlice 5 [] fun v12 =>
 aSlice false 5 q2s3 none (some y0) none fun v13 =>
 aCalm [v12,v13] <|
 aAppend false 5 64 v12 v13 H fun v14 h15 =>
 aIndexAddr 5 q2s0 q2s4 fun v16 =>
 aLoad true 5 v16 h15 fun v17 =>
 aBuildSlice 5 [v17] fun v18 =>
 aCalm [v14,v18] <|
 aAppend false 5 64 v14 v18 h15 fun v19 h20 =>
 aSlice false 5 q2s3 (some y0) none none fun v21 =>
 aAppend false 5 64 v19 v21 h20 fun v22 h23 =>
 aBin false false .add q2s4 (.p (.int .i64 1)) fun v24 =>
 B1 [v22,v24] h23))
 (aBuildSlice 5 [] fun v25 =>
 aSlice false 5 q2s3 none (some y0) none fun v26 =>
 aCalm [v25,v26] <|
 aAppend false 5 64 v25 v26 H fun v27 h28 =>
 aIndexAddr 5 q2s0 q2s4 fun v29 =>
 aLoad true 5 v29 h28 fun v30 =>
 aBuildSlice 5 [v30] fun v31 =>
 aCalm [v27,v31] <|
 aAppend false 5 64 v27 v31 h28 fun v32 h33 =>
 aSlice false 5 q2s3 (some y0) none none fun v34 =>
 aAppend false 5 64 v32 v34 h33 fun v35 h36 =>
 aBin false false .add q2s4 (.p (.int .i64 1)) fun v37 =>
 B1 [v35,v37] h36)
def runnelref10_Sorted_L1 (q1s0 y0 y1:AV) (H:List Ob) (B1:List AV→List Ob→Prop) (K:AV→List Ob→Prop):Prop :=
 aLen false false q1s0 fun v0 =>
 aBin false false .lss y1 v0 fun v1 =>
 aGuard v1
 (aLen false false y0 fun v2 =>
 aLoopN 1 [v2] H fun xs H B2=>runnelref10_Sorted_L2 q1s0 y0 y1 (xs.getD 0 .top) H B2 B1 K)
 (K y0 H)
def runnelref10_Sorted (x0:AV) (H:List Ob) (K:AV→List Ob→Prop):Prop :=
 aLoopN 2 [(.full []),(.p (.int .i64 0))] H fun xs H B1=>runnelref10_Sorted_L1 x0 (xs.getD 0 .top) (xs.getD 1 .top) H B1 K
def runnelref10_Sorted_ann:Nat→List Nat:=fun k=>match k with | 3=>[3,4] | 6=>[5] | _=>[]
theorem runnelref10_Sorted_eq (x0:AV) (H:List Ob) (r:AV) (Ho:List Ob):aBody Tryz.prog runnelref10_Sorted_ann Tryz.f20 H [x0] r Ho = runnelref10_Sorted x0 H (fun v H'=>Gives H.length v H' r Ho):=by kernel_rfl
theorem runnelref10_Sorted_fn {x0:AV} {r:AV} {Ho:List Ob} (h:runnelref10_Sorted x0 [] (fun v H'=>Gives 0 v H' r Ho)):Abs.Fn Tryz.prog runnelref10_Sorted_i [] [x0] r Ho :=
 fn_intro mixed runnelref10_Sorted_ann (fn:=Tryz.f20) (by kernel_rfl) (by kernel_rfl) (by rw [runnelref10_Sorted_eq]; exact h)
def runnelref10_Within_L2 (q2s2 q2s3 y0:AV) (H:List Ob) (B2:List AV→List Ob→Prop) (K:AV→List Ob→Prop):Prop :=
 aFieldAddr 1 q2s2 fun v26 =>
 aLoad false 1 v26 H fun v27 =>
 aLen false false v27 fun v28 =>
 aBin false false .lss y0 v28 fun v29 =>
 aGuard v29
 (aFieldAddr 1 q2s2 fun v30 =>
 aLoad false 1 v30 H fun v31 =>
 aIndexAddr 6 v31 y0 fun v32 =>
 aFieldAddr 0 v32 fun v33 =>
 aLoad false 1 v33 H fun v34 =>
 aFieldAddr 1 q2s2 fun v35 =>
 aLoad false 1 v35 H fun v36 =>
 aCallT Tryz.prog (.p (.func runnelref10_bads_i [])) [v36,v34] fun v37 =>
 aFieldAddr 1 q2s3 fun v38 =>
 aLoad false 1 v38 H fun v39 =>
 aCallT Tryz.prog (.p (.func runnelref10_bads_i [])) [v39,v34] fun v40 =>
 aCallT Tryz.prog (.p (.func runnelref10_within_i [])) [v37,v40] fun v41 =>
 aUn .not v41 fun v42 =>
 aGuard v42
 (K (.p (.bool false)) H)
 (aBin false false .add y0 (.p (.int .i64 1)) fun v43 =>
 B2 [v43] H))
 (K (.p (.bool true)) H)
def runnelref10_Within_L1 (q1s2 q1s3 y0:AV) (H:List Ob) (B1:List AV→List Ob→Prop) (K:AV→List Ob→Prop):Prop :=
 aFieldAddr 0 q1s2 fun v11 =>
 aLoad false 1 v11 H fun v12 =>
 aLen false false v12 fun v13 =>
 aBin false false .lss y0 v13 fun v14 =>
 aGuard v14
 (aFieldAddr 0 q1s2 fun v15 =>
 aLoad false 1 v15 H fun v16 =>
 aIndexAddr 1 v16 y0 fun v17 =>
 aLoad false 1 v17 H fun v18 =>
 aFieldAddr 0 q1s3 fun v19 =>
 aLoad false 1 v19 H fun v20 =>
 aIndexAddr 1 v20 y0 fun v21 =>
 aLoad false 1 v21 H fun v22 =>
 aCallT Tryz.prog (.p (.func runnelref10_within_i [])) [v18,v22] fun v23 =>
 aUn .not v23 fun v24 =>
 aGuard v24
 (K (.p (.bool false)) H)
 (aBin false false .add y0 (.p (.int .i64 1)) fun v25 =>
 B1 [v25] H))
 (aLoopN 1 [(.p (.int .i64 0))] H fun xs H B2=>runnelref10_Within_L2 q1s2 q1s3 (xs.getD 0 .top) H B2 K)
def runnelref10_Within (x0 x1:AV) (H:List Ob) (K:AV→List Ob→Prop):Prop :=
 aBox x0 H fun v0 h1 =>
 aBox x1 h1 fun v2 h3 =>
 aFieldAddr 0 v0 fun v4 =>
 aLoad false 1 v4 h3 fun v5 =>
 aLen false false v5 fun v6 =>
 aFieldAddr 0 v2 fun v7 =>
 aLoad false 1 v7 h3 fun v8 =>
 aLen false false v8 fun v9 =>
 aBin false false .neq v6 v9 fun v10 =>
 aGuard v10
 (K (.p (.bool false)) h3)
 (aLoopN 1 [(.p (.int .i64 0))] h3 fun xs H B1=>runnelref10_Within_L1 v0 v2 (xs.getD 0 .top) H B1 K)
def runnelref10_Within_ann:Nat→List Nat:=fun k=>match k with | 4=>[5] | 9=>[6] | _=>[]
theorem runnelref10_Within_eq (x0 x1:AV) (H:List Ob) (r:AV) (Ho:List Ob):aBody Tryz.prog runnelref10_Within_ann Tryz.f35 H [x0,x1] r Ho = runnelref10_Within x0 x1 H (fun v H'=>Gives H.length v H' r Ho):=by kernel_rfl
theorem runnelref10_Within_fn {x0 x1:AV} {r:AV} {Ho:List Ob} (h:runnelref10_Within x0 x1 [] (fun v H'=>Gives 0 v H' r Ho)):Abs.Fn Tryz.prog runnelref10_Within_i [] [x0,x1] r Ho :=
 fn_intro mixed runnelref10_Within_ann (fn:=Tryz.f35) (by kernel_rfl) (by kernel_rfl) (by rw [runnelref10_Within_eq]; exact h)
def runnelref10_sameRows_L1 (q1s0 q1s1 y0:AV) (H:List Ob) (B1:List AV→List Ob→Prop) (K:AV→List Ob→Prop):Prop :=
 aLen false false q1s0 fun v3 =>
 aBin false false .lss y0 v3 fun v4 =>
 aGuard v4
 (aIndexAddr 5 q1s0 y0 fun v5 =>
 aLoad true 5 v5 H fun v6 =>
 aIndexAddr 5 q1s1 y0 fun v7 =>
 aLoad true 5 v7 H fun v8 =>
 aCallT Tryz.prog (.p (.func runnelref6_Same_i [])) [v6,v8] fun v9 =>
 aUn .not v9 fun v10 =>
 aGuard v10
 (K (.p (.bool false)) H)
 (aBin false false .add y0 (.p (.int .i64 1)) fun v11 =>
 B1 [v11] H))
 (K (.p (.bool true)) H)
def runnelref10_sameRows (x0 x1:AV) (H:List Ob) (K:AV→List Ob→Prop):Prop :=
 aLen false false x0 fun v0 =>
 aLen false false x1 fun v1 =>
 aBin false false .neq v0 v1 fun v2 =>
 aGuard v2
 (K (.p (.bool false)) H)
 (aLoopN 1 [(.p (.int .i64 0))] H fun xs H B1=>runnelref10_sameRows_L1 x0 x1 (xs.getD 0 .top) H B1 K)
def runnelref10_sameRows_ann:Nat→List Nat:=fun k=>match k with | 4=>[5] | _=>[]
theorem runnelref10_sameRows_eq (x0 x1:AV) (H:List Ob) (r:AV) (Ho:List Ob):aBody Tryz.prog runnelref10_sameRows_ann Tryz.f40 H [x0,x1] r Ho = runnelref10_sameRows x0 x1 H (fun v H'=>Gives H.length v H' r Ho):=by kernel_rfl
theorem runnelref10_sameRows_fn {x0 x1:AV} {r:AV} {Ho:List Ob} (h:runnelref10_sameRows x0 x1 [] (fun v H'=>Gives 0 v H' r Ho)):Abs.Fn Tryz.prog runnelref10_sameRows_i [] [x0,x1] r Ho :=
 fn_intro mixed runnelref10_sameRows_ann (fn:=Tryz.f40) (by kernel_rfl) (by kernel_rfl) (by rw [runnelref10_sameRows_eq]; exact h)
def runnelref10_within_L1 (q1s0 q1s1 y0:AV) (H:List Ob) (B1:List AV→List Ob→Prop) (K:AV→List Ob→Prop):Prop :=
 aLen false false q1s0 fun v0 =>
 aBin false false .lss y0 v0 fun v1 =>
 aGuard v1
 (aIndexAddr 5 q1s0 y0 fun v2 =>
 aLoad true 5 v2 H fun v3 =>
 aCallT Tryz.prog (.p (.func runnelref10_times_i [])) [q1s0,v3] fun v4 =>
 aIndexAddr 5 q1s0 y0 fun v5 =>
 aLoad true 5 v5 H fun v6 =>
 aCallT Tryz.prog (.p (.func runnelref10_times_i [])) [q1s1,v6] fun v7 =>
 aBin false false .gtr v4 v7 fun v8 =>
 aGuard v8
 (K (.p (.bool false)) H)
 (aBin false false .add y0 (.p (.int .i64 1)) fun v9 =>
 B1 [v9] H))
 (K (.p (.bool true)) H)
def runnelref10_within (x0 x1:AV) (H:List Ob) (K:AV→List Ob→Prop):Prop :=
 aLoopN 1 [(.p (.int .i64 0))] H fun xs H B1=>runnelref10_within_L1 x0 x1 (xs.getD 0 .top) H B1 K
def runnelref10_within_ann:Nat→List Nat:=fun k=>match k with | 2=>[5] | _=>[]
theorem runnelref10_within_eq (x0 x1:AV) (H:List Ob) (r:AV) (Ho:List Ob):aBody Tryz.prog runnelref10_within_ann Tryz.f66 H [x0,x1] r Ho = runnelref10_within x0 x1 H (fun v H'=>Gives H.length v H' r Ho):=by kernel_rfl
theorem runnelref10_within_fn {x0 x1:AV} {r:AV} {Ho:List Ob} (h:runnelref10_within x0 x1 [] (fun v H'=>Gives 0 v H' r Ho)):Abs.Fn Tryz.prog runnelref10_within_i [] [x0,x1] r Ho :=
 fn_intro mixed runnelref10_within_ann (fn:=Tryz.f66) (by kernel_rfl) (by kernel_rfl) (by rw [runnelref10_within_eq]; exact h)
def runnelref10_bads_L1 (q1s0 q1s1 y0 y1:AV) (H:List Ob) (B1:List AV→List Ob→Prop) (K:AV→List Ob→Prop):Prop :=
 aLen false false q1s0 fun v0 =>
 aBin false false .lss y1 v0 fun v1 =>
 aGuard v1
 (aIndexAddr 6 q1s0 y1 fun v2 =>
 aFieldAddr 0 v2 fun v3 =>
 aLoad false 1 v3 H fun v4 =>
 aBin false false .eql v4 q1s1 fun v5 =>
 aGuard v5
 (aIndexAddr 6 q1s0 y1 fun v6 =>
 aFieldAddr 1 v6 fun v7 =>
 aLoad true 5 v7 H fun v8 =>
 aBuildSlice 5 [v8] fun v9 =>
 aAppend false 5 64 y0 v9 H fun v10 h11 =>
 aBin false false .add y1 (.p (.int .i64 1)) fun v12 =>
 B1 [v10,v12] h11)
 (aBin false false .add y1 (.p (.int .i64 1)) fun v13 =>
 B1 [y0,v13] H))
 (K y0 H)
def runnelref10_bads (x0 x1:AV) (H:List Ob) (K:AV→List Ob→Prop):Prop :=
 aLoopN 2 [(.full []),(.p (.int .i64 0))] H fun xs H B1=>runnelref10_bads_L1 x0 x1 (xs.getD 0 .top) (xs.getD 1 .top) H B1 K
def runnelref10_bads_ann:Nat→List Nat:=fun k=>match k with | 3=>[5,6] | _=>[]
theorem runnelref10_bads_eq (x0 x1:AV) (H:List Ob) (r:AV) (Ho:List Ob):aBody Tryz.prog runnelref10_bads_ann Tryz.f67 H [x0,x1] r Ho = runnelref10_bads x0 x1 H (fun v H'=>Gives H.length v H' r Ho):=by kernel_rfl
theorem runnelref10_bads_fn {x0 x1:AV} {r:AV} {Ho:List Ob} (h:runnelref10_bads x0 x1 [] (fun v H'=>Gives 0 v H' r Ho)):Abs.Fn Tryz.prog runnelref10_bads_i [] [x0,x1] r Ho :=
 fn_intro mixed runnelref10_bads_ann (fn:=Tryz.f67) (by kernel_rfl) (by kernel_rfl) (by rw [runnelref10_bads_eq]; exact h)
def runnelref10_times_L1 (q1s0 q1s3 y0 y1:AV) (H:List Ob) (B1:List AV→List Ob→Prop) (K:AV→List Ob→Prop):Prop :=
 aLen false false q1s0 fun v2 =>
 aBin false false .lss y1 v2 fun v3 =>
 aGuard v3
 (aIndexAddr 5 q1s0 y1 fun v4 =>
 aLoad true 5 v4 H fun v5 =>
 aLoad true 5 q1s3 H fun v6 =>
 aCallT Tryz.prog (.p (.func runnelref6_Same_i [])) [v5,v6] fun v7 =>
 aGuard v7
 (aBin false false .add y0 (.p (.int .i64 1)) fun v8 =>
 aBin false false .add y1 (.p (.int .i64 1)) fun v9 =>
 B1 [v8,v9] H)
 (aBin false false .add y1 (.p (.int .i64 1)) fun v10 =>
 B1 [y0,v10] H))
 (K y0 H)
def runnelref10_times (x0 x1:AV) (H:List Ob) (K:AV→List Ob→Prop):Prop :=
 aBox x1 H fun v0 h1 =>
 aLoopN 2 [(.p (.int .i64 0)),(.p (.int .i64 0))] h1 fun xs H B1=>runnelref10_times_L1 x0 v0 (xs.getD 0 .top) (xs.getD 1 .top) H B1 K
def runnelref10_times_ann:Nat→List Nat:=fun k=>match k with | 3=>[5,6] | _=>[]
theorem runnelref10_times_eq (x0 x1:AV) (H:List Ob) (r:AV) (Ho:List Ob):aBody Tryz.prog runnelref10_times_ann Tryz.f105 H [x0,x1] r Ho = runnelref10_times x0 x1 H (fun v H'=>Gives H.length v H' r Ho):=by kernel_rfl
theorem runnelref10_times_fn {x0 x1:AV} {r:AV} {Ho:List Ob} (h:runnelref10_times x0 x1 [] (fun v H'=>Gives 0 v H' r Ho)):Abs.Fn Tryz.prog runnelref10_times_i [] [x0,x1] r Ho :=
 fn_intro mixed runnelref10_times_ann (fn:=Tryz.f105) (by kernel_rfl) (by kernel_rfl) (by rw [runnelref10_times_eq]; exact h)
end Go.Proofs.YtdmgbhamigegfaaGreatDoor
end
