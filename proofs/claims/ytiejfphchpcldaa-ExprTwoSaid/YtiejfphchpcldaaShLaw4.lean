/- Made by program (Gen.lean): functions of the dump, over trees. -/
import Derived.Test.YtiejfphchpcldaaShIds
set_option maxRecDepth 4000
set_option linter.unusedVariables false
namespace Go.Proofs.Ytiejfphchpcldaa
open Go Go.Abs

/- runnel/runnellaw4.ExprTwo -/
def runnellaw4_ExprTwo_J1 (j1s11 j1s12 j1s14 : AV) (H : List Ob) (K : AV → List Ob → Prop) : Prop :=
  aBin false false .eql j1s14 (.p (.int .i64 0)) fun v81 =>
  aGuard v81
  (aBin false false .eql j1s12 (.p (.int .i64 5)) fun v82 =>
  aMerge true v82 (fun Q83 =>
  aFieldAddr 0 j1s11 fun v84 =>
  aLoad false 1 v84 H fun v85 =>
  aBin false false .eql v85 (.p (.int .i64 0)) fun v86 =>
  (H = H ∧ Q83 v86)) fun v87 =>
  K v87 H)
  (aBin false false .eql j1s12 (.p (.int .i64 0)) fun v88 =>
  aMerge true v88 (fun Q89 =>
  aFieldAddr 0 j1s11 fun v90 =>
  aLoad false 1 v90 H fun v91 =>
  aBin false false .eql v91 j1s14 fun v92 =>
  (H = H ∧ Q89 v92)) fun v93 =>
  aMerge true v93 (fun Q94 =>
  aFieldAddr 1 j1s11 fun v95 =>
  aLoad false 1 v95 H fun v96 =>
  aLenS false v96 fun v97 =>
  aBin false false .eql v97 (.p (.int .i64 0)) fun v98 =>
  (H = H ∧ Q94 v98)) fun v99 =>
  K v99 H)

def runnellaw4_ExprTwo (x0 x1 x2 : AV) (H : List Ob) (K : AV → List Ob → Prop) : Prop :=
  aBox x1 H fun v0 h1 =>
  aBox x2 h1 fun v2 h3 =>
  aCall Try.prog (.p (.func runnellaw4_known_i [])) [] h3 fun v4 h5 =>
  aUn .not v4 fun v6 =>
  aGuard v6
  (K (.p (.bool false)) h5)
  (aLoad true 2 v0 h5 fun v7 =>
  aCall Try.prog (.p (.func runnellaw1_Few_i [])) [v7] h5 fun v8 h9 =>
  aUn .not v8 fun v10 =>
  aMerge false v10 (fun Q11 =>
  aLoad true 2 v2 h9 fun v12 =>
  aCall Try.prog (.p (.func runnellaw1_Few_i [])) [v12] h9 fun v13 h14 =>
  aUn .not v13 fun v15 =>
  (h14 = h9 ∧ Q11 v15)) fun v16 =>
  aMerge false v16 (fun Q17 =>
  aLoad true 2 v0 h9 fun v18 =>
  aCall Try.prog (.p (.func runnellaw1_Of_i [])) [v18] h9 fun v19 h20 =>
  aCall Try.prog (.p (.func runnelref6_CheckType_i [])) [v19] h20 fun v21 h22 =>
  aBin false false .neq v21 (.p (.int .i64 0)) fun v23 =>
  (h22 = h9 ∧ Q17 v23)) fun v24 =>
  aMerge false v24 (fun Q25 =>
  aLoad true 2 v2 h9 fun v26 =>
  aCall Try.prog (.p (.func runnellaw1_Of_i [])) [v26] h9 fun v27 h28 =>
  aCall Try.prog (.p (.func runnelref6_CheckType_i [])) [v27] h28 fun v29 h30 =>
  aBin false false .neq v29 (.p (.int .i64 0)) fun v31 =>
  (h30 = h9 ∧ Q25 v31)) fun v32 =>
  aGuard v32
  (K (.p (.bool true)) h9)
  (aLoad true 2 v0 h9 fun v33 =>
  aLoad true 2 v2 h9 fun v34 =>
  aBuildSlice 2 [v33, v34] fun v35 =>
  aBuild [(.p (.int .i64 0)), (.full [])] [(0, 1, (.p (.int .i64 4))), (1, 1, v35)] fun v36 =>
  aAlloc [(.p (.int .i64 0)), (.full [])] h9 fun v37 h38 =>
  aStore 2 v37 v36 h38 fun _ h40 =>
  aLoad true 2 v37 h40 fun v41 =>
  aCall Try.prog (.p (.func runnellaw1_Of_i [])) [v41] h40 fun v42 h43 =>
  aCall Try.prog (.p (.func runnelref6_CheckType_i [])) [v42] h43 fun v44 h45 =>
  aBin false false .neq v44 (.p (.int .i64 0)) fun v46 =>
  aGuard v46
  (K (.p (.bool true)) h45)
  (aBuildSlice 1 [(.p (.str [97, 100, 100])), (.p (.str [115, 117, 98])), (.p (.str [109, 117, 108])), (.p (.str [100, 105, 118])), (.p (.str [114, 101, 109])), (.p (.str [101, 113])), (.p (.str [108, 116])), (.p (.str [97, 110, 100])), (.p (.str [111, 114])), (.p (.str [99, 97, 116]))] fun v47 =>
  aConvInt .i64 x0 fun v48 =>
  aLen false false v47 fun v49 =>
  aBin false false .rem v48 v49 fun v50 =>
  aIndexAddr 1 v47 v50 fun v51 =>
  aLoad false 1 v51 h45 fun v52 =>
  aCall Try.prog (.p (.func runnellaw4_X_i [])) [] h45 fun v53 h54 =>
  aBuildSlice 8 [v53] fun v55 =>
  aBuild [(.p (.str [])), (.p (.int .i64 0)), (.p (.int .i64 0)), (.p (.bool false)), (.p (.str [])), (.full []), (.p (.int .i64 0)), (.full [])] [(0, 1, (.p (.str [97, 116]))), (7, 1, v55)] fun v56 =>
  aCall Try.prog (.p (.func runnellaw4_X_i [])) [] h54 fun v57 h58 =>
  aBuildSlice 8 [v57] fun v59 =>
  aBuild [(.p (.str [])), (.p (.int .i64 0)), (.p (.int .i64 0)), (.p (.bool false)), (.p (.str [])), (.full []), (.p (.int .i64 0)), (.full [])] [(0, 1, (.p (.str [97, 116]))), (6, 1, (.p (.int .i64 1))), (7, 1, v59)] fun v60 =>
  aBuildSlice 8 [v56, v60] fun v61 =>
  aBuild [(.p (.str [])), (.p (.int .i64 0)), (.p (.int .i64 0)), (.p (.bool false)), (.p (.str [])), (.full []), (.p (.int .i64 0)), (.full [])] [(0, 1, v52), (7, 1, v61)] fun v62 =>
  aAlloc [(.p (.str [])), (.p (.int .i64 0)), (.p (.int .i64 0)), (.p (.bool false)), (.p (.str [])), (.full []), (.p (.int .i64 0)), (.full [])] h58 fun v63 h64 =>
  aStore 8 v63 v62 h64 fun _ h66 =>
  aLoad true 8 v63 h66 fun v67 =>
  aLoad true 2 v37 h66 fun v68 =>
  aCall Try.prog (.p (.func expr_Check_i [])) [v67, v68] h66 fun v69 h70 =>
  aExtract v69 0 fun v71 =>
  aExtract v69 1 fun v72 =>
  aAlloc [(.p (.int .i64 0)), (.full [])] h70 fun v73 h74 =>
  aStore 2 v73 v71 h74 fun _ h76 =>
  aLoad true 2 v0 h76 fun v77 =>
  aLoad true 2 v2 h76 fun v78 =>
  aCall Try.prog (.p (.func runnellaw4_SameT_i [])) [v77, v78] h76 fun v79 h80 =>
  aBin false false .eql v52 (.p (.str [101, 113])) fun v100 =>
  aMerge false v100 (fun Q101 =>
  aBin false false .eql v52 (.p (.str [108, 116])) fun v102 =>
  (h80 = h80 ∧ Q101 v102)) fun v103 =>
  aGuard v103
  (aGuard v79
  (runnellaw4_ExprTwo_J1 v73 v72 (.p (.int .i64 2)) h80 K)
  (runnellaw4_ExprTwo_J1 v73 v72 (.p (.int .i64 0)) h80 K))
  (aBin false false .eql v52 (.p (.str [97, 110, 100])) fun v104 =>
  aMerge false v104 (fun Q105 =>
  aBin false false .eql v52 (.p (.str [111, 114])) fun v106 =>
  (h80 = h80 ∧ Q105 v106)) fun v107 =>
  aGuard v107
  (aMerge true v79 (fun Q108 =>
  aFieldAddr 0 v0 fun v109 =>
  aLoad false 1 v109 h80 fun v110 =>
  aBin false false .eql v110 (.p (.int .i64 2)) fun v111 =>
  (h80 = h80 ∧ Q108 v111)) fun v112 =>
  aGuard v112
  (runnellaw4_ExprTwo_J1 v73 v72 (.p (.int .i64 2)) h80 K)
  (runnellaw4_ExprTwo_J1 v73 v72 (.p (.int .i64 0)) h80 K))
  (aBin false false .eql v52 (.p (.str [99, 97, 116])) fun v113 =>
  aGuard v113
  (aMerge true v79 (fun Q114 =>
  aFieldAddr 0 v0 fun v115 =>
  aLoad false 1 v115 h80 fun v116 =>
  aBin false false .eql v116 (.p (.int .i64 3)) fun v117 =>
  (h80 = h80 ∧ Q114 v117)) fun v118 =>
  aGuard v118
  (runnellaw4_ExprTwo_J1 v73 v72 (.p (.int .i64 3)) h80 K)
  (runnellaw4_ExprTwo_J1 v73 v72 (.p (.int .i64 0)) h80 K))
  (aMerge true v79 (fun Q119 =>
  aFieldAddr 0 v0 fun v120 =>
  aLoad false 1 v120 h80 fun v121 =>
  aBin false false .eql v121 (.p (.int .i64 1)) fun v122 =>
  (h80 = h80 ∧ Q119 v122)) fun v123 =>
  aGuard v123
  (runnellaw4_ExprTwo_J1 v73 v72 (.p (.int .i64 1)) h80 K)
  (runnellaw4_ExprTwo_J1 v73 v72 (.p (.int .i64 0)) h80 K)))))))

def runnellaw4_ExprTwo_ann : Nat → List Nat := fun k => match k with | 1000018 => [1] | 1000022 => [1] | _ => []

theorem runnellaw4_ExprTwo_eq (x0 x1 x2 : AV) (H : List Ob) (r : AV) (Ho : List Ob) : aBody Try.prog runnellaw4_ExprTwo_ann Try.f12 H [x0, x1, x2] r Ho = runnellaw4_ExprTwo x0 x1 x2 H (fun v H' => Gives H.length v H' r Ho) := by kernel_rfl

theorem runnellaw4_ExprTwo_fn {x0 x1 x2 : AV} {r : AV} {Ho : List Ob} (h : runnellaw4_ExprTwo x0 x1 x2 [] (fun v H' => Gives 0 v H' r Ho)) : Abs.Fn Try.prog runnellaw4_ExprTwo_i [] [x0, x1, x2] r Ho :=
  fn_intro mixed runnellaw4_ExprTwo_ann (fn := Try.f12) (by kernel_rfl) (by kernel_rfl) (by rw [runnellaw4_ExprTwo_eq]; exact h)

/- runnel/runnellaw4.ExprNest -/
def runnellaw4_ExprNest_L2 (q2s1 q2s10 y0 : AV) (H : List Ob) (B2 : List AV → List Ob → Prop) (K : AV → List Ob → Prop) : Prop :=
  aBin false false .rem q2s1 (.p (.int .u8 8)) fun v57 =>
  aConvInt .i64 v57 fun v58 =>
  aBin false false .lss y0 v58 fun v59 =>
  aGuard v59
  (aLoad true 8 q2s10 H fun v60 =>
  aLoad true 8 q2s10 H fun v61 =>
  aBuildSlice 8 [v60, v61] fun v62 =>
  aBuild [(.p (.str [])), (.p (.int .i64 0)), (.p (.int .i64 0)), (.p (.bool false)), (.p (.str [])), (.full []), (.p (.int .i64 0)), (.full [])] [(0, 1, (.p (.str [97, 100, 100]))), (7, 1, v62)] fun v63 =>
  aStore 8 q2s10 v63 H fun _ h65 =>
  aBin false false .add y0 (.p (.int .i64 1)) fun v66 =>
  B2 [v66] h65)
  (aLoad true 8 q2s10 H fun v67 =>
  aBuild [(.p (.int .i64 0)), (.full [])] [(0, 1, (.p (.int .i64 1)))] fun v68 =>
  aCall Try.prog (.p (.func expr_Check_i [])) [v67, v68] H fun v69 h70 =>
  aExtract v69 0 fun v71 =>
  aExtract v69 1 fun v72 =>
  aAlloc [(.p (.int .i64 0)), (.full [])] h70 fun v73 h74 =>
  aStore 2 v73 v71 h74 fun _ h76 =>
  aBin false false .rem q2s1 (.p (.int .u8 8)) fun v77 =>
  aConvInt .u64 v77 fun v78 =>
  aBin false false .add v78 (.p (.int .u64 2)) fun v79 =>
  aBin false false .shl (.p (.int .i64 1)) v79 fun v80 =>
  aBin false false .sub v80 (.p (.int .i64 1)) fun v81 =>
  aBin false false .gtr v81 (.p (.int .i64 256)) fun v82 =>
  aGuard v82
  (aBin false false .eql v72 (.p (.int .i64 10)) fun v83 =>
  aMerge true v83 (fun Q84 =>
  aLoad true 8 q2s10 h76 fun v85 =>
  aCall Try.prog (.p (.func expr_Size_i [])) [v85] h76 fun v86 h87 =>
  aBin false false .eql v86 v81 fun v88 =>
  (h87 = h76 ∧ Q84 v88)) fun v89 =>
  K v89 h76)
  (aBin false false .eql v72 (.p (.int .i64 0)) fun v90 =>
  aMerge true v90 (fun Q91 =>
  aLoad true 8 q2s10 h76 fun v92 =>
  aCall Try.prog (.p (.func expr_Size_i [])) [v92] h76 fun v93 h94 =>
  aBin false false .eql v93 v81 fun v95 =>
  (h94 = h76 ∧ Q91 v95)) fun v96 =>
  K v96 h76))

def runnellaw4_ExprNest_L1 (q1s1 q1s5 q1s6 y0 : AV) (H : List Ob) (B1 : List AV → List Ob → Prop) (K : AV → List Ob → Prop) : Prop :=
  aBin false false .lss y0 q1s5 fun v11 =>
  aGuard v11
  (aLoad true 8 q1s6 H fun v12 =>
  aBuildSlice 8 [v12] fun v13 =>
  aBuild [(.p (.str [])), (.p (.int .i64 0)), (.p (.int .i64 0)), (.p (.bool false)), (.p (.str [])), (.full []), (.p (.int .i64 0)), (.full [])] [(0, 1, (.p (.str [110, 101, 103]))), (7, 1, v13)] fun v14 =>
  aStore 8 q1s6 v14 H fun _ h16 =>
  aBin false false .add y0 (.p (.int .i64 1)) fun v17 =>
  B1 [v17] h16)
  (aLoad true 8 q1s6 H fun v18 =>
  aBuild [(.p (.int .i64 0)), (.full [])] [(0, 1, (.p (.int .i64 1)))] fun v19 =>
  aCall Try.prog (.p (.func expr_Check_i [])) [v18, v19] H fun v20 h21 =>
  aExtract v20 0 fun v22 =>
  aExtract v20 1 fun v23 =>
  aAlloc [(.p (.int .i64 0)), (.full [])] h21 fun v24 h25 =>
  aStore 2 v24 v22 h25 fun _ h27 =>
  aBin false false .gtr q1s5 (.p (.int .i64 12)) fun v28 =>
  aMerge true v28 (fun Q29 =>
  aBin false false .neq v23 (.p (.int .i64 9)) fun v30 =>
  (h27 = h27 ∧ Q29 v30)) fun v31 =>
  aMerge false v31 (fun Q32 =>
  aBin false false .leq q1s5 (.p (.int .i64 12)) fun v33 =>
  aMerge true v33 (fun Q34 =>
  aBin false false .neq v23 (.p (.int .i64 0)) fun v35 =>
  (h27 = h27 ∧ Q34 v35)) fun v36 =>
  (h27 = h27 ∧ Q32 v36)) fun v37 =>
  aMerge false v37 (fun Q38 =>
  aLoad true 8 q1s6 h27 fun v39 =>
  aCall Try.prog (.p (.func expr_Size_i [])) [v39] h27 fun v40 h41 =>
  aBin false false .add q1s5 (.p (.int .i64 1)) fun v42 =>
  aBin false false .neq v40 v42 fun v43 =>
  (h41 = h27 ∧ Q38 v43)) fun v44 =>
  aGuard v44
  (K (.p (.bool false)) h27)
  (aCall Try.prog (.p (.func runnellaw4_X_i [])) [] h27 fun v45 h46 =>
  aCall Try.prog (.p (.func val_Int_i [])) [(.p (.int .i64 1))] h46 fun v47 h48 =>
  aCall Try.prog (.p (.func runnellaw4_Lit_i [])) [v47] h48 fun v49 h50 =>
  aBuildSlice 8 [v45, v49] fun v51 =>
  aBuild [(.p (.str [])), (.p (.int .i64 0)), (.p (.int .i64 0)), (.p (.bool false)), (.p (.str [])), (.full []), (.p (.int .i64 0)), (.full [])] [(0, 1, (.p (.str [97, 100, 100]))), (7, 1, v51)] fun v52 =>
  aAlloc [(.p (.str [])), (.p (.int .i64 0)), (.p (.int .i64 0)), (.p (.bool false)), (.p (.str [])), (.full []), (.p (.int .i64 0)), (.full [])] h50 fun v53 h54 =>
  aStore 8 v53 v52 h54 fun _ h56 =>
  aLoopN 1 [(.p (.int .i64 0))] h56 fun xs H B2 => runnellaw4_ExprNest_L2 q1s1 v53 (xs.getD 0 .top) H B2 K))

def runnellaw4_ExprNest (x0 x1 : AV) (H : List Ob) (K : AV → List Ob → Prop) : Prop :=
  aCall Try.prog (.p (.func runnellaw4_known_i [])) [] H fun v0 h1 =>
  aUn .not v0 fun v2 =>
  aGuard v2
  (K (.p (.bool false)) h1)
  (aBin false false .rem x0 (.p (.int .u8 16)) fun v3 =>
  aConvInt .i64 v3 fun v4 =>
  aCall Try.prog (.p (.func runnellaw4_X_i [])) [] h1 fun v5 h6 =>
  aAlloc [(.p (.str [])), (.p (.int .i64 0)), (.p (.int .i64 0)), (.p (.bool false)), (.p (.str [])), (.full []), (.p (.int .i64 0)), (.full [])] h6 fun v7 h8 =>
  aStore 8 v7 v5 h8 fun _ h10 =>
  aLoopN 1 [(.p (.int .i64 0))] h10 fun xs H B1 => runnellaw4_ExprNest_L1 x1 v4 v7 (xs.getD 0 .top) H B1 K)

def runnellaw4_ExprNest_ann : Nat → List Nat := fun k => match k with | 6 => [7] | 14 => [11] | _ => []

theorem runnellaw4_ExprNest_eq (x0 x1 : AV) (H : List Ob) (r : AV) (Ho : List Ob) : aBody Try.prog runnellaw4_ExprNest_ann Try.f13 H [x0, x1] r Ho = runnellaw4_ExprNest x0 x1 H (fun v H' => Gives H.length v H' r Ho) := by kernel_rfl

theorem runnellaw4_ExprNest_fn {x0 x1 : AV} {r : AV} {Ho : List Ob} (h : runnellaw4_ExprNest x0 x1 [] (fun v H' => Gives 0 v H' r Ho)) : Abs.Fn Try.prog runnellaw4_ExprNest_i [] [x0, x1] r Ho :=
  fn_intro mixed runnellaw4_ExprNest_ann (fn := Try.f13) (by kernel_rfl) (by kernel_rfl) (by rw [runnellaw4_ExprNest_eq]; exact h)

/- runnel/runnellaw4.known -/
def runnellaw4_known (H : List Ob) (K : AV → List Ob → Prop) : Prop :=
  aBuild [(.p (.int .i64 0)), (.full [])] [(0, 1, (.p (.int .i64 1)))] fun v0 =>
  aBuild [(.p (.int .i64 0)), (.full [])] [(0, 1, (.p (.int .i64 3)))] fun v1 =>
  aBuildSlice 2 [v0, v1] fun v2 =>
  aBuild [(.p (.int .i64 0)), (.full [])] [(0, 1, (.p (.int .i64 4))), (1, 1, v2)] fun v3 =>
  aAlloc [(.p (.int .i64 0)), (.full [])] H fun v4 h5 =>
  aStore 2 v4 v3 h5 fun _ h7 =>
  aCall Try.prog (.p (.func runnellaw4_X_i [])) [] h7 fun v8 h9 =>
  aBuildSlice 8 [v8] fun v10 =>
  aBuild [(.p (.str [])), (.p (.int .i64 0)), (.p (.int .i64 0)), (.p (.bool false)), (.p (.str [])), (.full []), (.p (.int .i64 0)), (.full [])] [(0, 1, (.p (.str [97, 116]))), (7, 1, v10)] fun v11 =>
  aCall Try.prog (.p (.func val_Int_i [])) [(.p (.int .i64 1))] h9 fun v12 h13 =>
  aCall Try.prog (.p (.func runnellaw4_Lit_i [])) [v12] h13 fun v14 h15 =>
  aBuildSlice 8 [v11, v14] fun v16 =>
  aCall Try.prog (.p (.func runnellaw4_Op_i [])) [(.p (.str [97, 100, 100])), v16] h15 fun v17 h18 =>
  aAlloc [(.p (.str [])), (.p (.int .i64 0)), (.p (.int .i64 0)), (.p (.bool false)), (.p (.str [])), (.full []), (.p (.int .i64 0)), (.full [])] h18 fun v19 h20 =>
  aStore 8 v19 v17 h20 fun _ h22 =>
  aLoad true 8 v19 h22 fun v23 =>
  aLoad true 2 v4 h22 fun v24 =>
  aCall Try.prog (.p (.func expr_Check_i [])) [v23, v24] h22 fun v25 h26 =>
  aExtract v25 0 fun v27 =>
  aExtract v25 1 fun v28 =>
  aAlloc [(.p (.int .i64 0)), (.full [])] h26 fun v29 h30 =>
  aStore 2 v29 v27 h30 fun _ h32 =>
  aAlloc [(.p (.int .i64 0)), (.full [])] h32 fun v33 h34 =>
  aCallT Try.prog (.p (.func runnellaw4_X_i [])) [] fun v35 =>
  aCallT Try.prog (.p (.func runnellaw4_X_i [])) [] fun v36 =>
  aBuildSlice 8 [v35, v36] fun v37 =>
  aCallT Try.prog (.p (.func runnellaw4_Op_i [])) [(.p (.str [97, 100, 100])), v37] fun v38 =>
  aLoad true 2 v4 h34 fun v39 =>
  aCallT Try.prog (.p (.func expr_Check_i [])) [v38, v39] fun v40 =>
  aExtract v40 0 fun v41 =>
  aExtract v40 1 fun v42 =>
  aStore 2 v33 v41 h34 fun _ h44 =>
  aAlloc [(.p (.int .i64 0)), (.full [])] h44 fun v45 h46 =>
  aCallT Try.prog (.p (.func runnellaw4_X_i [])) [] fun v47 =>
  aBuildSlice 8 [v47] fun v48 =>
  aBuild [(.p (.str [])), (.p (.int .i64 0)), (.p (.int .i64 0)), (.p (.bool false)), (.p (.str [])), (.full []), (.p (.int .i64 0)), (.full [])] [(0, 1, (.p (.str [97, 116]))), (6, 1, (.p (.int .i64 2))), (7, 1, v48)] fun v49 =>
  aLoad true 2 v4 h46 fun v50 =>
  aCallT Try.prog (.p (.func expr_Check_i [])) [v49, v50] fun v51 =>
  aExtract v51 0 fun v52 =>
  aExtract v51 1 fun v53 =>
  aStore 2 v45 v52 h46 fun _ h55 =>
  aAlloc [(.p (.int .i64 0)), (.full [])] h55 fun v56 h57 =>
  aCallT Try.prog (.p (.func runnellaw4_Op_i [])) [(.p (.str [113])), (.full [])] fun v58 =>
  aLoad true 2 v4 h57 fun v59 =>
  aCallT Try.prog (.p (.func expr_Check_i [])) [v58, v59] fun v60 =>
  aExtract v60 0 fun v61 =>
  aExtract v60 1 fun v62 =>
  aStore 2 v56 v61 h57 fun _ h64 =>
  aBin false false .eql v28 (.p (.int .i64 0)) fun v65 =>
  aMerge true v65 (fun Q66 =>
  aFieldAddr 0 v29 fun v67 =>
  aLoad false 1 v67 h64 fun v68 =>
  aBin false false .eql v68 (.p (.int .i64 1)) fun v69 =>
  (h64 = h64 ∧ Q66 v69)) fun v70 =>
  aMerge true v70 (fun Q71 =>
  aBin false false .eql v42 (.p (.int .i64 5)) fun v72 =>
  (h64 = h64 ∧ Q71 v72)) fun v73 =>
  aMerge true v73 (fun Q74 =>
  aBin false false .eql v53 (.p (.int .i64 1)) fun v75 =>
  (h64 = h64 ∧ Q74 v75)) fun v76 =>
  aMerge true v76 (fun Q77 =>
  aBin false false .eql v62 (.p (.int .i64 6)) fun v78 =>
  (h64 = h64 ∧ Q77 v78)) fun v79 =>
  aMerge true v79 (fun Q80 =>
  aLoad true 8 v19 h64 fun v81 =>
  aCall Try.prog (.p (.func expr_Size_i [])) [v81] h64 fun v82 h83 =>
  aBin false false .eql v82 (.p (.int .i64 4)) fun v84 =>
  (h83 = h64 ∧ Q80 v84)) fun v85 =>
  K v85 h64

def runnellaw4_known_ann : Nat → List Nat := fun _ => []

theorem runnellaw4_known_eq (H : List Ob) (r : AV) (Ho : List Ob) : aBody Try.prog runnellaw4_known_ann Try.f41 H [] r Ho = runnellaw4_known H (fun v H' => Gives H.length v H' r Ho) := by kernel_rfl

theorem runnellaw4_known_fn {r : AV} {Ho : List Ob} (h : runnellaw4_known [] (fun v H' => Gives 0 v H' r Ho)) : Abs.Fn Try.prog runnellaw4_known_i [] [] r Ho :=
  fn_intro mixed runnellaw4_known_ann (fn := Try.f41) (by kernel_rfl) (by kernel_rfl) (by rw [runnellaw4_known_eq]; exact h)

end Go.Proofs.Ytiejfphchpcldaa
