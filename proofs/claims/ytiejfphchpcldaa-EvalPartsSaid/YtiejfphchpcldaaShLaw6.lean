/- Made by program (Gen.lean): functions of the dump, over trees. -/
import Derived.Test.YtiejfphchpcldaaShIds
set_option maxRecDepth 4000
set_option linter.unusedVariables false
namespace Go.Proofs.Ytiejfphchpcldaa
open Go Go.Abs

/- runnel/runnellaw6.EvalAny -/
def runnellaw6_EvalAny (x0 x1 : AV) (H : List Ob) (K : AV → List Ob → Prop) : Prop :=
  aBox x0 H fun v0 h1 =>
  aBox x1 h1 fun v2 h3 =>
  aCall Try.prog (.p (.func runnellaw6_known_i [])) [] h3 fun v4 h5 =>
  aUn .not v4 fun v6 =>
  aGuard v6
  (K (.p (.bool false)) h5)
  (aLoad true 8 v0 h5 fun v7 =>
  aCall Try.prog (.p (.func runnellaw4_Few_i [])) [v7] h5 fun v8 h9 =>
  aUn .not v8 fun v10 =>
  aMerge false v10 (fun Q11 =>
  aLoad true 5 v2 h9 fun v12 =>
  aCall Try.prog (.p (.func runnellaw2_Good_i [])) [v12] h9 fun v13 h14 =>
  aUn .not v13 fun v15 =>
  (h14 = h9 ∧ Q11 v15)) fun v16 =>
  aGuard v16
  (K (.p (.bool true)) h9)
  (aLoad true 8 v0 h9 fun v17 =>
  aCall Try.prog (.p (.func runnellaw4_Of_i [])) [v17] h9 fun v18 h19 =>
  aAlloc [(.p (.str [])), (.p (.int .i64 0)), (.p (.int .i64 0)), (.p (.bool false)), (.p (.str [])), (.full []), (.p (.int .i64 0)), (.full [])] h19 fun v20 h21 =>
  aStore 8 v20 v18 h21 fun _ h23 =>
  aAlloc [(.p (.int .i64 0)), (.full [])] h23 fun v24 h25 =>
  aLoad true 8 v20 h25 fun v26 =>
  aLoad true 5 v2 h25 fun v27 =>
  aCallT Try.prog (.p (.func runnellaw2_Of_i [])) [v27] fun v28 =>
  aCallT Try.prog (.p (.func runnelref6_TypeOf_i [])) [v28] fun v29 =>
  aCallT Try.prog (.p (.func runnelref6_CheckExpr_i [])) [v26, v29] fun v30 =>
  aExtract v30 0 fun v31 =>
  aExtract v30 1 fun v32 =>
  aStore 2 v24 v31 h25 fun _ h34 =>
  aBin false false .neq v32 (.p (.int .i64 0)) fun v35 =>
  aGuard v35
  (K (.p (.bool true)) h34)
  (aLoad true 8 v0 h34 fun v36 =>
  aLoad true 5 v2 h34 fun v37 =>
  aCall Try.prog (.p (.func eval_Eval_i [])) [v36, v37] h34 fun v38 h39 =>
  aExtract v38 0 fun v40 =>
  aExtract v38 1 fun v41 =>
  aAlloc [(.p (.int .i64 0)), (.p (.int .i64 0)), (.p (.bool false)), (.p (.str [])), (.full [])] h39 fun v42 h43 =>
  aStore 5 v42 v40 h43 fun _ h45 =>
  aAlloc [(.p (.int .i64 0)), (.p (.int .i64 0)), (.p (.bool false)), (.p (.str [])), (.full [])] h45 fun v46 h47 =>
  aLoad true 8 v20 h47 fun v48 =>
  aLoad true 5 v2 h47 fun v49 =>
  aCallT Try.prog (.p (.func runnellaw2_Of_i [])) [v49] fun v50 =>
  aCallT Try.prog (.p (.func runnelref6_Eval_i [])) [v48, v50] fun v51 =>
  aExtract v51 0 fun v52 =>
  aExtract v51 1 fun v53 =>
  aStore 5 v46 v52 h47 fun _ h55 =>
  aBin false false .eql v41 v53 fun v56 =>
  aGuard v56
  (aLoad true 5 v42 h55 fun v57 =>
  aCallT Try.prog (.p (.func runnellaw2_Of_i [])) [v57] fun v58 =>
  aLoad true 5 v46 h55 fun v59 =>
  aCallT Try.prog (.p (.func runnelref6_Same_i [])) [v58, v59] fun v60 =>
  aGuard v60
  (aBin false false .neq v53 (.p (.int .i64 0)) fun v61 =>
  aGuard v61
  (K (.p (.bool true)) h55)
  (aLoad true 5 v42 h55 fun v62 =>
  aCallT Try.prog (.p (.func runnellaw2_Of_i [])) [v62] fun v63 =>
  aLoad true 2 v24 h55 fun v64 =>
  aCallT Try.prog (.p (.func runnelref6_Is_i [])) [v63, v64] fun v65 =>
  K v65 h55))
  (K (.p (.bool false)) h55))
  (K (.p (.bool false)) h55))))

def runnellaw6_EvalAny_ann : Nat → List Nat := fun _ => []

theorem runnellaw6_EvalAny_eq (x0 x1 : AV) (H : List Ob) (r : AV) (Ho : List Ob) : aBody Try.prog runnellaw6_EvalAny_ann Try.f3 H [x0, x1] r Ho = runnellaw6_EvalAny x0 x1 H (fun v H' => Gives H.length v H' r Ho) := by kernel_rfl

theorem runnellaw6_EvalAny_fn {x0 x1 : AV} {r : AV} {Ho : List Ob} (h : runnellaw6_EvalAny x0 x1 [] (fun v H' => Gives 0 v H' r Ho)) : Abs.Fn Try.prog runnellaw6_EvalAny_i [] [x0, x1] r Ho :=
  fn_intro mixed runnellaw6_EvalAny_ann (fn := Try.f3) (by kernel_rfl) (by kernel_rfl) (by rw [runnellaw6_EvalAny_eq]; exact h)

/- runnel/runnellaw6.EvalNums -/
def runnellaw6_EvalNums (x0 x1 : AV) (H : List Ob) (K : AV → List Ob → Prop) : Prop :=
  aCall Try.prog (.p (.func runnellaw6_known_i [])) [] H fun v0 h1 =>
  aUn .not v0 fun v2 =>
  aGuard v2
  (K (.p (.bool false)) h1)
  (aCall Try.prog (.p (.func val_Int_i [])) [x0] h1 fun v3 h4 =>
  aCall Try.prog (.p (.func val_Int_i [])) [x1] h4 fun v5 h6 =>
  aBuildSlice 5 [v3, v5] fun v7 =>
  aCall Try.prog (.p (.func val_Tup_i [])) [v7] h6 fun v8 h9 =>
  aAlloc [(.p (.int .i64 0)), (.p (.int .i64 0)), (.p (.bool false)), (.p (.str [])), (.full [])] h9 fun v10 h11 =>
  aStore 5 v10 v8 h11 fun _ h13 =>
  aCall Try.prog (.p (.func runnellaw4_X_i [])) [] h13 fun v14 h15 =>
  aBuildSlice 8 [v14] fun v16 =>
  aBuild [(.p (.str [])), (.p (.int .i64 0)), (.p (.int .i64 0)), (.p (.bool false)), (.p (.str [])), (.full []), (.p (.int .i64 0)), (.full [])] [(0, 1, (.p (.str [97, 116]))), (7, 1, v16)] fun v17 =>
  aAlloc [(.p (.str [])), (.p (.int .i64 0)), (.p (.int .i64 0)), (.p (.bool false)), (.p (.str [])), (.full []), (.p (.int .i64 0)), (.full [])] h15 fun v18 h19 =>
  aStore 8 v18 v17 h19 fun _ h21 =>
  aCall Try.prog (.p (.func runnellaw4_X_i [])) [] h21 fun v22 h23 =>
  aBuildSlice 8 [v22] fun v24 =>
  aBuild [(.p (.str [])), (.p (.int .i64 0)), (.p (.int .i64 0)), (.p (.bool false)), (.p (.str [])), (.full []), (.p (.int .i64 0)), (.full [])] [(0, 1, (.p (.str [97, 116]))), (6, 1, (.p (.int .i64 1))), (7, 1, v24)] fun v25 =>
  aAlloc [(.p (.str [])), (.p (.int .i64 0)), (.p (.int .i64 0)), (.p (.bool false)), (.p (.str [])), (.full []), (.p (.int .i64 0)), (.full [])] h23 fun v26 h27 =>
  aStore 8 v26 v25 h27 fun _ h29 =>
  aAlloc [(.p (.int .i64 0)), (.p (.int .i64 0)), (.p (.bool false)), (.p (.str [])), (.full [])] h29 fun v30 h31 =>
  aLoad true 8 v18 h31 fun v32 =>
  aLoad true 8 v26 h31 fun v33 =>
  aBuildSlice 8 [v32, v33] fun v34 =>
  aCallT Try.prog (.p (.func runnellaw4_Op_i [])) [(.p (.str [97, 100, 100])), v34] fun v35 =>
  aLoad true 5 v10 h31 fun v36 =>
  aCallT Try.prog (.p (.func eval_Eval_i [])) [v35, v36] fun v37 =>
  aExtract v37 0 fun v38 =>
  aExtract v37 1 fun v39 =>
  aStore 5 v30 v38 h31 fun _ h41 =>
  aAlloc [(.p (.int .i64 0)), (.p (.int .i64 0)), (.p (.bool false)), (.p (.str [])), (.full [])] h41 fun v42 h43 =>
  aLoad true 8 v18 h43 fun v44 =>
  aLoad true 8 v26 h43 fun v45 =>
  aBuildSlice 8 [v44, v45] fun v46 =>
  aCallT Try.prog (.p (.func runnellaw4_Op_i [])) [(.p (.str [115, 117, 98])), v46] fun v47 =>
  aLoad true 5 v10 h43 fun v48 =>
  aCallT Try.prog (.p (.func eval_Eval_i [])) [v47, v48] fun v49 =>
  aExtract v49 0 fun v50 =>
  aExtract v49 1 fun v51 =>
  aStore 5 v42 v50 h43 fun _ h53 =>
  aAlloc [(.p (.int .i64 0)), (.p (.int .i64 0)), (.p (.bool false)), (.p (.str [])), (.full [])] h53 fun v54 h55 =>
  aLoad true 8 v18 h55 fun v56 =>
  aLoad true 8 v26 h55 fun v57 =>
  aBuildSlice 8 [v56, v57] fun v58 =>
  aCallT Try.prog (.p (.func runnellaw4_Op_i [])) [(.p (.str [109, 117, 108])), v58] fun v59 =>
  aLoad true 5 v10 h55 fun v60 =>
  aCallT Try.prog (.p (.func eval_Eval_i [])) [v59, v60] fun v61 =>
  aExtract v61 0 fun v62 =>
  aExtract v61 1 fun v63 =>
  aStore 5 v54 v62 h55 fun _ h65 =>
  aAlloc [(.p (.int .i64 0)), (.p (.int .i64 0)), (.p (.bool false)), (.p (.str [])), (.full [])] h65 fun v66 h67 =>
  aLoad true 8 v18 h67 fun v68 =>
  aBuildSlice 8 [v68] fun v69 =>
  aCallT Try.prog (.p (.func runnellaw4_Op_i [])) [(.p (.str [110, 101, 103])), v69] fun v70 =>
  aLoad true 5 v10 h67 fun v71 =>
  aCallT Try.prog (.p (.func eval_Eval_i [])) [v70, v71] fun v72 =>
  aExtract v72 0 fun v73 =>
  aExtract v72 1 fun v74 =>
  aStore 5 v66 v73 h67 fun _ h76 =>
  aAlloc [(.p (.int .i64 0)), (.p (.int .i64 0)), (.p (.bool false)), (.p (.str [])), (.full [])] h76 fun v77 h78 =>
  aLoad true 8 v18 h78 fun v79 =>
  aLoad true 8 v26 h78 fun v80 =>
  aBuildSlice 8 [v79, v80] fun v81 =>
  aCallT Try.prog (.p (.func runnellaw4_Op_i [])) [(.p (.str [100, 105, 118])), v81] fun v82 =>
  aLoad true 5 v10 h78 fun v83 =>
  aCallT Try.prog (.p (.func eval_Eval_i [])) [v82, v83] fun v84 =>
  aExtract v84 0 fun v85 =>
  aExtract v84 1 fun v86 =>
  aStore 5 v77 v85 h78 fun _ h88 =>
  aAlloc [(.p (.int .i64 0)), (.p (.int .i64 0)), (.p (.bool false)), (.p (.str [])), (.full [])] h88 fun v89 h90 =>
  aLoad true 8 v18 h90 fun v91 =>
  aLoad true 8 v26 h90 fun v92 =>
  aBuildSlice 8 [v91, v92] fun v93 =>
  aCallT Try.prog (.p (.func runnellaw4_Op_i [])) [(.p (.str [114, 101, 109])), v93] fun v94 =>
  aLoad true 5 v10 h90 fun v95 =>
  aCallT Try.prog (.p (.func eval_Eval_i [])) [v94, v95] fun v96 =>
  aExtract v96 0 fun v97 =>
  aExtract v96 1 fun v98 =>
  aStore 5 v89 v97 h90 fun _ h100 =>
  aAlloc [(.p (.int .i64 0)), (.p (.int .i64 0)), (.p (.bool false)), (.p (.str [])), (.full [])] h100 fun v101 h102 =>
  aLoad true 8 v18 h102 fun v103 =>
  aLoad true 8 v26 h102 fun v104 =>
  aBuildSlice 8 [v103, v104] fun v105 =>
  aCallT Try.prog (.p (.func runnellaw4_Op_i [])) [(.p (.str [108, 116])), v105] fun v106 =>
  aLoad true 5 v10 h102 fun v107 =>
  aCallT Try.prog (.p (.func eval_Eval_i [])) [v106, v107] fun v108 =>
  aExtract v108 0 fun v109 =>
  aExtract v108 1 fun v110 =>
  aStore 5 v101 v109 h102 fun _ h112 =>
  aBin false false .add v39 v51 fun v113 =>
  aBin false false .add v113 v63 fun v114 =>
  aBin false false .add v114 v74 fun v115 =>
  aBin false false .add v115 v110 fun v116 =>
  aBin false false .neq v116 (.p (.int .i64 0)) fun v117 =>
  aMerge false v117 (fun Q118 =>
  aFieldAddr 1 v30 fun v119 =>
  aLoad false 1 v119 h112 fun v120 =>
  aBin false false .add x0 x1 fun v121 =>
  aBin false false .neq v120 v121 fun v122 =>
  (h112 = h112 ∧ Q118 v122)) fun v123 =>
  aMerge false v123 (fun Q124 =>
  aFieldAddr 1 v42 fun v125 =>
  aLoad false 1 v125 h112 fun v126 =>
  aBin false false .sub x0 x1 fun v127 =>
  aBin false false .neq v126 v127 fun v128 =>
  (h112 = h112 ∧ Q124 v128)) fun v129 =>
  aMerge false v129 (fun Q130 =>
  aFieldAddr 1 v54 fun v131 =>
  aLoad false 1 v131 h112 fun v132 =>
  aBin false false .mul x0 x1 fun v133 =>
  aBin false false .neq v132 v133 fun v134 =>
  (h112 = h112 ∧ Q130 v134)) fun v135 =>
  aMerge false v135 (fun Q136 =>
  aFieldAddr 1 v66 fun v137 =>
  aLoad false 1 v137 h112 fun v138 =>
  aBin false false .sub (.p (.int .i64 0)) x0 fun v139 =>
  aBin false false .neq v138 v139 fun v140 =>
  (h112 = h112 ∧ Q136 v140)) fun v141 =>
  aMerge false v141 (fun Q142 =>
  aFieldAddr 2 v101 fun v143 =>
  aLoad false 1 v143 h112 fun v144 =>
  aBin false false .lss x0 x1 fun v145 =>
  aBin true false .neq v144 v145 fun v146 =>
  (h112 = h112 ∧ Q142 v146)) fun v147 =>
  aGuard v147
  (K (.p (.bool false)) h112)
  (aBin false false .eql x1 (.p (.int .i64 0)) fun v148 =>
  aGuard v148
  (aBin false false .eql v86 (.p (.int .i64 8)) fun v149 =>
  aMerge true v149 (fun Q150 =>
  aBin false false .eql v98 (.p (.int .i64 8)) fun v151 =>
  (h112 = h112 ∧ Q150 v151)) fun v152 =>
  K v152 h112)
  (aBin false false .add v86 v98 fun v153 =>
  aBin false false .eql v153 (.p (.int .i64 0)) fun v154 =>
  aMerge true v154 (fun Q155 =>
  aFieldAddr 1 v77 fun v156 =>
  aLoad false 1 v156 h112 fun v157 =>
  aBin false false .mul v157 x1 fun v158 =>
  aFieldAddr 1 v89 fun v159 =>
  aLoad false 1 v159 h112 fun v160 =>
  aBin false false .add v158 v160 fun v161 =>
  aBin false false .eql v161 x0 fun v162 =>
  (h112 = h112 ∧ Q155 v162)) fun v163 =>
  aMerge true v163 (fun Q164 =>
  aFieldAddr 1 v89 fun v165 =>
  aLoad false 1 v165 h112 fun v166 =>
  aBin false false .eql v166 (.p (.int .i64 0)) fun v167 =>
  aMerge false v167 (fun Q168 =>
  aFieldAddr 1 v89 fun v169 =>
  aLoad false 1 v169 h112 fun v170 =>
  aBin false false .lss v170 (.p (.int .i64 0)) fun v171 =>
  aBin false false .lss x0 (.p (.int .i64 0)) fun v172 =>
  aBin true false .eql v171 v172 fun v173 =>
  (h112 = h112 ∧ Q168 v173)) fun v174 =>
  (h112 = h112 ∧ Q164 v174)) fun v175 =>
  K v175 h112)))

def runnellaw6_EvalNums_ann : Nat → List Nat := fun _ => []

theorem runnellaw6_EvalNums_eq (x0 x1 : AV) (H : List Ob) (r : AV) (Ho : List Ob) : aBody Try.prog runnellaw6_EvalNums_ann Try.f4 H [x0, x1] r Ho = runnellaw6_EvalNums x0 x1 H (fun v H' => Gives H.length v H' r Ho) := by kernel_rfl

theorem runnellaw6_EvalNums_fn {x0 x1 : AV} {r : AV} {Ho : List Ob} (h : runnellaw6_EvalNums x0 x1 [] (fun v H' => Gives 0 v H' r Ho)) : Abs.Fn Try.prog runnellaw6_EvalNums_i [] [x0, x1] r Ho :=
  fn_intro mixed runnellaw6_EvalNums_ann (fn := Try.f4) (by kernel_rfl) (by kernel_rfl) (by rw [runnellaw6_EvalNums_eq]; exact h)

/- runnel/runnellaw6.EvalLazy -/
def runnellaw6_EvalLazy (x0 x1 x2 : AV) (H : List Ob) (K : AV → List Ob → Prop) : Prop :=
  aCall Try.prog (.p (.func runnellaw6_known_i [])) [] H fun v0 h1 =>
  aUn .not v0 fun v2 =>
  aGuard v2
  (K (.p (.bool false)) h1)
  (aCall Try.prog (.p (.func val_Int_i [])) [x2] h1 fun v3 h4 =>
  aCall Try.prog (.p (.func runnellaw4_Lit_i [])) [v3] h4 fun v5 h6 =>
  aCall Try.prog (.p (.func val_Int_i [])) [(.p (.int .i64 0))] h6 fun v7 h8 =>
  aCall Try.prog (.p (.func runnellaw4_Lit_i [])) [v7] h8 fun v9 h10 =>
  aBuildSlice 8 [v5, v9] fun v11 =>
  aCall Try.prog (.p (.func runnellaw4_Op_i [])) [(.p (.str [100, 105, 118])), v11] h10 fun v12 h13 =>
  aCall Try.prog (.p (.func runnellaw4_X_i [])) [] h13 fun v14 h15 =>
  aBuildSlice 8 [v12, v14] fun v16 =>
  aCall Try.prog (.p (.func runnellaw4_Op_i [])) [(.p (.str [101, 113])), v16] h15 fun v17 h18 =>
  aAlloc [(.p (.str [])), (.p (.int .i64 0)), (.p (.int .i64 0)), (.p (.bool false)), (.p (.str [])), (.full []), (.p (.int .i64 0)), (.full [])] h18 fun v19 h20 =>
  aStore 8 v19 v17 h20 fun _ h22 =>
  aCall Try.prog (.p (.func val_Bool_i [])) [x0] h22 fun v23 h24 =>
  aCall Try.prog (.p (.func runnellaw4_Lit_i [])) [v23] h24 fun v25 h26 =>
  aAlloc [(.p (.str [])), (.p (.int .i64 0)), (.p (.int .i64 0)), (.p (.bool false)), (.p (.str [])), (.full []), (.p (.int .i64 0)), (.full [])] h26 fun v27 h28 =>
  aStore 8 v27 v25 h28 fun _ h30 =>
  aCall Try.prog (.p (.func val_Bool_i [])) [x1] h30 fun v31 h32 =>
  aCall Try.prog (.p (.func runnellaw4_Lit_i [])) [v31] h32 fun v33 h34 =>
  aAlloc [(.p (.str [])), (.p (.int .i64 0)), (.p (.int .i64 0)), (.p (.bool false)), (.p (.str [])), (.full []), (.p (.int .i64 0)), (.full [])] h34 fun v35 h36 =>
  aStore 8 v35 v33 h36 fun _ h38 =>
  aCall Try.prog (.p (.func val_Int_i [])) [x2] h38 fun v39 h40 =>
  aAlloc [(.p (.int .i64 0)), (.p (.int .i64 0)), (.p (.bool false)), (.p (.str [])), (.full [])] h40 fun v41 h42 =>
  aStore 5 v41 v39 h42 fun _ h44 =>
  aAlloc [(.p (.int .i64 0)), (.p (.int .i64 0)), (.p (.bool false)), (.p (.str [])), (.full [])] h44 fun v45 h46 =>
  aLoad true 8 v27 h46 fun v47 =>
  aLoad true 8 v35 h46 fun v48 =>
  aBuildSlice 8 [v47, v48] fun v49 =>
  aCallT Try.prog (.p (.func runnellaw4_Op_i [])) [(.p (.str [97, 110, 100])), v49] fun v50 =>
  aLoad true 5 v41 h46 fun v51 =>
  aCallT Try.prog (.p (.func eval_Eval_i [])) [v50, v51] fun v52 =>
  aExtract v52 0 fun v53 =>
  aExtract v52 1 fun v54 =>
  aStore 5 v45 v53 h46 fun _ h56 =>
  aAlloc [(.p (.int .i64 0)), (.p (.int .i64 0)), (.p (.bool false)), (.p (.str [])), (.full [])] h56 fun v57 h58 =>
  aLoad true 8 v27 h58 fun v59 =>
  aLoad true 8 v35 h58 fun v60 =>
  aBuildSlice 8 [v59, v60] fun v61 =>
  aCallT Try.prog (.p (.func runnellaw4_Op_i [])) [(.p (.str [111, 114])), v61] fun v62 =>
  aLoad true 5 v41 h58 fun v63 =>
  aCallT Try.prog (.p (.func eval_Eval_i [])) [v62, v63] fun v64 =>
  aExtract v64 0 fun v65 =>
  aExtract v64 1 fun v66 =>
  aStore 5 v57 v65 h58 fun _ h68 =>
  aAlloc [(.p (.int .i64 0)), (.p (.int .i64 0)), (.p (.bool false)), (.p (.str [])), (.full [])] h68 fun v69 h70 =>
  aLoad true 8 v27 h70 fun v71 =>
  aLoad true 8 v19 h70 fun v72 =>
  aBuildSlice 8 [v71, v72] fun v73 =>
  aCallT Try.prog (.p (.func runnellaw4_Op_i [])) [(.p (.str [97, 110, 100])), v73] fun v74 =>
  aLoad true 5 v41 h70 fun v75 =>
  aCallT Try.prog (.p (.func eval_Eval_i [])) [v74, v75] fun v76 =>
  aExtract v76 0 fun v77 =>
  aExtract v76 1 fun v78 =>
  aStore 5 v69 v77 h70 fun _ h80 =>
  aAlloc [(.p (.int .i64 0)), (.p (.int .i64 0)), (.p (.bool false)), (.p (.str [])), (.full [])] h80 fun v81 h82 =>
  aLoad true 8 v27 h82 fun v83 =>
  aLoad true 8 v19 h82 fun v84 =>
  aBuildSlice 8 [v83, v84] fun v85 =>
  aCallT Try.prog (.p (.func runnellaw4_Op_i [])) [(.p (.str [111, 114])), v85] fun v86 =>
  aLoad true 5 v41 h82 fun v87 =>
  aCallT Try.prog (.p (.func eval_Eval_i [])) [v86, v87] fun v88 =>
  aExtract v88 0 fun v89 =>
  aExtract v88 1 fun v90 =>
  aStore 5 v81 v89 h82 fun _ h92 =>
  aAlloc [(.p (.int .i64 0)), (.p (.int .i64 0)), (.p (.bool false)), (.p (.str [])), (.full [])] h92 fun v93 h94 =>
  aLoad true 8 v27 h94 fun v95 =>
  aLoad true 8 v35 h94 fun v96 =>
  aLoad true 8 v19 h94 fun v97 =>
  aBuildSlice 8 [v95, v96, v97] fun v98 =>
  aCallT Try.prog (.p (.func runnellaw4_Op_i [])) [(.p (.str [105, 102])), v98] fun v99 =>
  aLoad true 5 v41 h94 fun v100 =>
  aCallT Try.prog (.p (.func eval_Eval_i [])) [v99, v100] fun v101 =>
  aExtract v101 0 fun v102 =>
  aExtract v101 1 fun v103 =>
  aStore 5 v93 v102 h94 fun _ h105 =>
  aBin false false .add v54 v66 fun v106 =>
  aBin false false .neq v106 (.p (.int .i64 0)) fun v107 =>
  aMerge false v107 (fun Q108 =>
  aFieldAddr 2 v45 fun v109 =>
  aLoad false 1 v109 h105 fun v110 =>
  aMerge true x0 (fun Q111 =>
  (h105 = h105 ∧ Q111 x1)) fun v112 =>
  aBin true false .neq v110 v112 fun v113 =>
  (h105 = h105 ∧ Q108 v113)) fun v114 =>
  aMerge false v114 (fun Q115 =>
  aFieldAddr 2 v57 fun v116 =>
  aLoad false 1 v116 h105 fun v117 =>
  aMerge false x0 (fun Q118 =>
  (h105 = h105 ∧ Q118 x1)) fun v119 =>
  aBin true false .neq v117 v119 fun v120 =>
  (h105 = h105 ∧ Q115 v120)) fun v121 =>
  aGuard v121
  (K (.p (.bool false)) h105)
  (aGuard x0
  (aBin false false .eql v78 (.p (.int .i64 8)) fun v122 =>
  aMerge true v122 (fun Q123 =>
  aBin false false .eql v90 (.p (.int .i64 0)) fun v124 =>
  (h105 = h105 ∧ Q123 v124)) fun v125 =>
  aMerge true v125 (fun Q126 =>
  aFieldAddr 2 v81 fun v127 =>
  aLoad false 1 v127 h105 fun v128 =>
  (h105 = h105 ∧ Q126 v128)) fun v129 =>
  aMerge true v129 (fun Q130 =>
  aBin false false .eql v103 (.p (.int .i64 0)) fun v131 =>
  (h105 = h105 ∧ Q130 v131)) fun v132 =>
  aMerge true v132 (fun Q133 =>
  aFieldAddr 2 v93 fun v134 =>
  aLoad false 1 v134 h105 fun v135 =>
  aBin true false .eql v135 x1 fun v136 =>
  (h105 = h105 ∧ Q133 v136)) fun v137 =>
  K v137 h105)
  (aBin false false .eql v78 (.p (.int .i64 0)) fun v138 =>
  aMerge true v138 (fun Q139 =>
  aFieldAddr 2 v69 fun v140 =>
  aLoad false 1 v140 h105 fun v141 =>
  aUn .not v141 fun v142 =>
  (h105 = h105 ∧ Q139 v142)) fun v143 =>
  aMerge true v143 (fun Q144 =>
  aBin false false .eql v90 (.p (.int .i64 8)) fun v145 =>
  (h105 = h105 ∧ Q144 v145)) fun v146 =>
  aMerge true v146 (fun Q147 =>
  aBin false false .eql v103 (.p (.int .i64 8)) fun v148 =>
  (h105 = h105 ∧ Q147 v148)) fun v149 =>
  K v149 h105)))

def runnellaw6_EvalLazy_ann : Nat → List Nat := fun _ => []

theorem runnellaw6_EvalLazy_eq (x0 x1 x2 : AV) (H : List Ob) (r : AV) (Ho : List Ob) : aBody Try.prog runnellaw6_EvalLazy_ann Try.f5 H [x0, x1, x2] r Ho = runnellaw6_EvalLazy x0 x1 x2 H (fun v H' => Gives H.length v H' r Ho) := by kernel_rfl

theorem runnellaw6_EvalLazy_fn {x0 x1 x2 : AV} {r : AV} {Ho : List Ob} (h : runnellaw6_EvalLazy x0 x1 x2 [] (fun v H' => Gives 0 v H' r Ho)) : Abs.Fn Try.prog runnellaw6_EvalLazy_i [] [x0, x1, x2] r Ho :=
  fn_intro mixed runnellaw6_EvalLazy_ann (fn := Try.f5) (by kernel_rfl) (by kernel_rfl) (by rw [runnellaw6_EvalLazy_eq]; exact h)

/- runnel/runnellaw6.EvalTexts -/
def runnellaw6_EvalTexts (x0 x1 : AV) (H : List Ob) (K : AV → List Ob → Prop) : Prop :=
  aCall Try.prog (.p (.func runnellaw6_known_i [])) [] H fun v0 h1 =>
  aUn .not v0 fun v2 =>
  aGuard v2
  (K (.p (.bool false)) h1)
  (aLen false true x0 fun v3 =>
  aBin false false .gtr v3 (.p (.int .i64 255)) fun v4 =>
  aMerge false v4 (fun Q5 =>
  aLenS true x1 fun v6 =>
  aBin false false .gtr v6 (.p (.int .i64 255)) fun v7 =>
  (h1 = h1 ∧ Q5 v7)) fun v8 =>
  aGuard v8
  (K (.p (.bool true)) h1)
  (aCall Try.prog (.p (.func val_Str_i [])) [x0] h1 fun v9 h10 =>
  aCall Try.prog (.p (.func val_Str_i [])) [x1] h10 fun v11 h12 =>
  aBuildSlice 5 [v9, v11] fun v13 =>
  aCall Try.prog (.p (.func val_Tup_i [])) [v13] h12 fun v14 h15 =>
  aAlloc [(.p (.int .i64 0)), (.p (.int .i64 0)), (.p (.bool false)), (.p (.str [])), (.full [])] h15 fun v16 h17 =>
  aStore 5 v16 v14 h17 fun _ h19 =>
  aCall Try.prog (.p (.func runnellaw4_X_i [])) [] h19 fun v20 h21 =>
  aBuildSlice 8 [v20] fun v22 =>
  aBuild [(.p (.str [])), (.p (.int .i64 0)), (.p (.int .i64 0)), (.p (.bool false)), (.p (.str [])), (.full []), (.p (.int .i64 0)), (.full [])] [(0, 1, (.p (.str [97, 116]))), (7, 1, v22)] fun v23 =>
  aAlloc [(.p (.str [])), (.p (.int .i64 0)), (.p (.int .i64 0)), (.p (.bool false)), (.p (.str [])), (.full []), (.p (.int .i64 0)), (.full [])] h21 fun v24 h25 =>
  aStore 8 v24 v23 h25 fun _ h27 =>
  aCall Try.prog (.p (.func runnellaw4_X_i [])) [] h27 fun v28 h29 =>
  aBuildSlice 8 [v28] fun v30 =>
  aBuild [(.p (.str [])), (.p (.int .i64 0)), (.p (.int .i64 0)), (.p (.bool false)), (.p (.str [])), (.full []), (.p (.int .i64 0)), (.full [])] [(0, 1, (.p (.str [97, 116]))), (6, 1, (.p (.int .i64 1))), (7, 1, v30)] fun v31 =>
  aAlloc [(.p (.str [])), (.p (.int .i64 0)), (.p (.int .i64 0)), (.p (.bool false)), (.p (.str [])), (.full []), (.p (.int .i64 0)), (.full [])] h29 fun v32 h33 =>
  aStore 8 v32 v31 h33 fun _ h35 =>
  aAlloc [(.p (.int .i64 0)), (.p (.int .i64 0)), (.p (.bool false)), (.p (.str [])), (.full [])] h35 fun v36 h37 =>
  aLoad true 8 v24 h37 fun v38 =>
  aLoad true 8 v32 h37 fun v39 =>
  aBuildSlice 8 [v38, v39] fun v40 =>
  aCallT Try.prog (.p (.func runnellaw4_Op_i [])) [(.p (.str [99, 97, 116])), v40] fun v41 =>
  aLoad true 5 v16 h37 fun v42 =>
  aCallT Try.prog (.p (.func eval_Eval_i [])) [v41, v42] fun v43 =>
  aExtract v43 0 fun v44 =>
  aExtract v43 1 fun v45 =>
  aStore 5 v36 v44 h37 fun _ h47 =>
  aAlloc [(.p (.int .i64 0)), (.p (.int .i64 0)), (.p (.bool false)), (.p (.str [])), (.full [])] h47 fun v48 h49 =>
  aLoad true 8 v24 h49 fun v50 =>
  aBuildSlice 8 [v50] fun v51 =>
  aCallT Try.prog (.p (.func runnellaw4_Op_i [])) [(.p (.str [108, 101, 110])), v51] fun v52 =>
  aLoad true 5 v16 h49 fun v53 =>
  aCallT Try.prog (.p (.func eval_Eval_i [])) [v52, v53] fun v54 =>
  aExtract v54 0 fun v55 =>
  aExtract v54 1 fun v56 =>
  aStore 5 v48 v55 h49 fun _ h58 =>
  aAlloc [(.p (.int .i64 0)), (.p (.int .i64 0)), (.p (.bool false)), (.p (.str [])), (.full [])] h58 fun v59 h60 =>
  aLoad true 8 v24 h60 fun v61 =>
  aLoad true 8 v32 h60 fun v62 =>
  aBuildSlice 8 [v61, v62] fun v63 =>
  aCallT Try.prog (.p (.func runnellaw4_Op_i [])) [(.p (.str [108, 116])), v63] fun v64 =>
  aLoad true 5 v16 h60 fun v65 =>
  aCallT Try.prog (.p (.func eval_Eval_i [])) [v64, v65] fun v66 =>
  aExtract v66 0 fun v67 =>
  aExtract v66 1 fun v68 =>
  aStore 5 v59 v67 h60 fun _ h70 =>
  aAlloc [(.p (.int .i64 0)), (.p (.int .i64 0)), (.p (.bool false)), (.p (.str [])), (.full [])] h70 fun v71 h72 =>
  aLoad true 8 v24 h72 fun v73 =>
  aLoad true 8 v32 h72 fun v74 =>
  aBuildSlice 8 [v73, v74] fun v75 =>
  aCallT Try.prog (.p (.func runnellaw4_Op_i [])) [(.p (.str [101, 113])), v75] fun v76 =>
  aLoad true 5 v16 h72 fun v77 =>
  aCallT Try.prog (.p (.func eval_Eval_i [])) [v76, v77] fun v78 =>
  aExtract v78 0 fun v79 =>
  aExtract v78 1 fun v80 =>
  aStore 5 v71 v79 h72 fun _ h82 =>
  aBin false false .add v56 v68 fun v83 =>
  aBin false false .add v83 v80 fun v84 =>
  aBin false false .neq v84 (.p (.int .i64 0)) fun v85 =>
  aMerge false v85 (fun Q86 =>
  aFieldAddr 1 v48 fun v87 =>
  aLoad false 1 v87 h82 fun v88 =>
  aLenS true x0 fun v89 =>
  aBin false false .neq v88 v89 fun v90 =>
  (h82 = h82 ∧ Q86 v90)) fun v91 =>
  aMerge false v91 (fun Q92 =>
  aFieldAddr 2 v59 fun v93 =>
  aLoad false 1 v93 h82 fun v94 =>
  aBin false false .lss x0 x1 fun v95 =>
  aBin true false .neq v94 v95 fun v96 =>
  (h82 = h82 ∧ Q92 v96)) fun v97 =>
  aMerge false v97 (fun Q98 =>
  aFieldAddr 2 v71 fun v99 =>
  aLoad false 1 v99 h82 fun v100 =>
  aBin false false .eql x0 x1 fun v101 =>
  aBin true false .neq v100 v101 fun v102 =>
  (h82 = h82 ∧ Q98 v102)) fun v103 =>
  aGuard v103
  (K (.p (.bool false)) h82)
  (aLen false true x0 fun v104 =>
  aLen false true x1 fun v105 =>
  aBin false false .add v104 v105 fun v106 =>
  aBin false false .gtr v106 (.p (.int .i64 255)) fun v107 =>
  aGuard v107
  (aBin false false .eql v45 (.p (.int .i64 4)) fun v108 =>
  K v108 h82)
  (aBin false false .eql v45 (.p (.int .i64 0)) fun v109 =>
  aMerge true v109 (fun Q110 =>
  aFieldAddr 3 v36 fun v111 =>
  aLoad false 1 v111 h82 fun v112 =>
  aBin false false .add x0 x1 fun v113 =>
  aBin false false .eql v112 v113 fun v114 =>
  (h82 = h82 ∧ Q110 v114)) fun v115 =>
  K v115 h82))))

def runnellaw6_EvalTexts_ann : Nat → List Nat := fun _ => []

theorem runnellaw6_EvalTexts_eq (x0 x1 : AV) (H : List Ob) (r : AV) (Ho : List Ob) : aBody Try.prog runnellaw6_EvalTexts_ann Try.f6 H [x0, x1] r Ho = runnellaw6_EvalTexts x0 x1 H (fun v H' => Gives H.length v H' r Ho) := by kernel_rfl

theorem runnellaw6_EvalTexts_fn {x0 x1 : AV} {r : AV} {Ho : List Ob} (h : runnellaw6_EvalTexts x0 x1 [] (fun v H' => Gives 0 v H' r Ho)) : Abs.Fn Try.prog runnellaw6_EvalTexts_i [] [x0, x1] r Ho :=
  fn_intro mixed runnellaw6_EvalTexts_ann (fn := Try.f6) (by kernel_rfl) (by kernel_rfl) (by rw [runnellaw6_EvalTexts_eq]; exact h)

/- runnel/runnellaw6.EvalParts -/
def runnellaw6_EvalParts_L2 (q2s0 q2s4 q2s5 y0 : AV) (H : List Ob) (B2 : List AV → List Ob → Prop) (K : AV → List Ob → Prop) : Prop :=
  aLen false false q2s0 fun v34 =>
  aBin false false .lss y0 v34 fun v35 =>
  aGuard v35
  (aCall Try.prog (.p (.func runnellaw4_X_i [])) [] H fun v36 h37 =>
  aBuildSlice 8 [v36] fun v38 =>
  aBuild [(.p (.str [])), (.p (.int .i64 0)), (.p (.int .i64 0)), (.p (.bool false)), (.p (.str [])), (.full []), (.p (.int .i64 0)), (.full [])] [(0, 1, (.p (.str [97, 116]))), (6, 1, y0), (7, 1, v38)] fun v39 =>
  aAlloc [(.p (.str [])), (.p (.int .i64 0)), (.p (.int .i64 0)), (.p (.bool false)), (.p (.str [])), (.full []), (.p (.int .i64 0)), (.full [])] h37 fun v40 h41 =>
  aStore 8 v40 v39 h41 fun _ h43 =>
  aLoad true 8 v40 h43 fun v44 =>
  aLoad true 5 q2s4 h43 fun v45 =>
  aCall Try.prog (.p (.func eval_Eval_i [])) [v44, v45] h43 fun v46 h47 =>
  aExtract v46 0 fun v48 =>
  aExtract v46 1 fun v49 =>
  aAlloc [(.p (.int .i64 0)), (.p (.int .i64 0)), (.p (.bool false)), (.p (.str [])), (.full [])] h47 fun v50 h51 =>
  aStore 5 v50 v48 h51 fun _ h53 =>
  aBin false false .neq v49 (.p (.int .i64 0)) fun v54 =>
  aGuard v54
  (K (.p (.bool false)) h53)
  (aLoad true 5 v50 h53 fun v55 =>
  aIndexAddr 5 q2s0 y0 fun v56 =>
  aLoad true 5 v56 h53 fun v57 =>
  aCallT Try.prog (.p (.func val_Same_i [])) [v55, v57] fun v58 =>
  aUn .not v58 fun v59 =>
  aGuard v59
  (K (.p (.bool false)) h53)
  (aFieldAddr 7 q2s5 fun v60 =>
  aLoad false 1 v60 h53 fun v61 =>
  aLoad true 8 v40 h53 fun v62 =>
  aBuildSlice 8 [v62] fun v63 =>
  aAppend false 8 112 v61 v63 h53 fun v64 h65 =>
  aFieldAddr 7 q2s5 fun v66 =>
  aStore 1 v66 v64 h65 fun _ h68 =>
  aBin false false .add y0 (.p (.int .i64 1)) fun v69 =>
  B2 [v69] h68)))
  (aLoad true 8 q2s5 H fun v70 =>
  aLoad true 5 q2s4 H fun v71 =>
  aCall Try.prog (.p (.func eval_Eval_i [])) [v70, v71] H fun v72 h73 =>
  aExtract v72 0 fun v74 =>
  aExtract v72 1 fun v75 =>
  aAlloc [(.p (.int .i64 0)), (.p (.int .i64 0)), (.p (.bool false)), (.p (.str [])), (.full [])] h73 fun v76 h77 =>
  aStore 5 v76 v74 h77 fun _ h79 =>
  aAlloc [(.p (.int .i64 0)), (.p (.int .i64 0)), (.p (.bool false)), (.p (.str [])), (.full [])] h79 fun v80 h81 =>
  aLoad true 8 q2s5 h81 fun v82 =>
  aCallT Try.prog (.p (.func runnellaw4_X_i [])) [] fun v83 =>
  aBuildSlice 8 [v82, v83] fun v84 =>
  aCallT Try.prog (.p (.func runnellaw4_Op_i [])) [(.p (.str [101, 113])), v84] fun v85 =>
  aLoad true 5 q2s4 h81 fun v86 =>
  aCallT Try.prog (.p (.func eval_Eval_i [])) [v85, v86] fun v87 =>
  aExtract v87 0 fun v88 =>
  aExtract v87 1 fun v89 =>
  aStore 5 v80 v88 h81 fun _ h91 =>
  aBin false false .add v75 v89 fun v92 =>
  aBin false false .eql v92 (.p (.int .i64 0)) fun v93 =>
  aMerge true v93 (fun Q94 =>
  aLoad true 5 v76 h91 fun v95 =>
  aLoad true 5 q2s4 h91 fun v96 =>
  aCall Try.prog (.p (.func val_Same_i [])) [v95, v96] h91 fun v97 h98 =>
  (h98 = h91 ∧ Q94 v97)) fun v99 =>
  aMerge true v99 (fun Q100 =>
  aFieldAddr 2 v80 fun v101 =>
  aLoad false 1 v101 h91 fun v102 =>
  (h91 = h91 ∧ Q100 v102)) fun v103 =>
  K v103 h91)

def runnellaw6_EvalParts_L1 (q1s0 y0 : AV) (H : List Ob) (B1 : List AV → List Ob → Prop) (K : AV → List Ob → Prop) : Prop :=
  aLen false false q1s0 fun v9 =>
  aBin false false .lss y0 v9 fun v10 =>
  aGuard v10
  (aIndexAddr 5 q1s0 y0 fun v11 =>
  aLoad true 5 v11 H fun v12 =>
  aCall Try.prog (.p (.func runnellaw2_Good_i [])) [v12] H fun v13 h14 =>
  aUn .not v13 fun v15 =>
  aGuard v15
  (K (.p (.bool true)) h14)
  (aBin false false .add y0 (.p (.int .i64 1)) fun v16 =>
  B1 [v16] h14))
  (aCall Try.prog (.p (.func val_Tup_i [])) [q1s0] H fun v17 h18 =>
  aAlloc [(.p (.int .i64 0)), (.p (.int .i64 0)), (.p (.bool false)), (.p (.str [])), (.full [])] h18 fun v19 h20 =>
  aStore 5 v19 v17 h20 fun _ h22 =>
  aLoad true 5 v19 h22 fun v23 =>
  aCall Try.prog (.p (.func runnellaw2_Of_i [])) [v23] h22 fun v24 h25 =>
  aCall Try.prog (.p (.func runnelref6_CheckValue_i [])) [v24] h25 fun v26 h27 =>
  aBin false false .neq v26 (.p (.int .i64 0)) fun v28 =>
  aGuard v28
  (K (.p (.bool true)) h27)
  (aBuild [(.p (.str [])), (.p (.int .i64 0)), (.p (.int .i64 0)), (.p (.bool false)), (.p (.str [])), (.full []), (.p (.int .i64 0)), (.full [])] [(0, 1, (.p (.str [116, 117, 112])))] fun v29 =>
  aAlloc [(.p (.str [])), (.p (.int .i64 0)), (.p (.int .i64 0)), (.p (.bool false)), (.p (.str [])), (.full []), (.p (.int .i64 0)), (.full [])] h27 fun v30 h31 =>
  aStore 8 v30 v29 h31 fun _ h33 =>
  aLoopN 1 [(.p (.int .i64 0))] h33 fun xs H B2 => runnellaw6_EvalParts_L2 q1s0 v19 v30 (xs.getD 0 .top) H B2 K))

def runnellaw6_EvalParts (x0 : AV) (H : List Ob) (K : AV → List Ob → Prop) : Prop :=
  aCall Try.prog (.p (.func runnellaw6_known_i [])) [] H fun v0 h1 =>
  aUn .not v0 fun v2 =>
  aGuard v2
  (K (.p (.bool false)) h1)
  (aLen false false x0 fun v3 =>
  aBin false false .lss v3 (.p (.int .i64 1)) fun v4 =>
  aMerge false v4 (fun Q5 =>
  aLenS false x0 fun v6 =>
  aBin false false .gtr v6 (.p (.int .i64 8)) fun v7 =>
  (h1 = h1 ∧ Q5 v7)) fun v8 =>
  aGuard v8
  (K (.p (.bool true)) h1)
  (aLoopN 1 [(.p (.int .i64 0))] h1 fun xs H B1 => runnellaw6_EvalParts_L1 x0 (xs.getD 0 .top) H B1 K))

def runnellaw6_EvalParts_ann : Nat → List Nat := fun k => match k with | 6 => [3] | 15 => [6] | _ => []

theorem runnellaw6_EvalParts_eq (x0 : AV) (H : List Ob) (r : AV) (Ho : List Ob) : aBody Try.prog runnellaw6_EvalParts_ann Try.f7 H [x0] r Ho = runnellaw6_EvalParts x0 H (fun v H' => Gives H.length v H' r Ho) := by kernel_rfl

theorem runnellaw6_EvalParts_fn {x0 : AV} {r : AV} {Ho : List Ob} (h : runnellaw6_EvalParts x0 [] (fun v H' => Gives 0 v H' r Ho)) : Abs.Fn Try.prog runnellaw6_EvalParts_i [] [x0] r Ho :=
  fn_intro mixed runnellaw6_EvalParts_ann (fn := Try.f7) (by kernel_rfl) (by kernel_rfl) (by rw [runnellaw6_EvalParts_eq]; exact h)

/- runnel/runnellaw6.known -/
def runnellaw6_known (H : List Ob) (K : AV → List Ob → Prop) : Prop :=
  aCall Try.prog (.p (.func val_Int_i [])) [(.p (.int .i64 9223372036854775807))] H fun v0 h1 =>
  aAlloc [(.p (.int .i64 0)), (.p (.int .i64 0)), (.p (.bool false)), (.p (.str [])), (.full [])] h1 fun v2 h3 =>
  aStore 5 v2 v0 h3 fun _ h5 =>
  aAlloc [(.p (.int .i64 0)), (.p (.int .i64 0)), (.p (.bool false)), (.p (.str [])), (.full [])] h5 fun v6 h7 =>
  aCallT Try.prog (.p (.func runnellaw4_X_i [])) [] fun v8 =>
  aCallT Try.prog (.p (.func val_Int_i [])) [(.p (.int .i64 1))] fun v9 =>
  aCallT Try.prog (.p (.func runnellaw4_Lit_i [])) [v9] fun v10 =>
  aBuildSlice 8 [v8, v10] fun v11 =>
  aCallT Try.prog (.p (.func runnellaw4_Op_i [])) [(.p (.str [97, 100, 100])), v11] fun v12 =>
  aLoad true 5 v2 h7 fun v13 =>
  aCallT Try.prog (.p (.func eval_Eval_i [])) [v12, v13] fun v14 =>
  aExtract v14 0 fun v15 =>
  aExtract v14 1 fun v16 =>
  aStore 5 v6 v15 h7 fun _ h18 =>
  aCall Try.prog (.p (.func runnellaw4_X_i [])) [] h18 fun v19 h20 =>
  aCall Try.prog (.p (.func val_Int_i [])) [(.p (.int .i64 0))] h20 fun v21 h22 =>
  aCall Try.prog (.p (.func runnellaw4_Lit_i [])) [v21] h22 fun v23 h24 =>
  aBuildSlice 8 [v19, v23] fun v25 =>
  aCall Try.prog (.p (.func runnellaw4_Op_i [])) [(.p (.str [100, 105, 118])), v25] h24 fun v26 h27 =>
  aCall Try.prog (.p (.func runnellaw4_X_i [])) [] h27 fun v28 h29 =>
  aBuildSlice 8 [v26, v28] fun v30 =>
  aCall Try.prog (.p (.func runnellaw4_Op_i [])) [(.p (.str [101, 113])), v30] h29 fun v31 h32 =>
  aAlloc [(.p (.str [])), (.p (.int .i64 0)), (.p (.int .i64 0)), (.p (.bool false)), (.p (.str [])), (.full []), (.p (.int .i64 0)), (.full [])] h32 fun v33 h34 =>
  aStore 8 v33 v31 h34 fun _ h36 =>
  aAlloc [(.p (.int .i64 0)), (.p (.int .i64 0)), (.p (.bool false)), (.p (.str [])), (.full [])] h36 fun v37 h38 =>
  aCallT Try.prog (.p (.func val_Bool_i [])) [(.p (.bool false))] fun v39 =>
  aCallT Try.prog (.p (.func runnellaw4_Lit_i [])) [v39] fun v40 =>
  aLoad true 8 v33 h38 fun v41 =>
  aBuildSlice 8 [v40, v41] fun v42 =>
  aCallT Try.prog (.p (.func runnellaw4_Op_i [])) [(.p (.str [97, 110, 100])), v42] fun v43 =>
  aLoad true 5 v2 h38 fun v44 =>
  aCallT Try.prog (.p (.func eval_Eval_i [])) [v43, v44] fun v45 =>
  aExtract v45 0 fun v46 =>
  aExtract v45 1 fun v47 =>
  aStore 5 v37 v46 h38 fun _ h49 =>
  aLoad true 8 v33 h49 fun v50 =>
  aLoad true 5 v2 h49 fun v51 =>
  aCall Try.prog (.p (.func eval_Eval_i [])) [v50, v51] h49 fun v52 h53 =>
  aExtract v52 0 fun v54 =>
  aExtract v52 1 fun v55 =>
  aAlloc [(.p (.int .i64 0)), (.p (.int .i64 0)), (.p (.bool false)), (.p (.str [])), (.full [])] h53 fun v56 h57 =>
  aStore 5 v56 v54 h57 fun _ h59 =>
  aAlloc [(.p (.int .i64 0)), (.p (.int .i64 0)), (.p (.bool false)), (.p (.str [])), (.full [])] h59 fun v60 h61 =>
  aCallT Try.prog (.p (.func val_Int_i [])) [(.p (.int .i64 (-9223372036854775808)))] fun v62 =>
  aCallT Try.prog (.p (.func runnellaw4_Lit_i [])) [v62] fun v63 =>
  aCallT Try.prog (.p (.func val_Int_i [])) [(.p (.int .i64 (-1)))] fun v64 =>
  aCallT Try.prog (.p (.func runnellaw4_Lit_i [])) [v64] fun v65 =>
  aBuildSlice 8 [v63, v65] fun v66 =>
  aCallT Try.prog (.p (.func runnellaw4_Op_i [])) [(.p (.str [100, 105, 118])), v66] fun v67 =>
  aLoad true 5 v2 h61 fun v68 =>
  aCallT Try.prog (.p (.func eval_Eval_i [])) [v67, v68] fun v69 =>
  aExtract v69 0 fun v70 =>
  aExtract v69 1 fun v71 =>
  aStore 5 v60 v70 h61 fun _ h73 =>
  aBin false false .add v16 v47 fun v74 =>
  aBin false false .add v74 v71 fun v75 =>
  aBin false false .eql v75 (.p (.int .i64 0)) fun v76 =>
  aMerge true v76 (fun Q77 =>
  aFieldAddr 1 v6 fun v78 =>
  aLoad false 1 v78 h73 fun v79 =>
  aBin false false .eql v79 (.p (.int .i64 (-9223372036854775808))) fun v80 =>
  (h73 = h73 ∧ Q77 v80)) fun v81 =>
  aMerge true v81 (fun Q82 =>
  aFieldAddr 2 v37 fun v83 =>
  aLoad false 1 v83 h73 fun v84 =>
  aUn .not v84 fun v85 =>
  (h73 = h73 ∧ Q82 v85)) fun v86 =>
  aMerge true v86 (fun Q87 =>
  aFieldAddr 0 v37 fun v88 =>
  aLoad false 1 v88 h73 fun v89 =>
  aBin false false .eql v89 (.p (.int .i64 2)) fun v90 =>
  (h73 = h73 ∧ Q87 v90)) fun v91 =>
  aMerge true v91 (fun Q92 =>
  aBin false false .eql v55 (.p (.int .i64 8)) fun v93 =>
  (h73 = h73 ∧ Q92 v93)) fun v94 =>
  aMerge true v94 (fun Q95 =>
  aFieldAddr 1 v60 fun v96 =>
  aLoad false 1 v96 h73 fun v97 =>
  aBin false false .eql v97 (.p (.int .i64 (-9223372036854775808))) fun v98 =>
  (h73 = h73 ∧ Q95 v98)) fun v99 =>
  K v99 h73

def runnellaw6_known_ann : Nat → List Nat := fun _ => []

theorem runnellaw6_known_eq (H : List Ob) (r : AV) (Ho : List Ob) : aBody Try.prog runnellaw6_known_ann Try.f16 H [] r Ho = runnellaw6_known H (fun v H' => Gives H.length v H' r Ho) := by kernel_rfl

theorem runnellaw6_known_fn {r : AV} {Ho : List Ob} (h : runnellaw6_known [] (fun v H' => Gives 0 v H' r Ho)) : Abs.Fn Try.prog runnellaw6_known_i [] [] r Ho :=
  fn_intro mixed runnellaw6_known_ann (fn := Try.f16) (by kernel_rfl) (by kernel_rfl) (by rw [runnellaw6_known_eq]; exact h)

end Go.Proofs.Ytiejfphchpcldaa
