/- Made by program (Gen.lean): functions of the dump, over trees. -/
import Derived.Test.YtiejfphchpcldaaShIds
set_option maxRecDepth 4000
set_option linter.unusedVariables false
namespace Go.Proofs.Ytiejfphchpcldaa
open Go Go.Abs

/- runnel/eval.Eval -/
def eval_Eval (x0 x1 : AV) (H : List Ob) (K : AV → List Ob → Prop) : Prop :=
  aBox x0 H fun v0 h1 =>
  aBox x1 h1 fun v2 h3 =>
  aAlloc [(.p (.int .i64 0)), (.p (.int .i64 0)), (.p (.bool false)), (.p (.str [])), (.full [])] h3 fun v4 h5 =>
  aFieldAddr 0 v0 fun v6 =>
  aLoad false 1 v6 h5 fun v7 =>
  aBin false false .eql v7 (.p (.str [108, 105, 116])) fun v8 =>
  aGuard v8
  (aFieldAddr 1 v0 fun v9 =>
  aLoad true 5 v9 h5 fun v10 =>
  aStore 5 v4 v10 h5 fun _ h12 =>
  aLoad true 5 v4 h12 fun v13 =>
  K (.tup [v13, (.p (.int .i64 0))]) h12)
  (aBin false false .eql v7 (.p (.str [120])) fun v14 =>
  aGuard v14
  (aLoad true 5 v2 h5 fun v15 =>
  aStore 5 v4 v15 h5 fun _ h17 =>
  aLoad true 5 v4 h17 fun v18 =>
  K (.tup [v18, (.p (.int .i64 0))]) h17)
  (aBin false false .eql v7 (.p (.str [97, 110, 100])) fun v19 =>
  aMerge false v19 (fun Q20 =>
  aBin false false .eql v7 (.p (.str [111, 114])) fun v21 =>
  aMerge false v21 (fun Q22 =>
  aBin false false .eql v7 (.p (.str [105, 102])) fun v23 =>
  (h5 = h5 ∧ Q22 v23)) fun v24 =>
  (h5 = h5 ∧ Q20 v24)) fun v25 =>
  aGuard v25
  (aAlloc [(.p (.int .i64 0)), (.p (.int .i64 0)), (.p (.bool false)), (.p (.str [])), (.full [])] h5 fun v26 h27 =>
  aFieldAddr 7 v0 fun v28 =>
  aLoad false 1 v28 h27 fun v29 =>
  aIndexAddr 8 v29 (.p (.int .i64 0)) fun v30 =>
  aLoad true 8 v30 h27 fun v31 =>
  aLoad true 5 v2 h27 fun v32 =>
  aCallT Try.prog (.p (.func eval_Eval_i [])) [v31, v32] fun v33 =>
  aExtract v33 0 fun v34 =>
  aExtract v33 1 fun v35 =>
  aStore 5 v26 v34 h27 fun _ h37 =>
  aLoad true 8 v0 h37 fun v38 =>
  aLoad true 5 v26 h37 fun v39 =>
  aCall Try.prog (.p (.func eval_choose_i [])) [v38, v39] h37 fun v40 h41 =>
  aBin false false .eql v35 (.p (.int .i64 0)) fun v42 =>
  aMerge true v42 (fun Q43 =>
  aBin false false .gtr v40 (.p (.int .i64 0)) fun v44 =>
  (h41 = h41 ∧ Q43 v44)) fun v45 =>
  aGuard v45
  (aFieldAddr 7 v0 fun v46 =>
  aLoad false 1 v46 h41 fun v47 =>
  aIndexAddr 8 v47 v40 fun v48 =>
  aLoad true 8 v48 h41 fun v49 =>
  aLoad true 5 v2 h41 fun v50 =>
  aCallT Try.prog (.p (.func eval_Eval_i [])) [v49, v50] fun v51 =>
  aExtract v51 0 fun v52 =>
  aExtract v51 1 fun v53 =>
  aStore 5 v4 v52 h41 fun _ h55 =>
  aLoad true 5 v4 h55 fun v56 =>
  K (.tup [v56, v53]) h55)
  (aLoad true 5 v26 h41 fun v57 =>
  aStore 5 v4 v57 h41 fun _ h59 =>
  aLoad true 5 v4 h59 fun v60 =>
  K (.tup [v60, v35]) h59))
  (aFieldAddr 7 v0 fun v61 =>
  aLoad false 1 v61 h5 fun v62 =>
  aLoad true 5 v2 h5 fun v63 =>
  aCall Try.prog (.p (.func eval_all_i [])) [v62, v63] h5 fun v64 h65 =>
  aExtract v64 0 fun v66 =>
  aExtract v64 1 fun v67 =>
  aBin false false .neq v67 (.p (.int .i64 0)) fun v68 =>
  aGuard v68
  (aBuild [(.p (.int .i64 0)), (.p (.int .i64 0)), (.p (.bool false)), (.p (.str [])), (.full [])] [] fun v69 =>
  aStore 5 v4 v69 h65 fun _ h71 =>
  aLoad true 5 v4 h71 fun v72 =>
  K (.tup [v72, v67]) h71)
  (aFieldAddr 0 v0 fun v73 =>
  aLoad false 1 v73 h65 fun v74 =>
  aBin false false .eql v74 (.p (.str [97, 116])) fun v75 =>
  aGuard v75
  (aIndexAddr 5 v66 (.p (.int .i64 0)) fun v76 =>
  aFieldAddr 4 v76 fun v77 =>
  aLoad false 1 v77 h65 fun v78 =>
  aFieldAddr 6 v0 fun v79 =>
  aLoad false 1 v79 h65 fun v80 =>
  aIndexAddr 5 v78 v80 fun v81 =>
  aLoad true 5 v81 h65 fun v82 =>
  aStore 5 v4 v82 h65 fun _ h84 =>
  aLoad true 5 v4 h84 fun v85 =>
  K (.tup [v85, (.p (.int .i64 0))]) h84)
  (aFieldAddr 0 v0 fun v86 =>
  aLoad false 1 v86 h65 fun v87 =>
  aBin false false .eql v87 (.p (.str [116, 117, 112])) fun v88 =>
  aGuard v88
  (aCall Try.prog (.p (.func val_Tup_i [])) [v66] h65 fun v89 h90 =>
  aStore 5 v4 v89 h90 fun _ h92 =>
  aLoad true 5 v4 h92 fun v93 =>
  K (.tup [v93, (.p (.int .i64 0))]) h92)
  (aLen false false v66 fun v94 =>
  aBin false false .eql v94 (.p (.int .i64 1)) fun v95 =>
  aGuard v95
  (aAlloc [(.p (.int .i64 0)), (.p (.int .i64 0)), (.p (.bool false)), (.p (.str [])), (.full [])] h65 fun v96 h97 =>
  aFieldAddr 0 v0 fun v98 =>
  aLoad false 1 v98 h97 fun v99 =>
  aIndexAddr 5 v66 (.p (.int .i64 0)) fun v100 =>
  aLoad true 5 v100 h97 fun v101 =>
  aCallT Try.prog (.p (.func eval_One_i [])) [v99, v101] fun v102 =>
  aExtract v102 0 fun v103 =>
  aExtract v102 1 fun _ =>
  aStore 5 v96 v103 h97 fun _ h106 =>
  aLoad true 5 v96 h106 fun v107 =>
  aStore 5 v4 v107 h106 fun _ h109 =>
  aLoad true 5 v4 h109 fun v110 =>
  K (.tup [v110, (.p (.int .i64 0))]) h109)
  (aAlloc [(.p (.int .i64 0)), (.p (.int .i64 0)), (.p (.bool false)), (.p (.str [])), (.full [])] h65 fun v111 h112 =>
  aFieldAddr 0 v0 fun v113 =>
  aLoad false 1 v113 h112 fun v114 =>
  aIndexAddr 5 v66 (.p (.int .i64 0)) fun v115 =>
  aLoad true 5 v115 h112 fun v116 =>
  aIndexAddr 5 v66 (.p (.int .i64 1)) fun v117 =>
  aLoad true 5 v117 h112 fun v118 =>
  aCallT Try.prog (.p (.func eval_Both_i [])) [v114, v116, v118] fun v119 =>
  aExtract v119 0 fun v120 =>
  aExtract v119 1 fun v121 =>
  aExtract v119 2 fun _ =>
  aStore 5 v111 v120 h112 fun _ h124 =>
  aLoad true 5 v111 h124 fun v125 =>
  aStore 5 v4 v125 h124 fun _ h127 =>
  aLoad true 5 v4 h127 fun v128 =>
  K (.tup [v128, v121]) h127)))))))

def eval_Eval_ann : Nat → List Nat := fun k => match k with | 1000008 => [1] | 1000007 => [1] | _ => []

theorem eval_Eval_eq (x0 x1 : AV) (H : List Ob) (r : AV) (Ho : List Ob) : aBody Try.prog eval_Eval_ann Try.f23 H [x0, x1] r Ho = eval_Eval x0 x1 H (fun v H' => Gives H.length v H' r Ho) := by kernel_rfl

theorem eval_Eval_fn {x0 x1 : AV} {r : AV} {Ho : List Ob} (h : eval_Eval x0 x1 [] (fun v H' => Gives 0 v H' r Ho)) : Abs.Fn Try.prog eval_Eval_i [] [x0, x1] r Ho :=
  fn_intro mixed eval_Eval_ann (fn := Try.f23) (by kernel_rfl) (by kernel_rfl) (by rw [eval_Eval_eq]; exact h)

/- runnel/runnelref6.Eval -/
def runnelref6_Eval_L1 (q1s2 q1s3 q1s4 y0 y1 : AV) (H : List Ob) (B1 : List AV → List Ob → Prop) (K : AV → List Ob → Prop) : Prop :=
  aFieldAddr 7 q1s2 fun v102 =>
  aLoad false 1 v102 H fun v103 =>
  aLen false false v103 fun v104 =>
  aBin false false .lss y1 v104 fun v105 =>
  aGuard v105
  (aAlloc [(.p (.int .i64 0)), (.p (.int .i64 0)), (.p (.bool false)), (.p (.str [])), (.full [])] H fun v106 h107 =>
  aFieldAddr 7 q1s2 fun v108 =>
  aLoad false 1 v108 h107 fun v109 =>
  aIndexAddr 8 v109 y1 fun v110 =>
  aLoad true 8 v110 h107 fun v111 =>
  aLoad true 5 q1s3 h107 fun v112 =>
  aCallT Try.prog (.p (.func runnelref6_Eval_i [])) [v111, v112] fun v113 =>
  aExtract v113 0 fun v114 =>
  aExtract v113 1 fun v115 =>
  aStore 5 v106 v114 h107 fun _ h117 =>
  aBin false false .neq v115 (.p (.int .i64 0)) fun v118 =>
  aGuard v118
  (aBuild [(.p (.int .i64 0)), (.p (.int .i64 0)), (.p (.bool false)), (.p (.str [])), (.full [])] [] fun v119 =>
  aStore 5 q1s4 v119 h117 fun _ h121 =>
  aLoad true 5 q1s4 h121 fun v122 =>
  K (.tup [v122, v115]) h121)
  (aLoad true 5 v106 h117 fun v123 =>
  aBuildSlice 5 [v123] fun v124 =>
  aAppend false 5 64 y0 v124 h117 fun v125 h126 =>
  aBin false false .add y1 (.p (.int .i64 1)) fun v127 =>
  B1 [v125, v127] h126))
  (aFieldAddr 0 q1s2 fun v128 =>
  aLoad false 1 v128 H fun v129 =>
  aFieldAddr 6 q1s2 fun v130 =>
  aLoad false 1 v130 H fun v131 =>
  aCall Try.prog (.p (.func runnelref6_Make_i [])) [v129, v131, y0] H fun v132 h133 =>
  aExtract v132 0 fun v134 =>
  aExtract v132 1 fun v135 =>
  aStore 5 q1s4 v134 h133 fun _ h137 =>
  aLoad true 5 q1s4 h137 fun v138 =>
  K (.tup [v138, v135]) h137)

def runnelref6_Eval (x0 x1 : AV) (H : List Ob) (K : AV → List Ob → Prop) : Prop :=
  aBox x0 H fun v0 h1 =>
  aBox x1 h1 fun v2 h3 =>
  aAlloc [(.p (.int .i64 0)), (.p (.int .i64 0)), (.p (.bool false)), (.p (.str [])), (.full [])] h3 fun v4 h5 =>
  aFieldAddr 0 v0 fun v6 =>
  aLoad false 1 v6 h5 fun v7 =>
  aBin false false .eql v7 (.p (.str [108, 105, 116])) fun v8 =>
  aGuard v8
  (aFieldAddr 1 v0 fun v9 =>
  aLoad true 5 v9 h5 fun v10 =>
  aStore 5 v4 v10 h5 fun _ h12 =>
  aLoad true 5 v4 h12 fun v13 =>
  K (.tup [v13, (.p (.int .i64 0))]) h12)
  (aBin false false .eql v7 (.p (.str [120])) fun v14 =>
  aGuard v14
  (aLoad true 5 v2 h5 fun v15 =>
  aStore 5 v4 v15 h5 fun _ h17 =>
  aLoad true 5 v4 h17 fun v18 =>
  K (.tup [v18, (.p (.int .i64 0))]) h17)
  (aAlloc [(.p (.int .i64 0)), (.p (.int .i64 0)), (.p (.bool false)), (.p (.str [])), (.full [])] h5 fun v19 h20 =>
  aFieldAddr 7 v0 fun v21 =>
  aLoad false 1 v21 h20 fun v22 =>
  aIndexAddr 8 v22 (.p (.int .i64 0)) fun v23 =>
  aLoad true 8 v23 h20 fun v24 =>
  aLoad true 5 v2 h20 fun v25 =>
  aCallT Try.prog (.p (.func runnelref6_Eval_i [])) [v24, v25] fun v26 =>
  aExtract v26 0 fun v27 =>
  aExtract v26 1 fun v28 =>
  aStore 5 v19 v27 h20 fun _ h30 =>
  aBin false false .neq v28 (.p (.int .i64 0)) fun v31 =>
  aGuard v31
  (aBuild [(.p (.int .i64 0)), (.p (.int .i64 0)), (.p (.bool false)), (.p (.str [])), (.full [])] [] fun v32 =>
  aStore 5 v4 v32 h30 fun _ h34 =>
  aLoad true 5 v4 h34 fun v35 =>
  K (.tup [v35, v28]) h34)
  (aFieldAddr 0 v0 fun v36 =>
  aLoad false 1 v36 h30 fun v37 =>
  aBin false false .eql v37 (.p (.str [97, 110, 100])) fun v38 =>
  aGuard v38
  (aFieldAddr 2 v19 fun v39 =>
  aLoad false 1 v39 h30 fun v40 =>
  aUn .not v40 fun v41 =>
  aGuard v41
  (aLoad true 5 v19 h30 fun v42 =>
  aStore 5 v4 v42 h30 fun _ h44 =>
  aLoad true 5 v4 h44 fun v45 =>
  K (.tup [v45, (.p (.int .i64 0))]) h44)
  (aFieldAddr 7 v0 fun v46 =>
  aLoad false 1 v46 h30 fun v47 =>
  aIndexAddr 8 v47 (.p (.int .i64 1)) fun v48 =>
  aLoad true 8 v48 h30 fun v49 =>
  aLoad true 5 v2 h30 fun v50 =>
  aCallT Try.prog (.p (.func runnelref6_Eval_i [])) [v49, v50] fun v51 =>
  aExtract v51 0 fun v52 =>
  aExtract v51 1 fun v53 =>
  aStore 5 v4 v52 h30 fun _ h55 =>
  aLoad true 5 v4 h55 fun v56 =>
  K (.tup [v56, v53]) h55))
  (aBin false false .eql v37 (.p (.str [111, 114])) fun v57 =>
  aGuard v57
  (aFieldAddr 2 v19 fun v58 =>
  aLoad false 1 v58 h30 fun v59 =>
  aGuard v59
  (aLoad true 5 v19 h30 fun v60 =>
  aStore 5 v4 v60 h30 fun _ h62 =>
  aLoad true 5 v4 h62 fun v63 =>
  K (.tup [v63, (.p (.int .i64 0))]) h62)
  (aFieldAddr 7 v0 fun v64 =>
  aLoad false 1 v64 h30 fun v65 =>
  aIndexAddr 8 v65 (.p (.int .i64 1)) fun v66 =>
  aLoad true 8 v66 h30 fun v67 =>
  aLoad true 5 v2 h30 fun v68 =>
  aCallT Try.prog (.p (.func runnelref6_Eval_i [])) [v67, v68] fun v69 =>
  aExtract v69 0 fun v70 =>
  aExtract v69 1 fun v71 =>
  aStore 5 v4 v70 h30 fun _ h73 =>
  aLoad true 5 v4 h73 fun v74 =>
  K (.tup [v74, v71]) h73))
  (aBin false false .eql v37 (.p (.str [105, 102])) fun v75 =>
  aGuard v75
  (aFieldAddr 2 v19 fun v76 =>
  aLoad false 1 v76 h30 fun v77 =>
  aGuard v77
  (aFieldAddr 7 v0 fun v78 =>
  aLoad false 1 v78 h30 fun v79 =>
  aIndexAddr 8 v79 (.p (.int .i64 1)) fun v80 =>
  aLoad true 8 v80 h30 fun v81 =>
  aLoad true 5 v2 h30 fun v82 =>
  aCallT Try.prog (.p (.func runnelref6_Eval_i [])) [v81, v82] fun v83 =>
  aExtract v83 0 fun v84 =>
  aExtract v83 1 fun v85 =>
  aStore 5 v4 v84 h30 fun _ h87 =>
  aLoad true 5 v4 h87 fun v88 =>
  K (.tup [v88, v85]) h87)
  (aFieldAddr 7 v0 fun v89 =>
  aLoad false 1 v89 h30 fun v90 =>
  aIndexAddr 8 v90 (.p (.int .i64 2)) fun v91 =>
  aLoad true 8 v91 h30 fun v92 =>
  aLoad true 5 v2 h30 fun v93 =>
  aCallT Try.prog (.p (.func runnelref6_Eval_i [])) [v92, v93] fun v94 =>
  aExtract v94 0 fun v95 =>
  aExtract v94 1 fun v96 =>
  aStore 5 v4 v95 h30 fun _ h98 =>
  aLoad true 5 v4 h98 fun v99 =>
  K (.tup [v99, v96]) h98))
  (aLoad true 5 v19 h30 fun v100 =>
  aBuildSlice 5 [v100] fun v101 =>
  aLoopN 2 [v101, (.p (.int .i64 1))] h30 fun xs H B1 => runnelref6_Eval_L1 v0 v2 v4 (xs.getD 0 .top) (xs.getD 1 .top) H B1 K))))))

def runnelref6_Eval_ann : Nat → List Nat := fun k => match k with | 24 => [8, 9] | _ => []

theorem runnelref6_Eval_eq (x0 x1 : AV) (H : List Ob) (r : AV) (Ho : List Ob) : aBody Try.prog runnelref6_Eval_ann Try.f24 H [x0, x1] r Ho = runnelref6_Eval x0 x1 H (fun v H' => Gives H.length v H' r Ho) := by kernel_rfl

theorem runnelref6_Eval_fn {x0 x1 : AV} {r : AV} {Ho : List Ob} (h : runnelref6_Eval x0 x1 [] (fun v H' => Gives 0 v H' r Ho)) : Abs.Fn Try.prog runnelref6_Eval_i [] [x0, x1] r Ho :=
  fn_intro mixed runnelref6_Eval_ann (fn := Try.f24) (by kernel_rfl) (by kernel_rfl) (by rw [runnelref6_Eval_eq]; exact h)

/- runnel/eval.choose -/
def eval_choose (x0 x1 : AV) (H : List Ob) (K : AV → List Ob → Prop) : Prop :=
  aBox x0 H fun v0 h1 =>
  aBox x1 h1 fun v2 h3 =>
  aFieldAddr 0 v0 fun v4 =>
  aLoad false 1 v4 h3 fun v5 =>
  aBin false false .eql v5 (.p (.str [105, 102])) fun v6 =>
  aMerge true v6 (fun Q7 =>
  aFieldAddr 2 v2 fun v8 =>
  aLoad false 1 v8 h3 fun v9 =>
  (h3 = h3 ∧ Q7 v9)) fun v10 =>
  aGuard v10
  (K (.p (.int .i64 1)) h3)
  (aFieldAddr 0 v0 fun v11 =>
  aLoad false 1 v11 h3 fun v12 =>
  aBin false false .eql v12 (.p (.str [105, 102])) fun v13 =>
  aGuard v13
  (K (.p (.int .i64 2)) h3)
  (aFieldAddr 0 v0 fun v14 =>
  aLoad false 1 v14 h3 fun v15 =>
  aBin false false .eql v15 (.p (.str [97, 110, 100])) fun v16 =>
  aFieldAddr 2 v2 fun v17 =>
  aLoad false 1 v17 h3 fun v18 =>
  aBin true false .eql v16 v18 fun v19 =>
  aGuard v19
  (K (.p (.int .i64 1)) h3)
  (K (.p (.int .i64 0)) h3)))

def eval_choose_ann : Nat → List Nat := fun _ => []

theorem eval_choose_eq (x0 x1 : AV) (H : List Ob) (r : AV) (Ho : List Ob) : aBody Try.prog eval_choose_ann Try.f55 H [x0, x1] r Ho = eval_choose x0 x1 H (fun v H' => Gives H.length v H' r Ho) := by kernel_rfl

theorem eval_choose_fn {x0 x1 : AV} {r : AV} {Ho : List Ob} (h : eval_choose x0 x1 [] (fun v H' => Gives 0 v H' r Ho)) : Abs.Fn Try.prog eval_choose_i [] [x0, x1] r Ho :=
  fn_intro mixed eval_choose_ann (fn := Try.f55) (by kernel_rfl) (by kernel_rfl) (by rw [eval_choose_eq]; exact h)

/- runnel/eval.all -/
def eval_all_L1 (q1s3 q1s11 q1s12 y0 y1 : AV) (H : List Ob) (B1 : List AV → List Ob → Prop) (K : AV → List Ob → Prop) : Prop :=
  aBin false false .lss y1 q1s12 fun v3 =>
  aGuard v3
  (aIndexAddr 8 q1s11 y1 fun v4 =>
  aLoad true 8 v4 H fun v5 =>
  aAlloc [(.p (.str [])), (.p (.int .i64 0)), (.p (.int .i64 0)), (.p (.bool false)), (.p (.str [])), (.full []), (.p (.int .i64 0)), (.full [])] H fun v6 h7 =>
  aStore 8 v6 v5 h7 fun _ h9 =>
  aLoad true 8 v6 h9 fun v10 =>
  aLoad true 5 q1s3 h9 fun v11 =>
  aCall Try.prog (.p (.func eval_Eval_i [])) [v10, v11] h9 fun v12 h13 =>
  aExtract v12 0 fun v14 =>
  aExtract v12 1 fun v15 =>
  aAlloc [(.p (.int .i64 0)), (.p (.int .i64 0)), (.p (.bool false)), (.p (.str [])), (.full [])] h13 fun v16 h17 =>
  aStore 5 v16 v14 h17 fun _ h19 =>
  aBin false false .neq v15 (.p (.int .i64 0)) fun v20 =>
  aGuard v20
  (K (.tup [(.full []), v15]) h19)
  (aLoad true 5 v16 h19 fun v21 =>
  aBuildSlice 5 [v21] fun v22 =>
  aAppend false 5 64 y0 v22 h19 fun v23 h24 =>
  aBin false false .add y1 (.p (.int .i64 1)) fun v25 =>
  B1 [v23, v25] h24))
  (K (.tup [y0, (.p (.int .i64 0))]) H)

def eval_all (x0 x1 : AV) (H : List Ob) (K : AV → List Ob → Prop) : Prop :=
  aBox x1 H fun v0 h1 =>
  aLen false false x0 fun v2 =>
  aLoopN 2 [(.full []), (.p (.int .i64 0))] h1 fun xs H B1 => eval_all_L1 v0 x0 v2 (xs.getD 0 .top) (xs.getD 1 .top) H B1 K

def eval_all_ann : Nat → List Nat := fun k => match k with | 3 => [6, 13] | _ => []

theorem eval_all_eq (x0 x1 : AV) (H : List Ob) (r : AV) (Ho : List Ob) : aBody Try.prog eval_all_ann Try.f56 H [x0, x1] r Ho = eval_all x0 x1 H (fun v H' => Gives H.length v H' r Ho) := by kernel_rfl

theorem eval_all_fn {x0 x1 : AV} {r : AV} {Ho : List Ob} (h : eval_all x0 x1 [] (fun v H' => Gives 0 v H' r Ho)) : Abs.Fn Try.prog eval_all_i [] [x0, x1] r Ho :=
  fn_intro mixed eval_all_ann (fn := Try.f56) (by kernel_rfl) (by kernel_rfl) (by rw [eval_all_eq]; exact h)

/- runnel/eval.One -/
def eval_One (x0 x1 : AV) (H : List Ob) (K : AV → List Ob → Prop) : Prop :=
  aBox x1 H fun v0 h1 =>
  aAlloc [(.p (.int .i64 0)), (.p (.int .i64 0)), (.p (.bool false)), (.p (.str [])), (.full [])] h1 fun v2 h3 =>
  aCall Try.prog (.p (.func eval_ones_i [])) [] h3 fun v4 h5 =>
  aCall Try.prog (.p (.func eval_table_func_a_val_Value_val_Value_find_i [])) [v4, x0] h5 fun v6 h7 =>
  aExtract v6 0 fun v8 =>
  aExtract v6 1 fun v9 =>
  aUn .not v9 fun v10 =>
  aGuard v10
  (aBuild [(.p (.int .i64 0)), (.p (.int .i64 0)), (.p (.bool false)), (.p (.str [])), (.full [])] [] fun v11 =>
  aStore 5 v2 v11 h7 fun _ h13 =>
  aLoad true 5 v2 h13 fun v14 =>
  K (.tup [v14, (.p (.bool false))]) h13)
  (aLoad true 5 v0 h7 fun v15 =>
  aCall Try.prog v8 [v15] h7 fun v16 h17 =>
  aStore 5 v2 v16 h17 fun _ h19 =>
  aLoad true 5 v2 h19 fun v20 =>
  K (.tup [v20, (.p (.bool true))]) h19)

def eval_One_ann : Nat → List Nat := fun _ => []

theorem eval_One_eq (x0 x1 : AV) (H : List Ob) (r : AV) (Ho : List Ob) : aBody Try.prog eval_One_ann Try.f57 H [x0, x1] r Ho = eval_One x0 x1 H (fun v H' => Gives H.length v H' r Ho) := by kernel_rfl

theorem eval_One_fn {x0 x1 : AV} {r : AV} {Ho : List Ob} (h : eval_One x0 x1 [] (fun v H' => Gives 0 v H' r Ho)) : Abs.Fn Try.prog eval_One_i [] [x0, x1] r Ho :=
  fn_intro mixed eval_One_ann (fn := Try.f57) (by kernel_rfl) (by kernel_rfl) (by rw [eval_One_eq]; exact h)

/- runnel/eval.Both -/
def eval_Both (x0 x1 x2 : AV) (H : List Ob) (K : AV → List Ob → Prop) : Prop :=
  aBox x1 H fun v0 h1 =>
  aBox x2 h1 fun v2 h3 =>
  aAlloc [(.p (.int .i64 0)), (.p (.int .i64 0)), (.p (.bool false)), (.p (.str [])), (.full [])] h3 fun v4 h5 =>
  aCall Try.prog (.p (.func eval_twos_i [])) [] h5 fun v6 h7 =>
  aCall Try.prog (.p (.func eval_table_eval_Two_find_i [])) [v6, x0] h7 fun v8 h9 =>
  aExtract v8 0 fun v10 =>
  aExtract v8 1 fun v11 =>
  aUn .not v11 fun v12 =>
  aGuard v12
  (aBuild [(.p (.int .i64 0)), (.p (.int .i64 0)), (.p (.bool false)), (.p (.str [])), (.full [])] [] fun v13 =>
  aStore 5 v4 v13 h9 fun _ h15 =>
  aLoad true 5 v4 h15 fun v16 =>
  K (.tup [v16, (.p (.int .i64 0)), (.p (.bool false))]) h15)
  (aLoad true 5 v0 h9 fun v17 =>
  aLoad true 5 v2 h9 fun v18 =>
  aCall Try.prog v10 [v17, v18] h9 fun v19 h20 =>
  aExtract v19 0 fun v21 =>
  aExtract v19 1 fun v22 =>
  aAlloc [(.p (.int .i64 0)), (.p (.int .i64 0)), (.p (.bool false)), (.p (.str [])), (.full [])] h20 fun v23 h24 =>
  aStore 5 v23 v21 h24 fun _ h26 =>
  aLoad true 5 v23 h26 fun v27 =>
  aStore 5 v4 v27 h26 fun _ h29 =>
  aLoad true 5 v4 h29 fun v30 =>
  K (.tup [v30, v22, (.p (.bool true))]) h29)

def eval_Both_ann : Nat → List Nat := fun _ => []

theorem eval_Both_eq (x0 x1 x2 : AV) (H : List Ob) (r : AV) (Ho : List Ob) : aBody Try.prog eval_Both_ann Try.f58 H [x0, x1, x2] r Ho = eval_Both x0 x1 x2 H (fun v H' => Gives H.length v H' r Ho) := by kernel_rfl

theorem eval_Both_fn {x0 x1 x2 : AV} {r : AV} {Ho : List Ob} (h : eval_Both x0 x1 x2 [] (fun v H' => Gives 0 v H' r Ho)) : Abs.Fn Try.prog eval_Both_i [] [x0, x1, x2] r Ho :=
  fn_intro mixed eval_Both_ann (fn := Try.f58) (by kernel_rfl) (by kernel_rfl) (by rw [eval_Both_eq]; exact h)

/- runnel/runnelref6.Make -/
def runnelref6_Make (x0 x1 x2 : AV) (H : List Ob) (K : AV → List Ob → Prop) : Prop :=
  aAlloc [(.p (.int .i64 0)), (.p (.int .i64 0)), (.p (.bool false)), (.p (.str [])), (.full [])] H fun v0 h1 =>
  aBin false false .eql x0 (.p (.str [97, 116])) fun v2 =>
  aGuard v2
  (aIndexAddr 5 x2 (.p (.int .i64 0)) fun v3 =>
  aFieldAddr 4 v3 fun v4 =>
  aLoad false 1 v4 h1 fun v5 =>
  aIndexAddr 5 v5 x1 fun v6 =>
  aLoad true 5 v6 h1 fun v7 =>
  aStore 5 v0 v7 h1 fun _ h9 =>
  aLoad true 5 v0 h9 fun v10 =>
  K (.tup [v10, (.p (.int .i64 0))]) h9)
  (aBin false false .eql x0 (.p (.str [116, 117, 112])) fun v11 =>
  aGuard v11
  (aBuildSlice 5 [] fun v12 =>
  aAppend false 5 64 v12 x2 h1 fun v13 h14 =>
  aBuild [(.p (.int .i64 0)), (.p (.int .i64 0)), (.p (.bool false)), (.p (.str [])), (.full [])] [(0, 1, (.p (.int .i64 4))), (4, 1, v13)] fun v15 =>
  aStore 5 v0 v15 h14 fun _ h17 =>
  aLoad true 5 v0 h17 fun v18 =>
  K (.tup [v18, (.p (.int .i64 0))]) h17)
  (aBin false false .eql x0 (.p (.str [110, 101, 103])) fun v19 =>
  aGuard v19
  (aIndexAddr 5 x2 (.p (.int .i64 0)) fun v20 =>
  aFieldAddr 1 v20 fun v21 =>
  aLoad false 1 v21 h1 fun v22 =>
  aBin false false .sub (.p (.int .i64 0)) v22 fun v23 =>
  aCall Try.prog (.p (.func runnelref6_V_i [])) [v23] h1 fun v24 h25 =>
  aStore 5 v0 v24 h25 fun _ h27 =>
  aLoad true 5 v0 h27 fun v28 =>
  K (.tup [v28, (.p (.int .i64 0))]) h27)
  (aBin false false .eql x0 (.p (.str [110, 111, 116])) fun v29 =>
  aGuard v29
  (aIndexAddr 5 x2 (.p (.int .i64 0)) fun v30 =>
  aFieldAddr 2 v30 fun v31 =>
  aLoad false 1 v31 h1 fun v32 =>
  aUn .not v32 fun v33 =>
  aCall Try.prog (.p (.func runnelref6_Yes_i [])) [v33] h1 fun v34 h35 =>
  aStore 5 v0 v34 h35 fun _ h37 =>
  aLoad true 5 v0 h37 fun v38 =>
  K (.tup [v38, (.p (.int .i64 0))]) h37)
  (aBin false false .eql x0 (.p (.str [108, 101, 110])) fun v39 =>
  aGuard v39
  (aIndexAddr 5 x2 (.p (.int .i64 0)) fun v40 =>
  aFieldAddr 3 v40 fun v41 =>
  aLoad false 1 v41 h1 fun v42 =>
  aLen false true v42 fun v43 =>
  aCall Try.prog (.p (.func runnelref6_V_i [])) [v43] h1 fun v44 h45 =>
  aStore 5 v0 v44 h45 fun _ h47 =>
  aLoad true 5 v0 h47 fun v48 =>
  K (.tup [v48, (.p (.int .i64 0))]) h47)
  (aBin false false .eql x0 (.p (.str [97, 100, 100])) fun v49 =>
  aGuard v49
  (aIndexAddr 5 x2 (.p (.int .i64 0)) fun v50 =>
  aFieldAddr 1 v50 fun v51 =>
  aLoad false 1 v51 h1 fun v52 =>
  aIndexAddr 5 x2 (.p (.int .i64 1)) fun v53 =>
  aFieldAddr 1 v53 fun v54 =>
  aLoad false 1 v54 h1 fun v55 =>
  aBin false false .add v52 v55 fun v56 =>
  aCallT Try.prog (.p (.func runnelref6_V_i [])) [v56] fun v57 =>
  aStore 5 v0 v57 h1 fun _ h59 =>
  aLoad true 5 v0 h59 fun v60 =>
  K (.tup [v60, (.p (.int .i64 0))]) h59)
  (aBin false false .eql x0 (.p (.str [115, 117, 98])) fun v61 =>
  aGuard v61
  (aIndexAddr 5 x2 (.p (.int .i64 0)) fun v62 =>
  aFieldAddr 1 v62 fun v63 =>
  aLoad false 1 v63 h1 fun v64 =>
  aIndexAddr 5 x2 (.p (.int .i64 1)) fun v65 =>
  aFieldAddr 1 v65 fun v66 =>
  aLoad false 1 v66 h1 fun v67 =>
  aBin false false .sub v64 v67 fun v68 =>
  aCallT Try.prog (.p (.func runnelref6_V_i [])) [v68] fun v69 =>
  aStore 5 v0 v69 h1 fun _ h71 =>
  aLoad true 5 v0 h71 fun v72 =>
  K (.tup [v72, (.p (.int .i64 0))]) h71)
  (aBin false false .eql x0 (.p (.str [109, 117, 108])) fun v73 =>
  aGuard v73
  (aIndexAddr 5 x2 (.p (.int .i64 0)) fun v74 =>
  aFieldAddr 1 v74 fun v75 =>
  aLoad false 1 v75 h1 fun v76 =>
  aIndexAddr 5 x2 (.p (.int .i64 1)) fun v77 =>
  aFieldAddr 1 v77 fun v78 =>
  aLoad false 1 v78 h1 fun v79 =>
  aBin false false .mul v76 v79 fun v80 =>
  aCallT Try.prog (.p (.func runnelref6_V_i [])) [v80] fun v81 =>
  aStore 5 v0 v81 h1 fun _ h83 =>
  aLoad true 5 v0 h83 fun v84 =>
  K (.tup [v84, (.p (.int .i64 0))]) h83)
  (aBin false false .eql x0 (.p (.str [101, 113])) fun v85 =>
  aGuard v85
  (aIndexAddr 5 x2 (.p (.int .i64 0)) fun v86 =>
  aLoad true 5 v86 h1 fun v87 =>
  aIndexAddr 5 x2 (.p (.int .i64 1)) fun v88 =>
  aLoad true 5 v88 h1 fun v89 =>
  aCallT Try.prog (.p (.func runnelref6_Same_i [])) [v87, v89] fun v90 =>
  aCallT Try.prog (.p (.func runnelref6_Yes_i [])) [v90] fun v91 =>
  aStore 5 v0 v91 h1 fun _ h93 =>
  aLoad true 5 v0 h93 fun v94 =>
  K (.tup [v94, (.p (.int .i64 0))]) h93)
  (aBin false false .eql x0 (.p (.str [108, 116])) fun v95 =>
  aGuard v95
  (aIndexAddr 5 x2 (.p (.int .i64 0)) fun v96 =>
  aLoad true 5 v96 h1 fun v97 =>
  aIndexAddr 5 x2 (.p (.int .i64 1)) fun v98 =>
  aLoad true 5 v98 h1 fun v99 =>
  aCallT Try.prog (.p (.func runnelref6_Compare_i [])) [v97, v99] fun v100 =>
  aBin false false .lss v100 (.p (.int .i64 0)) fun v101 =>
  aCallT Try.prog (.p (.func runnelref6_Yes_i [])) [v101] fun v102 =>
  aStore 5 v0 v102 h1 fun _ h104 =>
  aLoad true 5 v0 h104 fun v105 =>
  K (.tup [v105, (.p (.int .i64 0))]) h104)
  (aBin false false .eql x0 (.p (.str [99, 97, 116])) fun v106 =>
  aGuard v106
  (aIndexAddr 5 x2 (.p (.int .i64 0)) fun v107 =>
  aFieldAddr 3 v107 fun v108 =>
  aLoad false 1 v108 h1 fun v109 =>
  aIndexAddr 5 x2 (.p (.int .i64 1)) fun v110 =>
  aFieldAddr 3 v110 fun v111 =>
  aLoad false 1 v111 h1 fun v112 =>
  aBin false false .add v109 v112 fun v113 =>
  aLen false true v113 fun v114 =>
  aBin false false .gtr v114 (.p (.int .i64 255)) fun v115 =>
  aGuard v115
  (aBuild [(.p (.int .i64 0)), (.p (.int .i64 0)), (.p (.bool false)), (.p (.str [])), (.full [])] [] fun v116 =>
  aStore 5 v0 v116 h1 fun _ h118 =>
  aLoad true 5 v0 h118 fun v119 =>
  K (.tup [v119, (.p (.int .i64 4))]) h118)
  (aBuild [(.p (.int .i64 0)), (.p (.int .i64 0)), (.p (.bool false)), (.p (.str [])), (.full [])] [(0, 1, (.p (.int .i64 3))), (3, 1, v113)] fun v120 =>
  aStore 5 v0 v120 h1 fun _ h122 =>
  aLoad true 5 v0 h122 fun v123 =>
  K (.tup [v123, (.p (.int .i64 0))]) h122))
  (aIndexAddr 5 x2 (.p (.int .i64 1)) fun v124 =>
  aFieldAddr 1 v124 fun v125 =>
  aLoad false 1 v125 h1 fun v126 =>
  aBin false false .eql v126 (.p (.int .i64 0)) fun v127 =>
  aGuard v127
  (aBuild [(.p (.int .i64 0)), (.p (.int .i64 0)), (.p (.bool false)), (.p (.str [])), (.full [])] [] fun v128 =>
  aStore 5 v0 v128 h1 fun _ h130 =>
  aLoad true 5 v0 h130 fun v131 =>
  K (.tup [v131, (.p (.int .i64 8))]) h130)
  (aIndexAddr 5 x2 (.p (.int .i64 1)) fun v132 =>
  aFieldAddr 1 v132 fun v133 =>
  aLoad false 1 v133 h1 fun v134 =>
  aBin false false .eql v134 (.p (.int .i64 (-1))) fun v135 =>
  aGuard v135
  (aBin false false .eql x0 (.p (.str [100, 105, 118])) fun v136 =>
  aGuard v136
  (aIndexAddr 5 x2 (.p (.int .i64 0)) fun v137 =>
  aFieldAddr 1 v137 fun v138 =>
  aLoad false 1 v138 h1 fun v139 =>
  aBin false false .sub (.p (.int .i64 0)) v139 fun v140 =>
  aCall Try.prog (.p (.func runnelref6_V_i [])) [v140] h1 fun v141 h142 =>
  aStore 5 v0 v141 h142 fun _ h144 =>
  aLoad true 5 v0 h144 fun v145 =>
  K (.tup [v145, (.p (.int .i64 0))]) h144)
  (aCall Try.prog (.p (.func runnelref6_V_i [])) [(.p (.int .i64 0))] h1 fun v146 h147 =>
  aStore 5 v0 v146 h147 fun _ h149 =>
  aLoad true 5 v0 h149 fun v150 =>
  K (.tup [v150, (.p (.int .i64 0))]) h149))
  (aBin false false .eql x0 (.p (.str [100, 105, 118])) fun v151 =>
  aGuard v151
  (aIndexAddr 5 x2 (.p (.int .i64 0)) fun v152 =>
  aFieldAddr 1 v152 fun v153 =>
  aLoad false 1 v153 h1 fun v154 =>
  aIndexAddr 5 x2 (.p (.int .i64 1)) fun v155 =>
  aFieldAddr 1 v155 fun v156 =>
  aLoad false 1 v156 h1 fun v157 =>
  aBin false false .quo v154 v157 fun v158 =>
  aCallT Try.prog (.p (.func runnelref6_V_i [])) [v158] fun v159 =>
  aStore 5 v0 v159 h1 fun _ h161 =>
  aLoad true 5 v0 h161 fun v162 =>
  K (.tup [v162, (.p (.int .i64 0))]) h161)
  (aIndexAddr 5 x2 (.p (.int .i64 0)) fun v163 =>
  aFieldAddr 1 v163 fun v164 =>
  aLoad false 1 v164 h1 fun v165 =>
  aIndexAddr 5 x2 (.p (.int .i64 1)) fun v166 =>
  aFieldAddr 1 v166 fun v167 =>
  aLoad false 1 v167 h1 fun v168 =>
  aBin false false .rem v165 v168 fun v169 =>
  aCallT Try.prog (.p (.func runnelref6_V_i [])) [v169] fun v170 =>
  aStore 5 v0 v170 h1 fun _ h172 =>
  aLoad true 5 v0 h172 fun v173 =>
  K (.tup [v173, (.p (.int .i64 0))]) h172))))))))))))))

def runnelref6_Make_ann : Nat → List Nat := fun _ => []

theorem runnelref6_Make_eq (x0 x1 x2 : AV) (H : List Ob) (r : AV) (Ho : List Ob) : aBody Try.prog runnelref6_Make_ann Try.f59 H [x0, x1, x2] r Ho = runnelref6_Make x0 x1 x2 H (fun v H' => Gives H.length v H' r Ho) := by kernel_rfl

theorem runnelref6_Make_fn {x0 x1 x2 : AV} {r : AV} {Ho : List Ob} (h : runnelref6_Make x0 x1 x2 [] (fun v H' => Gives 0 v H' r Ho)) : Abs.Fn Try.prog runnelref6_Make_i [] [x0, x1, x2] r Ho :=
  fn_intro mixed runnelref6_Make_ann (fn := Try.f59) (by kernel_rfl) (by kernel_rfl) (by rw [runnelref6_Make_eq]; exact h)

/- runnel/eval.ones -/
def eval_ones (H : List Ob) (K : AV → List Ob → Prop) : Prop :=
  aBuild [(.p (.str [])), (.p (.raw .nilFunc))] [(0, 1, (.p (.str [110, 101, 103]))), (1, 1, (.p (.func eval_ones_1_i [])))] fun v0 =>
  aBuild [(.p (.str [])), (.p (.raw .nilFunc))] [(0, 1, (.p (.str [110, 111, 116]))), (1, 1, (.p (.func eval_ones_2_i [])))] fun v1 =>
  aBuild [(.p (.str [])), (.p (.raw .nilFunc))] [(0, 1, (.p (.str [108, 101, 110]))), (1, 1, (.p (.func eval_ones_3_i [])))] fun v2 =>
  aBuildSlice 2 [v0, v1, v2] fun v3 =>
  K v3 H

def eval_ones_ann : Nat → List Nat := fun _ => []

theorem eval_ones_eq (H : List Ob) (r : AV) (Ho : List Ob) : aBody Try.prog eval_ones_ann Try.f91 H [] r Ho = eval_ones H (fun v H' => Gives H.length v H' r Ho) := by kernel_rfl

theorem eval_ones_fn {r : AV} {Ho : List Ob} (h : eval_ones [] (fun v H' => Gives 0 v H' r Ho)) : Abs.Fn Try.prog eval_ones_i [] [] r Ho :=
  fn_intro mixed eval_ones_ann (fn := Try.f91) (by kernel_rfl) (by kernel_rfl) (by rw [eval_ones_eq]; exact h)

/- (runnel/eval.table[func(a runnel/val.Value) runnel/val.Value]).find -/
def eval_table_func_a_val_Value_val_Value_find_L1 (q1s1 q1s9 q1s10 y0 : AV) (H : List Ob) (B1 : List AV → List Ob → Prop) (K : AV → List Ob → Prop) : Prop :=
  aBin false false .lss y0 q1s10 fun v1 =>
  aGuard v1
  (aIndexAddr 2 q1s9 y0 fun v2 =>
  aLoad true 2 v2 H fun v3 =>
  aAlloc [(.p (.str [])), (.p (.raw .nilFunc))] H fun v4 h5 =>
  aStore 2 v4 v3 h5 fun _ h7 =>
  aFieldAddr 0 v4 fun v8 =>
  aLoad false 1 v8 h7 fun v9 =>
  aBin false false .eql v9 q1s1 fun v10 =>
  aGuard v10
  (aFieldAddr 1 v4 fun v11 =>
  aLoad false 1 v11 h7 fun v12 =>
  K (.tup [v12, (.p (.bool true))]) h7)
  (aBin false false .add y0 (.p (.int .i64 1)) fun v13 =>
  B1 [v13] h7))
  (K (.tup [(.p (.raw .nilFunc)), (.p (.bool false))]) H)

def eval_table_func_a_val_Value_val_Value_find (x0 x1 : AV) (H : List Ob) (K : AV → List Ob → Prop) : Prop :=
  aLen false false x0 fun v0 =>
  aLoopN 1 [(.p (.int .i64 0))] H fun xs H B1 => eval_table_func_a_val_Value_val_Value_find_L1 x1 x0 v0 (xs.getD 0 .top) H B1 K

def eval_table_func_a_val_Value_val_Value_find_ann : Nat → List Nat := fun k => match k with | 2 => [11] | _ => []

theorem eval_table_func_a_val_Value_val_Value_find_eq (x0 x1 : AV) (H : List Ob) (r : AV) (Ho : List Ob) : aBody Try.prog eval_table_func_a_val_Value_val_Value_find_ann Try.f92 H [x0, x1] r Ho = eval_table_func_a_val_Value_val_Value_find x0 x1 H (fun v H' => Gives H.length v H' r Ho) := by kernel_rfl

theorem eval_table_func_a_val_Value_val_Value_find_fn {x0 x1 : AV} {r : AV} {Ho : List Ob} (h : eval_table_func_a_val_Value_val_Value_find x0 x1 [] (fun v H' => Gives 0 v H' r Ho)) : Abs.Fn Try.prog eval_table_func_a_val_Value_val_Value_find_i [] [x0, x1] r Ho :=
  fn_intro mixed eval_table_func_a_val_Value_val_Value_find_ann (fn := Try.f92) (by kernel_rfl) (by kernel_rfl) (by rw [eval_table_func_a_val_Value_val_Value_find_eq]; exact h)

/- runnel/eval.twos -/
def eval_twos (H : List Ob) (K : AV → List Ob → Prop) : Prop :=
  aCall Try.prog (.p (.func eval_number_i [])) [(.p (.func eval_twos_1_i []))] H fun v0 h1 =>
  aBuild [(.p (.str [])), (.p (.raw .nilFunc))] [(0, 1, (.p (.str [97, 100, 100]))), (1, 1, v0)] fun v2 =>
  aCall Try.prog (.p (.func eval_number_i [])) [(.p (.func eval_twos_2_i []))] h1 fun v3 h4 =>
  aBuild [(.p (.str [])), (.p (.raw .nilFunc))] [(0, 1, (.p (.str [115, 117, 98]))), (1, 1, v3)] fun v5 =>
  aCall Try.prog (.p (.func eval_number_i [])) [(.p (.func eval_twos_3_i []))] h4 fun v6 h7 =>
  aBuild [(.p (.str [])), (.p (.raw .nilFunc))] [(0, 1, (.p (.str [109, 117, 108]))), (1, 1, v6)] fun v8 =>
  aCall Try.prog (.p (.func eval_divided_i [])) [(.p (.func eval_twos_4_i []))] h7 fun v9 h10 =>
  aBuild [(.p (.str [])), (.p (.raw .nilFunc))] [(0, 1, (.p (.str [100, 105, 118]))), (1, 1, v9)] fun v11 =>
  aCall Try.prog (.p (.func eval_divided_i [])) [(.p (.func eval_twos_5_i []))] h10 fun v12 h13 =>
  aBuild [(.p (.str [])), (.p (.raw .nilFunc))] [(0, 1, (.p (.str [114, 101, 109]))), (1, 1, v12)] fun v14 =>
  aBuild [(.p (.str [])), (.p (.raw .nilFunc))] [(0, 1, (.p (.str [101, 113]))), (1, 1, (.p (.func eval_twos_6_i [])))] fun v15 =>
  aBuild [(.p (.str [])), (.p (.raw .nilFunc))] [(0, 1, (.p (.str [108, 116]))), (1, 1, (.p (.func eval_twos_7_i [])))] fun v16 =>
  aBuild [(.p (.str [])), (.p (.raw .nilFunc))] [(0, 1, (.p (.str [99, 97, 116]))), (1, 1, (.p (.func eval_cat_i [])))] fun v17 =>
  aBuildSlice 2 [v2, v5, v8, v11, v14, v15, v16, v17] fun v18 =>
  K v18 h13

def eval_twos_ann : Nat → List Nat := fun _ => []

theorem eval_twos_eq (H : List Ob) (r : AV) (Ho : List Ob) : aBody Try.prog eval_twos_ann Try.f93 H [] r Ho = eval_twos H (fun v H' => Gives H.length v H' r Ho) := by kernel_rfl

theorem eval_twos_fn {r : AV} {Ho : List Ob} (h : eval_twos [] (fun v H' => Gives 0 v H' r Ho)) : Abs.Fn Try.prog eval_twos_i [] [] r Ho :=
  fn_intro mixed eval_twos_ann (fn := Try.f93) (by kernel_rfl) (by kernel_rfl) (by rw [eval_twos_eq]; exact h)

/- (runnel/eval.table[runnel/eval.Two]).find -/
def eval_table_eval_Two_find_L1 (q1s1 q1s9 q1s10 y0 : AV) (H : List Ob) (B1 : List AV → List Ob → Prop) (K : AV → List Ob → Prop) : Prop :=
  aBin false false .lss y0 q1s10 fun v1 =>
  aGuard v1
  (aIndexAddr 2 q1s9 y0 fun v2 =>
  aLoad true 2 v2 H fun v3 =>
  aAlloc [(.p (.str [])), (.p (.raw .nilFunc))] H fun v4 h5 =>
  aStore 2 v4 v3 h5 fun _ h7 =>
  aFieldAddr 0 v4 fun v8 =>
  aLoad false 1 v8 h7 fun v9 =>
  aBin false false .eql v9 q1s1 fun v10 =>
  aGuard v10
  (aFieldAddr 1 v4 fun v11 =>
  aLoad false 1 v11 h7 fun v12 =>
  K (.tup [v12, (.p (.bool true))]) h7)
  (aBin false false .add y0 (.p (.int .i64 1)) fun v13 =>
  B1 [v13] h7))
  (K (.tup [(.p (.raw .nilFunc)), (.p (.bool false))]) H)

def eval_table_eval_Two_find (x0 x1 : AV) (H : List Ob) (K : AV → List Ob → Prop) : Prop :=
  aLen false false x0 fun v0 =>
  aLoopN 1 [(.p (.int .i64 0))] H fun xs H B1 => eval_table_eval_Two_find_L1 x1 x0 v0 (xs.getD 0 .top) H B1 K

def eval_table_eval_Two_find_ann : Nat → List Nat := fun k => match k with | 2 => [11] | _ => []

theorem eval_table_eval_Two_find_eq (x0 x1 : AV) (H : List Ob) (r : AV) (Ho : List Ob) : aBody Try.prog eval_table_eval_Two_find_ann Try.f94 H [x0, x1] r Ho = eval_table_eval_Two_find x0 x1 H (fun v H' => Gives H.length v H' r Ho) := by kernel_rfl

theorem eval_table_eval_Two_find_fn {x0 x1 : AV} {r : AV} {Ho : List Ob} (h : eval_table_eval_Two_find x0 x1 [] (fun v H' => Gives 0 v H' r Ho)) : Abs.Fn Try.prog eval_table_eval_Two_find_i [] [x0, x1] r Ho :=
  fn_intro mixed eval_table_eval_Two_find_ann (fn := Try.f94) (by kernel_rfl) (by kernel_rfl) (by rw [eval_table_eval_Two_find_eq]; exact h)

/- runnel/runnelref6.V -/
def runnelref6_V (x0 : AV) (H : List Ob) (K : AV → List Ob → Prop) : Prop :=
  aAlloc [(.p (.int .i64 0)), (.p (.int .i64 0)), (.p (.bool false)), (.p (.str [])), (.full [])] H fun v0 h1 =>
  aBuild [(.p (.int .i64 0)), (.p (.int .i64 0)), (.p (.bool false)), (.p (.str [])), (.full [])] [(0, 1, (.p (.int .i64 1))), (1, 1, x0)] fun v2 =>
  aStore 5 v0 v2 h1 fun _ h4 =>
  aLoad true 5 v0 h4 fun v5 =>
  K v5 h4

def runnelref6_V_ann : Nat → List Nat := fun _ => []

theorem runnelref6_V_eq (x0 : AV) (H : List Ob) (r : AV) (Ho : List Ob) : aBody Try.prog runnelref6_V_ann Try.f95 H [x0] r Ho = runnelref6_V x0 H (fun v H' => Gives H.length v H' r Ho) := by kernel_rfl

theorem runnelref6_V_fn {x0 : AV} {r : AV} {Ho : List Ob} (h : runnelref6_V x0 [] (fun v H' => Gives 0 v H' r Ho)) : Abs.Fn Try.prog runnelref6_V_i [] [x0] r Ho :=
  fn_intro mixed runnelref6_V_ann (fn := Try.f95) (by kernel_rfl) (by kernel_rfl) (by rw [runnelref6_V_eq]; exact h)

/- runnel/runnelref6.Yes -/
def runnelref6_Yes (x0 : AV) (H : List Ob) (K : AV → List Ob → Prop) : Prop :=
  aAlloc [(.p (.int .i64 0)), (.p (.int .i64 0)), (.p (.bool false)), (.p (.str [])), (.full [])] H fun v0 h1 =>
  aBuild [(.p (.int .i64 0)), (.p (.int .i64 0)), (.p (.bool false)), (.p (.str [])), (.full [])] [(0, 1, (.p (.int .i64 2))), (2, 1, x0)] fun v2 =>
  aStore 5 v0 v2 h1 fun _ h4 =>
  aLoad true 5 v0 h4 fun v5 =>
  K v5 h4

def runnelref6_Yes_ann : Nat → List Nat := fun _ => []

theorem runnelref6_Yes_eq (x0 : AV) (H : List Ob) (r : AV) (Ho : List Ob) : aBody Try.prog runnelref6_Yes_ann Try.f96 H [x0] r Ho = runnelref6_Yes x0 H (fun v H' => Gives H.length v H' r Ho) := by kernel_rfl

theorem runnelref6_Yes_fn {x0 : AV} {r : AV} {Ho : List Ob} (h : runnelref6_Yes x0 [] (fun v H' => Gives 0 v H' r Ho)) : Abs.Fn Try.prog runnelref6_Yes_i [] [x0] r Ho :=
  fn_intro mixed runnelref6_Yes_ann (fn := Try.f96) (by kernel_rfl) (by kernel_rfl) (by rw [runnelref6_Yes_eq]; exact h)

/- runnel/eval.ones$1 -/
def eval_ones_1 (x0 : AV) (H : List Ob) (K : AV → List Ob → Prop) : Prop :=
  aBox x0 H fun v0 h1 =>
  aAlloc [(.p (.int .i64 0)), (.p (.int .i64 0)), (.p (.bool false)), (.p (.str [])), (.full [])] h1 fun v2 h3 =>
  aFieldAddr 1 v0 fun v4 =>
  aLoad false 1 v4 h3 fun v5 =>
  aUn .neg v5 fun v6 =>
  aCall Try.prog (.p (.func val_Int_i [])) [v6] h3 fun v7 h8 =>
  aStore 5 v2 v7 h8 fun _ h10 =>
  aLoad true 5 v2 h10 fun v11 =>
  K v11 h10

def eval_ones_1_ann : Nat → List Nat := fun _ => []

theorem eval_ones_1_eq (x0 : AV) (H : List Ob) (r : AV) (Ho : List Ob) : aBody Try.prog eval_ones_1_ann Try.f124 H [x0] r Ho = eval_ones_1 x0 H (fun v H' => Gives H.length v H' r Ho) := by kernel_rfl

theorem eval_ones_1_fn {x0 : AV} {r : AV} {Ho : List Ob} (h : eval_ones_1 x0 [] (fun v H' => Gives 0 v H' r Ho)) : Abs.Fn Try.prog eval_ones_1_i [] [x0] r Ho :=
  fn_intro mixed eval_ones_1_ann (fn := Try.f124) (by kernel_rfl) (by kernel_rfl) (by rw [eval_ones_1_eq]; exact h)

/- runnel/eval.ones$2 -/
def eval_ones_2 (x0 : AV) (H : List Ob) (K : AV → List Ob → Prop) : Prop :=
  aBox x0 H fun v0 h1 =>
  aAlloc [(.p (.int .i64 0)), (.p (.int .i64 0)), (.p (.bool false)), (.p (.str [])), (.full [])] h1 fun v2 h3 =>
  aFieldAddr 2 v0 fun v4 =>
  aLoad false 1 v4 h3 fun v5 =>
  aUn .not v5 fun v6 =>
  aCall Try.prog (.p (.func val_Bool_i [])) [v6] h3 fun v7 h8 =>
  aStore 5 v2 v7 h8 fun _ h10 =>
  aLoad true 5 v2 h10 fun v11 =>
  K v11 h10

def eval_ones_2_ann : Nat → List Nat := fun _ => []

theorem eval_ones_2_eq (x0 : AV) (H : List Ob) (r : AV) (Ho : List Ob) : aBody Try.prog eval_ones_2_ann Try.f125 H [x0] r Ho = eval_ones_2 x0 H (fun v H' => Gives H.length v H' r Ho) := by kernel_rfl

theorem eval_ones_2_fn {x0 : AV} {r : AV} {Ho : List Ob} (h : eval_ones_2 x0 [] (fun v H' => Gives 0 v H' r Ho)) : Abs.Fn Try.prog eval_ones_2_i [] [x0] r Ho :=
  fn_intro mixed eval_ones_2_ann (fn := Try.f125) (by kernel_rfl) (by kernel_rfl) (by rw [eval_ones_2_eq]; exact h)

/- runnel/eval.ones$3 -/
def eval_ones_3 (x0 : AV) (H : List Ob) (K : AV → List Ob → Prop) : Prop :=
  aBox x0 H fun v0 h1 =>
  aAlloc [(.p (.int .i64 0)), (.p (.int .i64 0)), (.p (.bool false)), (.p (.str [])), (.full [])] h1 fun v2 h3 =>
  aFieldAddr 3 v0 fun v4 =>
  aLoad false 1 v4 h3 fun v5 =>
  aLen false true v5 fun v6 =>
  aCall Try.prog (.p (.func val_Int_i [])) [v6] h3 fun v7 h8 =>
  aStore 5 v2 v7 h8 fun _ h10 =>
  aLoad true 5 v2 h10 fun v11 =>
  K v11 h10

def eval_ones_3_ann : Nat → List Nat := fun _ => []

theorem eval_ones_3_eq (x0 : AV) (H : List Ob) (r : AV) (Ho : List Ob) : aBody Try.prog eval_ones_3_ann Try.f126 H [x0] r Ho = eval_ones_3 x0 H (fun v H' => Gives H.length v H' r Ho) := by kernel_rfl

theorem eval_ones_3_fn {x0 : AV} {r : AV} {Ho : List Ob} (h : eval_ones_3 x0 [] (fun v H' => Gives 0 v H' r Ho)) : Abs.Fn Try.prog eval_ones_3_i [] [x0] r Ho :=
  fn_intro mixed eval_ones_3_ann (fn := Try.f126) (by kernel_rfl) (by kernel_rfl) (by rw [eval_ones_3_eq]; exact h)

/- runnel/eval.number -/
def eval_number (x0 : AV) (H : List Ob) (K : AV → List Ob → Prop) : Prop :=
  aBox x0 H fun v0 h1 =>
  aMakeFunc eval_number_1_i [v0] h1 fun v2 h3 =>
  K v2 h3

def eval_number_ann : Nat → List Nat := fun _ => []

theorem eval_number_eq (x0 : AV) (H : List Ob) (r : AV) (Ho : List Ob) : aBody Try.prog eval_number_ann Try.f127 H [x0] r Ho = eval_number x0 H (fun v H' => Gives H.length v H' r Ho) := by kernel_rfl

theorem eval_number_fn {x0 : AV} {r : AV} {Ho : List Ob} (h : eval_number x0 [] (fun v H' => Gives 0 v H' r Ho)) : Abs.Fn Try.prog eval_number_i [] [x0] r Ho :=
  fn_intro mixed eval_number_ann (fn := Try.f127) (by kernel_rfl) (by kernel_rfl) (by rw [eval_number_eq]; exact h)

/- runnel/eval.twos$1 -/
def eval_twos_1 (x0 x1 : AV) (H : List Ob) (K : AV → List Ob → Prop) : Prop :=
  aBin false false .add x0 x1 fun v0 =>
  K v0 H

def eval_twos_1_ann : Nat → List Nat := fun _ => []

theorem eval_twos_1_eq (x0 x1 : AV) (H : List Ob) (r : AV) (Ho : List Ob) : aBody Try.prog eval_twos_1_ann Try.f128 H [x0, x1] r Ho = eval_twos_1 x0 x1 H (fun v H' => Gives H.length v H' r Ho) := by kernel_rfl

theorem eval_twos_1_fn {x0 x1 : AV} {r : AV} {Ho : List Ob} (h : eval_twos_1 x0 x1 [] (fun v H' => Gives 0 v H' r Ho)) : Abs.Fn Try.prog eval_twos_1_i [] [x0, x1] r Ho :=
  fn_intro mixed eval_twos_1_ann (fn := Try.f128) (by kernel_rfl) (by kernel_rfl) (by rw [eval_twos_1_eq]; exact h)

/- runnel/eval.twos$2 -/
def eval_twos_2 (x0 x1 : AV) (H : List Ob) (K : AV → List Ob → Prop) : Prop :=
  aBin false false .sub x0 x1 fun v0 =>
  K v0 H

def eval_twos_2_ann : Nat → List Nat := fun _ => []

theorem eval_twos_2_eq (x0 x1 : AV) (H : List Ob) (r : AV) (Ho : List Ob) : aBody Try.prog eval_twos_2_ann Try.f129 H [x0, x1] r Ho = eval_twos_2 x0 x1 H (fun v H' => Gives H.length v H' r Ho) := by kernel_rfl

theorem eval_twos_2_fn {x0 x1 : AV} {r : AV} {Ho : List Ob} (h : eval_twos_2 x0 x1 [] (fun v H' => Gives 0 v H' r Ho)) : Abs.Fn Try.prog eval_twos_2_i [] [x0, x1] r Ho :=
  fn_intro mixed eval_twos_2_ann (fn := Try.f129) (by kernel_rfl) (by kernel_rfl) (by rw [eval_twos_2_eq]; exact h)

/- runnel/eval.twos$3 -/
def eval_twos_3 (x0 x1 : AV) (H : List Ob) (K : AV → List Ob → Prop) : Prop :=
  aBin false false .mul x0 x1 fun v0 =>
  K v0 H

def eval_twos_3_ann : Nat → List Nat := fun _ => []

theorem eval_twos_3_eq (x0 x1 : AV) (H : List Ob) (r : AV) (Ho : List Ob) : aBody Try.prog eval_twos_3_ann Try.f130 H [x0, x1] r Ho = eval_twos_3 x0 x1 H (fun v H' => Gives H.length v H' r Ho) := by kernel_rfl

theorem eval_twos_3_fn {x0 x1 : AV} {r : AV} {Ho : List Ob} (h : eval_twos_3 x0 x1 [] (fun v H' => Gives 0 v H' r Ho)) : Abs.Fn Try.prog eval_twos_3_i [] [x0, x1] r Ho :=
  fn_intro mixed eval_twos_3_ann (fn := Try.f130) (by kernel_rfl) (by kernel_rfl) (by rw [eval_twos_3_eq]; exact h)

/- runnel/eval.divided -/
def eval_divided (x0 : AV) (H : List Ob) (K : AV → List Ob → Prop) : Prop :=
  aBox x0 H fun v0 h1 =>
  aMakeFunc eval_divided_1_i [v0] h1 fun v2 h3 =>
  K v2 h3

def eval_divided_ann : Nat → List Nat := fun _ => []

theorem eval_divided_eq (x0 : AV) (H : List Ob) (r : AV) (Ho : List Ob) : aBody Try.prog eval_divided_ann Try.f131 H [x0] r Ho = eval_divided x0 H (fun v H' => Gives H.length v H' r Ho) := by kernel_rfl

theorem eval_divided_fn {x0 : AV} {r : AV} {Ho : List Ob} (h : eval_divided x0 [] (fun v H' => Gives 0 v H' r Ho)) : Abs.Fn Try.prog eval_divided_i [] [x0] r Ho :=
  fn_intro mixed eval_divided_ann (fn := Try.f131) (by kernel_rfl) (by kernel_rfl) (by rw [eval_divided_eq]; exact h)

/- runnel/eval.twos$4 -/
def eval_twos_4 (x0 x1 : AV) (H : List Ob) (K : AV → List Ob → Prop) : Prop :=
  aBin false false .quo x0 x1 fun v0 =>
  K v0 H

def eval_twos_4_ann : Nat → List Nat := fun _ => []

theorem eval_twos_4_eq (x0 x1 : AV) (H : List Ob) (r : AV) (Ho : List Ob) : aBody Try.prog eval_twos_4_ann Try.f132 H [x0, x1] r Ho = eval_twos_4 x0 x1 H (fun v H' => Gives H.length v H' r Ho) := by kernel_rfl

theorem eval_twos_4_fn {x0 x1 : AV} {r : AV} {Ho : List Ob} (h : eval_twos_4 x0 x1 [] (fun v H' => Gives 0 v H' r Ho)) : Abs.Fn Try.prog eval_twos_4_i [] [x0, x1] r Ho :=
  fn_intro mixed eval_twos_4_ann (fn := Try.f132) (by kernel_rfl) (by kernel_rfl) (by rw [eval_twos_4_eq]; exact h)

/- runnel/eval.twos$5 -/
def eval_twos_5 (x0 x1 : AV) (H : List Ob) (K : AV → List Ob → Prop) : Prop :=
  aBin false false .rem x0 x1 fun v0 =>
  K v0 H

def eval_twos_5_ann : Nat → List Nat := fun _ => []

theorem eval_twos_5_eq (x0 x1 : AV) (H : List Ob) (r : AV) (Ho : List Ob) : aBody Try.prog eval_twos_5_ann Try.f133 H [x0, x1] r Ho = eval_twos_5 x0 x1 H (fun v H' => Gives H.length v H' r Ho) := by kernel_rfl

theorem eval_twos_5_fn {x0 x1 : AV} {r : AV} {Ho : List Ob} (h : eval_twos_5 x0 x1 [] (fun v H' => Gives 0 v H' r Ho)) : Abs.Fn Try.prog eval_twos_5_i [] [x0, x1] r Ho :=
  fn_intro mixed eval_twos_5_ann (fn := Try.f133) (by kernel_rfl) (by kernel_rfl) (by rw [eval_twos_5_eq]; exact h)

/- runnel/eval.twos$6 -/
def eval_twos_6 (x0 x1 : AV) (H : List Ob) (K : AV → List Ob → Prop) : Prop :=
  aBox x0 H fun v0 h1 =>
  aBox x1 h1 fun v2 h3 =>
  aAlloc [(.p (.int .i64 0)), (.p (.int .i64 0)), (.p (.bool false)), (.p (.str [])), (.full [])] h3 fun v4 h5 =>
  aLoad true 5 v0 h5 fun v6 =>
  aLoad true 5 v2 h5 fun v7 =>
  aCall Try.prog (.p (.func val_Same_i [])) [v6, v7] h5 fun v8 h9 =>
  aCall Try.prog (.p (.func val_Bool_i [])) [v8] h9 fun v10 h11 =>
  aStore 5 v4 v10 h11 fun _ h13 =>
  aLoad true 5 v4 h13 fun v14 =>
  K (.tup [v14, (.p (.int .i64 0))]) h13

def eval_twos_6_ann : Nat → List Nat := fun _ => []

theorem eval_twos_6_eq (x0 x1 : AV) (H : List Ob) (r : AV) (Ho : List Ob) : aBody Try.prog eval_twos_6_ann Try.f134 H [x0, x1] r Ho = eval_twos_6 x0 x1 H (fun v H' => Gives H.length v H' r Ho) := by kernel_rfl

theorem eval_twos_6_fn {x0 x1 : AV} {r : AV} {Ho : List Ob} (h : eval_twos_6 x0 x1 [] (fun v H' => Gives 0 v H' r Ho)) : Abs.Fn Try.prog eval_twos_6_i [] [x0, x1] r Ho :=
  fn_intro mixed eval_twos_6_ann (fn := Try.f134) (by kernel_rfl) (by kernel_rfl) (by rw [eval_twos_6_eq]; exact h)

/- runnel/eval.twos$7 -/
def eval_twos_7 (x0 x1 : AV) (H : List Ob) (K : AV → List Ob → Prop) : Prop :=
  aBox x0 H fun v0 h1 =>
  aBox x1 h1 fun v2 h3 =>
  aAlloc [(.p (.int .i64 0)), (.p (.int .i64 0)), (.p (.bool false)), (.p (.str [])), (.full [])] h3 fun v4 h5 =>
  aLoad true 5 v0 h5 fun v6 =>
  aLoad true 5 v2 h5 fun v7 =>
  aCall Try.prog (.p (.func val_Compare_i [])) [v6, v7] h5 fun v8 h9 =>
  aBin false false .lss v8 (.p (.int .i64 0)) fun v10 =>
  aCall Try.prog (.p (.func val_Bool_i [])) [v10] h9 fun v11 h12 =>
  aStore 5 v4 v11 h12 fun _ h14 =>
  aLoad true 5 v4 h14 fun v15 =>
  K (.tup [v15, (.p (.int .i64 0))]) h14

def eval_twos_7_ann : Nat → List Nat := fun _ => []

theorem eval_twos_7_eq (x0 x1 : AV) (H : List Ob) (r : AV) (Ho : List Ob) : aBody Try.prog eval_twos_7_ann Try.f135 H [x0, x1] r Ho = eval_twos_7 x0 x1 H (fun v H' => Gives H.length v H' r Ho) := by kernel_rfl

theorem eval_twos_7_fn {x0 x1 : AV} {r : AV} {Ho : List Ob} (h : eval_twos_7 x0 x1 [] (fun v H' => Gives 0 v H' r Ho)) : Abs.Fn Try.prog eval_twos_7_i [] [x0, x1] r Ho :=
  fn_intro mixed eval_twos_7_ann (fn := Try.f135) (by kernel_rfl) (by kernel_rfl) (by rw [eval_twos_7_eq]; exact h)

/- runnel/eval.cat -/
def eval_cat (x0 x1 : AV) (H : List Ob) (K : AV → List Ob → Prop) : Prop :=
  aBox x0 H fun v0 h1 =>
  aBox x1 h1 fun v2 h3 =>
  aAlloc [(.p (.int .i64 0)), (.p (.int .i64 0)), (.p (.bool false)), (.p (.str [])), (.full [])] h3 fun v4 h5 =>
  aFieldAddr 3 v0 fun v6 =>
  aLoad false 1 v6 h5 fun v7 =>
  aLen false true v7 fun v8 =>
  aFieldAddr 3 v2 fun v9 =>
  aLoad false 1 v9 h5 fun v10 =>
  aLen false true v10 fun v11 =>
  aBin false false .add v8 v11 fun v12 =>
  aBin false false .gtr v12 (.p (.int .i64 255)) fun v13 =>
  aGuard v13
  (aBuild [(.p (.int .i64 0)), (.p (.int .i64 0)), (.p (.bool false)), (.p (.str [])), (.full [])] [] fun v14 =>
  aStore 5 v4 v14 h5 fun _ h16 =>
  aLoad true 5 v4 h16 fun v17 =>
  K (.tup [v17, (.p (.int .i64 4))]) h16)
  (aFieldAddr 3 v0 fun v18 =>
  aLoad false 1 v18 h5 fun v19 =>
  aFieldAddr 3 v2 fun v20 =>
  aLoad false 1 v20 h5 fun v21 =>
  aBin false false .add v19 v21 fun v22 =>
  aCall Try.prog (.p (.func val_Str_i [])) [v22] h5 fun v23 h24 =>
  aStore 5 v4 v23 h24 fun _ h26 =>
  aLoad true 5 v4 h26 fun v27 =>
  K (.tup [v27, (.p (.int .i64 0))]) h26)

def eval_cat_ann : Nat → List Nat := fun _ => []

theorem eval_cat_eq (x0 x1 : AV) (H : List Ob) (r : AV) (Ho : List Ob) : aBody Try.prog eval_cat_ann Try.f136 H [x0, x1] r Ho = eval_cat x0 x1 H (fun v H' => Gives H.length v H' r Ho) := by kernel_rfl

theorem eval_cat_fn {x0 x1 : AV} {r : AV} {Ho : List Ob} (h : eval_cat x0 x1 [] (fun v H' => Gives 0 v H' r Ho)) : Abs.Fn Try.prog eval_cat_i [] [x0, x1] r Ho :=
  fn_intro mixed eval_cat_ann (fn := Try.f136) (by kernel_rfl) (by kernel_rfl) (by rw [eval_cat_eq]; exact h)

/- runnel/eval.number$1 -/
def eval_number_1 (x0 x1 x2 : AV) (H : List Ob) (K : AV → List Ob → Prop) : Prop :=
  aBox x0 H fun v0 h1 =>
  aBox x1 h1 fun v2 h3 =>
  aAlloc [(.p (.int .i64 0)), (.p (.int .i64 0)), (.p (.bool false)), (.p (.str [])), (.full [])] h3 fun v4 h5 =>
  aLoad false 1 x2 h5 fun v6 =>
  aFieldAddr 1 v0 fun v7 =>
  aLoad false 1 v7 h5 fun v8 =>
  aFieldAddr 1 v2 fun v9 =>
  aLoad false 1 v9 h5 fun v10 =>
  aCall Try.prog v6 [v8, v10] h5 fun v11 h12 =>
  aCall Try.prog (.p (.func val_Int_i [])) [v11] h12 fun v13 h14 =>
  aStore 5 v4 v13 h14 fun _ h16 =>
  aLoad true 5 v4 h16 fun v17 =>
  K (.tup [v17, (.p (.int .i64 0))]) h16

def eval_number_1_ann : Nat → List Nat := fun _ => []

theorem eval_number_1_eq (x0 x1 x2 : AV) (H : List Ob) (r : AV) (Ho : List Ob) : aBody Try.prog eval_number_1_ann Try.f154 H [x0, x1, x2] r Ho = eval_number_1 x0 x1 x2 H (fun v H' => Gives H.length v H' r Ho) := by kernel_rfl

theorem eval_number_1_fn {x0 x1 x2 : AV} {r : AV} {Ho : List Ob} (h : eval_number_1 x0 x1 x2 [] (fun v H' => Gives 0 v H' r Ho)) : Abs.Fn Try.prog eval_number_1_i [] [x0, x1, x2] r Ho :=
  fn_intro mixed eval_number_1_ann (fn := Try.f154) (by kernel_rfl) (by kernel_rfl) (by rw [eval_number_1_eq]; exact h)

/- runnel/eval.divided$1 -/
def eval_divided_1 (x0 x1 x2 : AV) (H : List Ob) (K : AV → List Ob → Prop) : Prop :=
  aBox x0 H fun v0 h1 =>
  aBox x1 h1 fun v2 h3 =>
  aAlloc [(.p (.int .i64 0)), (.p (.int .i64 0)), (.p (.bool false)), (.p (.str [])), (.full [])] h3 fun v4 h5 =>
  aFieldAddr 1 v2 fun v6 =>
  aLoad false 1 v6 h5 fun v7 =>
  aBin false false .eql v7 (.p (.int .i64 0)) fun v8 =>
  aGuard v8
  (aBuild [(.p (.int .i64 0)), (.p (.int .i64 0)), (.p (.bool false)), (.p (.str [])), (.full [])] [] fun v9 =>
  aStore 5 v4 v9 h5 fun _ h11 =>
  aLoad true 5 v4 h11 fun v12 =>
  K (.tup [v12, (.p (.int .i64 8))]) h11)
  (aLoad false 1 x2 h5 fun v13 =>
  aFieldAddr 1 v0 fun v14 =>
  aLoad false 1 v14 h5 fun v15 =>
  aFieldAddr 1 v2 fun v16 =>
  aLoad false 1 v16 h5 fun v17 =>
  aCall Try.prog v13 [v15, v17] h5 fun v18 h19 =>
  aCall Try.prog (.p (.func val_Int_i [])) [v18] h19 fun v20 h21 =>
  aStore 5 v4 v20 h21 fun _ h23 =>
  aLoad true 5 v4 h23 fun v24 =>
  K (.tup [v24, (.p (.int .i64 0))]) h23)

def eval_divided_1_ann : Nat → List Nat := fun _ => []

theorem eval_divided_1_eq (x0 x1 x2 : AV) (H : List Ob) (r : AV) (Ho : List Ob) : aBody Try.prog eval_divided_1_ann Try.f155 H [x0, x1, x2] r Ho = eval_divided_1 x0 x1 x2 H (fun v H' => Gives H.length v H' r Ho) := by kernel_rfl

theorem eval_divided_1_fn {x0 x1 x2 : AV} {r : AV} {Ho : List Ob} (h : eval_divided_1 x0 x1 x2 [] (fun v H' => Gives 0 v H' r Ho)) : Abs.Fn Try.prog eval_divided_1_i [] [x0, x1, x2] r Ho :=
  fn_intro mixed eval_divided_1_ann (fn := Try.f155) (by kernel_rfl) (by kernel_rfl) (by rw [eval_divided_1_eq]; exact h)

end Go.Proofs.Ytiejfphchpcldaa
