/- Made by program (Gen.lean): functions of the dump, over trees. -/
import Derived.Test.YtgfnodmghaghpaaGreatDoorS2

section
/- Made by program (Gen.lean): functions of the dump, over trees. -/
set_option maxRecDepth 4000
set_option linter.unusedVariables false
namespace Go.Proofs.YtgfnodmghaghpaaGreatDoor
open Go Go.Abs

/- runnel/runnelref14.Gen -/
def runnelref14_Gen_L1 (q1s1 y0 y1 : AV) (H : List Ob) (B1 : List AV → List Ob → Prop) (K : AV → List Ob → Prop) : Prop :=
  aFieldAddr 4 q1s1 fun v45 =>
  aLoad false 1 v45 H fun v46 =>
  aLen false false v46 fun v47 =>
  aBin false false .lss y1 v47 fun v48 =>
  aGuard v48
  (aFieldAddr 4 q1s1 fun v49 =>
  aLoad false 1 v49 H fun v50 =>
  aIndexAddr 8 v50 y1 fun v51 =>
  aLoad true 8 v51 H fun v52 =>
  aCall Tryz.prog (.p (.func runnelref14_GenExpr_i [])) [v52] H fun v53 h54 =>
  aCall Tryz.prog (.p (.func runnelref14_join_i [])) [y0, v53] h54 fun v55 h56 =>
  aBin false false .add y1 (.p (.int .i64 1)) fun v57 =>
  B1 [v55, v57] h56)
  (aFieldAddr 4 q1s1 fun v58 =>
  aLoad false 1 v58 H fun v59 =>
  aLen false false v59 fun v60 =>
  aCall Tryz.prog (.p (.func runnelref14_one_i [])) [(.p (.str [101, 109, 105, 116])), v60] H fun v61 h62 =>
  aCall Tryz.prog (.p (.func runnelref14_one_i [])) [(.p (.str [114, 101, 116])), (.p (.int .i64 0))] h62 fun v63 h64 =>
  aBuildSlice 7 [v61, v63] fun v65 =>
  aAppend false 7 88 y0 v65 h64 fun v66 h67 =>
  K v66 h67)

def runnelref14_Gen (x0 : AV) (H : List Ob) (K : AV → List Ob → Prop) : Prop :=
  aBox x0 H fun v0 h1 =>
  aFieldAddr 0 v0 fun v2 =>
  aLoad false 1 v2 h1 fun v3 =>
  aBin false false .eql v3 (.p (.int .i64 2)) fun v4 =>
  aMerge false v4 (fun Q5 =>
  aBin false false .eql v3 (.p (.int .i64 5)) fun v6 =>
  (h1 = h1 ∧ Q5 v6)) fun v7 =>
  aGuard v7
  (aFieldAddr 4 v0 fun v8 =>
  aLoad false 1 v8 h1 fun v9 =>
  aIndexAddr 8 v9 (.p (.int .i64 0)) fun v10 =>
  aLoad true 8 v10 h1 fun v11 =>
  aCall Tryz.prog (.p (.func runnelref14_GenExpr_i [])) [v11] h1 fun v12 h13 =>
  aCall Tryz.prog (.p (.func runnelref14_one_i [])) [(.p (.str [101, 109, 105, 116])), (.p (.int .i64 1))] h13 fun v14 h15 =>
  aCall Tryz.prog (.p (.func runnelref14_one_i [])) [(.p (.str [114, 101, 116])), (.p (.int .i64 0))] h15 fun v16 h17 =>
  aBuildSlice 7 [v14, v16] fun v18 =>
  aAppend false 7 88 v12 v18 h17 fun v19 h20 =>
  K v19 h20)
  (aBin false false .eql v3 (.p (.int .i64 3)) fun v21 =>
  aGuard v21
  (aFieldAddr 4 v0 fun v22 =>
  aLoad false 1 v22 h1 fun v23 =>
  aIndexAddr 8 v23 (.p (.int .i64 0)) fun v24 =>
  aLoad true 8 v24 h1 fun v25 =>
  aCall Tryz.prog (.p (.func runnelref14_GenExpr_i [])) [v25] h1 fun v26 h27 =>
  aLen false false v26 fun v28 =>
  aBin false false .add v28 (.p (.int .i64 3)) fun v29 =>
  aCall Tryz.prog (.p (.func runnelref14_one_i [])) [(.p (.str [106, 102])), v29] h27 fun v30 h31 =>
  aCall Tryz.prog (.p (.func runnelref14_one_i [])) [(.p (.str [120])), (.p (.int .i64 0))] h31 fun v32 h33 =>
  aBuildSlice 7 [v30, v32] fun v34 =>
  aAppend false 7 88 v26 v34 h33 fun v35 h36 =>
  aCall Tryz.prog (.p (.func runnelref14_one_i [])) [(.p (.str [101, 109, 105, 116])), (.p (.int .i64 1))] h36 fun v37 h38 =>
  aCall Tryz.prog (.p (.func runnelref14_one_i [])) [(.p (.str [114, 101, 116])), (.p (.int .i64 0))] h38 fun v39 h40 =>
  aBuildSlice 7 [v37, v39] fun v41 =>
  aAppend false 7 88 v35 v41 h40 fun v42 h43 =>
  K v42 h43)
  (aBin false false .eql v3 (.p (.int .i64 4)) fun v44 =>
  aGuard v44
  (aLoopN 2 [(.full []), (.p (.int .i64 0))] h1 fun xs H B1 => runnelref14_Gen_L1 v0 (xs.getD 0 .top) (xs.getD 1 .top) H B1 K)
  (aCall Tryz.prog (.p (.func runnelref14_one_i [])) [(.p (.str [120])), (.p (.int .i64 0))] h1 fun v68 h69 =>
  aBuildSlice 7 [v68] fun v70 =>
  aCall Tryz.prog (.p (.func runnelref14_one_i [])) [(.p (.str [101, 109, 105, 116])), (.p (.int .i64 1))] h69 fun v71 h72 =>
  aCall Tryz.prog (.p (.func runnelref14_one_i [])) [(.p (.str [114, 101, 116])), (.p (.int .i64 0))] h72 fun v73 h74 =>
  aBuildSlice 7 [v71, v73] fun v75 =>
  aAppend false 7 88 v70 v75 h74 fun v76 h77 =>
  K v76 h77)))

def runnelref14_Gen_ann : Nat → List Nat := fun k => match k with | 13 => [3, 5] | 1000006 => [1] | _ => []

theorem runnelref14_Gen_eq (x0 : AV) (H : List Ob) (r : AV) (Ho : List Ob) : aBody Tryz.prog runnelref14_Gen_ann Tryz.f14 H [x0] r Ho = runnelref14_Gen x0 H (fun v H' => Gives H.length v H' r Ho) := by kernel_rfl

theorem runnelref14_Gen_fnH {x0 : AV} {Hin : List Ob} {r : AV} {Ho : List Ob} (h : runnelref14_Gen x0 Hin (fun v H' => Gives Hin.length v H' r Ho)) : Abs.Fn Tryz.prog runnelref14_Gen_i Hin [x0] r Ho :=
  fn_intro mixed runnelref14_Gen_ann (fn := Tryz.f14) (by kernel_rfl) (by kernel_rfl) (by rw [runnelref14_Gen_eq]; exact h)

theorem runnelref14_Gen_fn {x0 : AV} {r : AV} {Ho : List Ob} (h : runnelref14_Gen x0 [] (fun v H' => Gives 0 v H' r Ho)) : Abs.Fn Tryz.prog runnelref14_Gen_i [] [x0] r Ho := runnelref14_Gen_fnH (Hin := []) h

/- runnel/runnelref14.GenExpr -/
def runnelref14_GenExpr_L1 (q1s1 y0 y1 : AV) (H : List Ob) (B1 : List AV → List Ob → Prop) (K : AV → List Ob → Prop) : Prop :=
  aFieldAddr 7 q1s1 fun v61 =>
  aLoad false 1 v61 H fun v62 =>
  aLen false false v62 fun v63 =>
  aBin false false .lss y1 v63 fun v64 =>
  aGuard v64
  (aFieldAddr 7 q1s1 fun v65 =>
  aLoad false 1 v65 H fun v66 =>
  aIndexAddr 8 v66 y1 fun v67 =>
  aLoad true 8 v67 H fun v68 =>
  aCall Tryz.prog (.p (.func runnelref14_GenExpr_i [])) [v68] H fun v69 h70 =>
  aCall Tryz.prog (.p (.func runnelref14_join_i [])) [y0, v69] h70 fun v71 h72 =>
  aBin false false .add y1 (.p (.int .i64 1)) fun v73 =>
  B1 [v71, v73] h72)
  (aFieldAddr 0 q1s1 fun v74 =>
  aLoad false 1 v74 H fun v75 =>
  aBin false false .eql v75 (.p (.str [97, 116])) fun v76 =>
  aGuard v76
  (aFieldAddr 6 q1s1 fun v77 =>
  aLoad false 1 v77 H fun v78 =>
  aCall Tryz.prog (.p (.func runnelref14_one_i [])) [(.p (.str [97, 116])), v78] H fun v79 h80 =>
  aBuildSlice 7 [v79] fun v81 =>
  aAppend false 7 88 y0 v81 h80 fun v82 h83 =>
  K v82 h83)
  (aBin false false .eql v75 (.p (.str [116, 117, 112])) fun v84 =>
  aGuard v84
  (aFieldAddr 7 q1s1 fun v85 =>
  aLoad false 1 v85 H fun v86 =>
  aLen false false v86 fun v87 =>
  aCall Tryz.prog (.p (.func runnelref14_one_i [])) [(.p (.str [116, 117, 112])), v87] H fun v88 h89 =>
  aBuildSlice 7 [v88] fun v90 =>
  aAppend false 7 88 y0 v90 h89 fun v91 h92 =>
  K v91 h92)
  (aFieldAddr 0 q1s1 fun v93 =>
  aLoad false 1 v93 H fun v94 =>
  aCall Tryz.prog (.p (.func runnelref14_one_i [])) [v94, (.p (.int .i64 0))] H fun v95 h96 =>
  aBuildSlice 7 [v95] fun v97 =>
  aAppend false 7 88 y0 v97 h96 fun v98 h99 =>
  K v98 h99)))

def runnelref14_GenExpr (x0 : AV) (H : List Ob) (K : AV → List Ob → Prop) : Prop :=
  aBox x0 H fun v0 h1 =>
  aFieldAddr 0 v0 fun v2 =>
  aLoad false 1 v2 h1 fun v3 =>
  aBin false false .eql v3 (.p (.str [108, 105, 116])) fun v4 =>
  aGuard v4
  (aFieldAddr 1 v0 fun v5 =>
  aLoad true 5 v5 h1 fun v6 =>
  aBuild [(.p (.str [])), (.p (.int .i64 0)), (.p (.int .i64 0)), (.p (.bool false)), (.p (.str [])), (.full []), (.p (.int .i64 0))] [(0, 1, (.p (.str [112, 117, 115, 104]))), (1, 5, v6)] fun v7 =>
  aBuildSlice 7 [v7] fun v8 =>
  K v8 h1)
  (aBin false false .eql v3 (.p (.str [120])) fun v9 =>
  aGuard v9
  (aCall Tryz.prog (.p (.func runnelref14_one_i [])) [(.p (.str [120])), (.p (.int .i64 0))] h1 fun v10 h11 =>
  aBuildSlice 7 [v10] fun v12 =>
  K v12 h11)
  (aBin false false .eql v3 (.p (.str [97, 110, 100])) fun v13 =>
  aGuard v13
  (aFieldAddr 7 v0 fun v14 =>
  aLoad false 1 v14 h1 fun v15 =>
  aIndexAddr 8 v15 (.p (.int .i64 0)) fun v16 =>
  aLoad true 8 v16 h1 fun v17 =>
  aCallT Tryz.prog (.p (.func runnelref14_GenExpr_i [])) [v17] fun v18 =>
  aFieldAddr 7 v0 fun v19 =>
  aLoad false 1 v19 h1 fun v20 =>
  aIndexAddr 8 v20 (.p (.int .i64 1)) fun v21 =>
  aLoad true 8 v21 h1 fun v22 =>
  aCallT Tryz.prog (.p (.func runnelref14_GenExpr_i [])) [v22] fun v23 =>
  aCallT Tryz.prog (.p (.func runnelref14_yes_i [])) [(.p (.bool false))] fun v24 =>
  aBuildSlice 7 [v24] fun v25 =>
  aCall Tryz.prog (.p (.func runnelref14_choose_i [])) [v18, v23, v25] h1 fun v26 h27 =>
  K v26 h27)
  (aBin false false .eql v3 (.p (.str [111, 114])) fun v28 =>
  aGuard v28
  (aFieldAddr 7 v0 fun v29 =>
  aLoad false 1 v29 h1 fun v30 =>
  aIndexAddr 8 v30 (.p (.int .i64 0)) fun v31 =>
  aLoad true 8 v31 h1 fun v32 =>
  aCallT Tryz.prog (.p (.func runnelref14_GenExpr_i [])) [v32] fun v33 =>
  aCallT Tryz.prog (.p (.func runnelref14_yes_i [])) [(.p (.bool true))] fun v34 =>
  aBuildSlice 7 [v34] fun v35 =>
  aFieldAddr 7 v0 fun v36 =>
  aLoad false 1 v36 h1 fun v37 =>
  aIndexAddr 8 v37 (.p (.int .i64 1)) fun v38 =>
  aLoad true 8 v38 h1 fun v39 =>
  aCallT Tryz.prog (.p (.func runnelref14_GenExpr_i [])) [v39] fun v40 =>
  aCall Tryz.prog (.p (.func runnelref14_choose_i [])) [v33, v35, v40] h1 fun v41 h42 =>
  K v41 h42)
  (aBin false false .eql v3 (.p (.str [105, 102])) fun v43 =>
  aGuard v43
  (aFieldAddr 7 v0 fun v44 =>
  aLoad false 1 v44 h1 fun v45 =>
  aIndexAddr 8 v45 (.p (.int .i64 0)) fun v46 =>
  aLoad true 8 v46 h1 fun v47 =>
  aCallT Tryz.prog (.p (.func runnelref14_GenExpr_i [])) [v47] fun v48 =>
  aFieldAddr 7 v0 fun v49 =>
  aLoad false 1 v49 h1 fun v50 =>
  aIndexAddr 8 v50 (.p (.int .i64 1)) fun v51 =>
  aLoad true 8 v51 h1 fun v52 =>
  aCallT Tryz.prog (.p (.func runnelref14_GenExpr_i [])) [v52] fun v53 =>
  aFieldAddr 7 v0 fun v54 =>
  aLoad false 1 v54 h1 fun v55 =>
  aIndexAddr 8 v55 (.p (.int .i64 2)) fun v56 =>
  aLoad true 8 v56 h1 fun v57 =>
  aCallT Tryz.prog (.p (.func runnelref14_GenExpr_i [])) [v57] fun v58 =>
  aCall Tryz.prog (.p (.func runnelref14_choose_i [])) [v48, v53, v58] h1 fun v59 h60 =>
  K v59 h60)
  (aLoopN 2 [(.full []), (.p (.int .i64 0))] h1 fun xs H B1 => runnelref14_GenExpr_L1 v0 (xs.getD 0 .top) (xs.getD 1 .top) H B1 K)))))

def runnelref14_GenExpr_ann : Nat → List Nat := fun k => match k with | 14 => [3, 4] | 3000007 => [2] | 3000009 => [2] | 3000011 => [2] | _ => []

theorem runnelref14_GenExpr_eq (x0 : AV) (H : List Ob) (r : AV) (Ho : List Ob) : aBody Tryz.prog runnelref14_GenExpr_ann Tryz.f40 H [x0] r Ho = runnelref14_GenExpr x0 H (fun v H' => Gives H.length v H' r Ho) := by kernel_rfl

theorem runnelref14_GenExpr_fnH {x0 : AV} {Hin : List Ob} {r : AV} {Ho : List Ob} (h : runnelref14_GenExpr x0 Hin (fun v H' => Gives Hin.length v H' r Ho)) : Abs.Fn Tryz.prog runnelref14_GenExpr_i Hin [x0] r Ho :=
  fn_intro mixed runnelref14_GenExpr_ann (fn := Tryz.f40) (by kernel_rfl) (by kernel_rfl) (by rw [runnelref14_GenExpr_eq]; exact h)

theorem runnelref14_GenExpr_fn {x0 : AV} {r : AV} {Ho : List Ob} (h : runnelref14_GenExpr x0 [] (fun v H' => Gives 0 v H' r Ho)) : Abs.Fn Tryz.prog runnelref14_GenExpr_i [] [x0] r Ho := runnelref14_GenExpr_fnH (Hin := []) h

/- runnel/runnelref14.one -/
def runnelref14_one (x0 x1 : AV) (H : List Ob) (K : AV → List Ob → Prop) : Prop :=
  aAlloc [(.p (.str [])), (.p (.int .i64 0)), (.p (.int .i64 0)), (.p (.bool false)), (.p (.str [])), (.full []), (.p (.int .i64 0))] H fun v0 h1 =>
  aBuild [(.p (.str [])), (.p (.int .i64 0)), (.p (.int .i64 0)), (.p (.bool false)), (.p (.str [])), (.full []), (.p (.int .i64 0))] [(0, 1, x0), (6, 1, x1)] fun v2 =>
  aStore 7 v0 v2 h1 fun _ h4 =>
  aLoad true 7 v0 h4 fun v5 =>
  K v5 h4

def runnelref14_one_ann : Nat → List Nat := fun _ => []

theorem runnelref14_one_eq (x0 x1 : AV) (H : List Ob) (r : AV) (Ho : List Ob) : aBody Tryz.prog runnelref14_one_ann Tryz.f41 H [x0, x1] r Ho = runnelref14_one x0 x1 H (fun v H' => Gives H.length v H' r Ho) := by kernel_rfl

theorem runnelref14_one_fnH {x0 x1 : AV} {Hin : List Ob} {r : AV} {Ho : List Ob} (h : runnelref14_one x0 x1 Hin (fun v H' => Gives Hin.length v H' r Ho)) : Abs.Fn Tryz.prog runnelref14_one_i Hin [x0, x1] r Ho :=
  fn_intro mixed runnelref14_one_ann (fn := Tryz.f41) (by kernel_rfl) (by kernel_rfl) (by rw [runnelref14_one_eq]; exact h)

theorem runnelref14_one_fn {x0 x1 : AV} {r : AV} {Ho : List Ob} (h : runnelref14_one x0 x1 [] (fun v H' => Gives 0 v H' r Ho)) : Abs.Fn Tryz.prog runnelref14_one_i [] [x0, x1] r Ho := runnelref14_one_fnH (Hin := []) h

/- runnel/runnelref14.join -/
def runnelref14_join (x0 x1 : AV) (H : List Ob) (K : AV → List Ob → Prop) : Prop :=
  aBuildSlice 7 [] fun v0 =>
  aAppend false 7 88 v0 x0 H fun v1 h2 =>
  aLen false false x0 fun v3 =>
  aCall Tryz.prog (.p (.func runnelref14_moved_i [])) [x1, v3] h2 fun v4 h5 =>
  aAppend false 7 88 v1 v4 h5 fun v6 h7 =>
  K v6 h7

def runnelref14_join_ann : Nat → List Nat := fun _ => []

theorem runnelref14_join_eq (x0 x1 : AV) (H : List Ob) (r : AV) (Ho : List Ob) : aBody Tryz.prog runnelref14_join_ann Tryz.f42 H [x0, x1] r Ho = runnelref14_join x0 x1 H (fun v H' => Gives H.length v H' r Ho) := by kernel_rfl

theorem runnelref14_join_fnH {x0 x1 : AV} {Hin : List Ob} {r : AV} {Ho : List Ob} (h : runnelref14_join x0 x1 Hin (fun v H' => Gives Hin.length v H' r Ho)) : Abs.Fn Tryz.prog runnelref14_join_i Hin [x0, x1] r Ho :=
  fn_intro mixed runnelref14_join_ann (fn := Tryz.f42) (by kernel_rfl) (by kernel_rfl) (by rw [runnelref14_join_eq]; exact h)

theorem runnelref14_join_fn {x0 x1 : AV} {r : AV} {Ho : List Ob} (h : runnelref14_join x0 x1 [] (fun v H' => Gives 0 v H' r Ho)) : Abs.Fn Tryz.prog runnelref14_join_i [] [x0, x1] r Ho := runnelref14_join_fnH (Hin := []) h

/- runnel/runnelref14.choose -/
def runnelref14_choose (x0 x1 x2 : AV) (H : List Ob) (K : AV → List Ob → Prop) : Prop :=
  aLen false false x0 fun v0 =>
  aBin false false .add v0 (.p (.int .i64 1)) fun v1 =>
  aLen false false x1 fun v2 =>
  aBin false false .add v1 v2 fun v3 =>
  aBin false false .add v3 (.p (.int .i64 1)) fun v4 =>
  aBuildSlice 7 [] fun v5 =>
  aAppend false 7 88 v5 x0 H fun v6 h7 =>
  aCall Tryz.prog (.p (.func runnelref14_one_i [])) [(.p (.str [106, 102])), v4] h7 fun v8 h9 =>
  aBuildSlice 7 [v8] fun v10 =>
  aAppend false 7 88 v6 v10 h9 fun v11 h12 =>
  aCall Tryz.prog (.p (.func runnelref14_join_i [])) [v11, x1] h12 fun v13 h14 =>
  aLen false false x2 fun v15 =>
  aBin false false .add v4 v15 fun v16 =>
  aCall Tryz.prog (.p (.func runnelref14_one_i [])) [(.p (.str [106, 109, 112])), v16] h14 fun v17 h18 =>
  aBuildSlice 7 [v17] fun v19 =>
  aAppend false 7 88 v13 v19 h18 fun v20 h21 =>
  aCall Tryz.prog (.p (.func runnelref14_join_i [])) [v20, x2] h21 fun v22 h23 =>
  K v22 h23

def runnelref14_choose_ann : Nat → List Nat := fun _ => []

theorem runnelref14_choose_eq (x0 x1 x2 : AV) (H : List Ob) (r : AV) (Ho : List Ob) : aBody Tryz.prog runnelref14_choose_ann Tryz.f72 H [x0, x1, x2] r Ho = runnelref14_choose x0 x1 x2 H (fun v H' => Gives H.length v H' r Ho) := by kernel_rfl

theorem runnelref14_choose_fnH {x0 x1 x2 : AV} {Hin : List Ob} {r : AV} {Ho : List Ob} (h : runnelref14_choose x0 x1 x2 Hin (fun v H' => Gives Hin.length v H' r Ho)) : Abs.Fn Tryz.prog runnelref14_choose_i Hin [x0, x1, x2] r Ho :=
  fn_intro mixed runnelref14_choose_ann (fn := Tryz.f72) (by kernel_rfl) (by kernel_rfl) (by rw [runnelref14_choose_eq]; exact h)

theorem runnelref14_choose_fn {x0 x1 x2 : AV} {r : AV} {Ho : List Ob} (h : runnelref14_choose x0 x1 x2 [] (fun v H' => Gives 0 v H' r Ho)) : Abs.Fn Tryz.prog runnelref14_choose_i [] [x0, x1, x2] r Ho := runnelref14_choose_fnH (Hin := []) h

/- runnel/runnelref14.yes -/
def runnelref14_yes (x0 : AV) (H : List Ob) (K : AV → List Ob → Prop) : Prop :=
  aAlloc [(.p (.str [])), (.p (.int .i64 0)), (.p (.int .i64 0)), (.p (.bool false)), (.p (.str [])), (.full []), (.p (.int .i64 0))] H fun v0 h1 =>
  aCall Tryz.prog (.p (.func runnelref6_Yes_i [])) [x0] h1 fun v2 h3 =>
  aBuild [(.p (.str [])), (.p (.int .i64 0)), (.p (.int .i64 0)), (.p (.bool false)), (.p (.str [])), (.full []), (.p (.int .i64 0))] [(0, 1, (.p (.str [112, 117, 115, 104]))), (1, 5, v2)] fun v4 =>
  aStore 7 v0 v4 h3 fun _ h6 =>
  aLoad true 7 v0 h6 fun v7 =>
  K v7 h6

def runnelref14_yes_ann : Nat → List Nat := fun _ => []

theorem runnelref14_yes_eq (x0 : AV) (H : List Ob) (r : AV) (Ho : List Ob) : aBody Tryz.prog runnelref14_yes_ann Tryz.f73 H [x0] r Ho = runnelref14_yes x0 H (fun v H' => Gives H.length v H' r Ho) := by kernel_rfl

theorem runnelref14_yes_fnH {x0 : AV} {Hin : List Ob} {r : AV} {Ho : List Ob} (h : runnelref14_yes x0 Hin (fun v H' => Gives Hin.length v H' r Ho)) : Abs.Fn Tryz.prog runnelref14_yes_i Hin [x0] r Ho :=
  fn_intro mixed runnelref14_yes_ann (fn := Tryz.f73) (by kernel_rfl) (by kernel_rfl) (by rw [runnelref14_yes_eq]; exact h)

theorem runnelref14_yes_fn {x0 : AV} {r : AV} {Ho : List Ob} (h : runnelref14_yes x0 [] (fun v H' => Gives 0 v H' r Ho)) : Abs.Fn Tryz.prog runnelref14_yes_i [] [x0] r Ho := runnelref14_yes_fnH (Hin := []) h

/- runnel/runnelref14.moved -/
def runnelref14_moved_L1 (q1s0 q1s1 y0 y1 : AV) (H : List Ob) (B1 : List AV → List Ob → Prop) (K : AV → List Ob → Prop) : Prop :=
  aLen false false q1s0 fun v0 =>
  aBin false false .lss y1 v0 fun v1 =>
  aGuard v1
  (aIndexAddr 7 q1s0 y1 fun v2 =>
  aLoad true 7 v2 H fun v3 =>
  aAlloc [(.p (.str [])), (.p (.int .i64 0)), (.p (.int .i64 0)), (.p (.bool false)), (.p (.str [])), (.full []), (.p (.int .i64 0))] H fun v4 h5 =>
  aStore 7 v4 v3 h5 fun _ h7 =>
  aFieldAddr 0 v4 fun v8 =>
  aLoad false 1 v8 h7 fun v9 =>
  aBin false false .eql v9 (.p (.str [106, 109, 112])) fun v10 =>
  aMerge false v10 (fun Q11 =>
  aFieldAddr 0 v4 fun v12 =>
  aLoad false 1 v12 h7 fun v13 =>
  aBin false false .eql v13 (.p (.str [106, 102])) fun v14 =>
  (h7 = h7 ∧ Q11 v14)) fun v15 =>
  aGuard v15
  (aFieldAddr 6 v4 fun v16 =>
  aLoad false 1 v16 h7 fun v17 =>
  aBin false false .add v17 q1s1 fun v18 =>
  aFieldAddr 6 v4 fun v19 =>
  aStore 1 v19 v18 h7 fun _ h21 =>
  aLoad true 7 v4 h21 fun v22 =>
  aBuildSlice 7 [v22] fun v23 =>
  aAppend false 7 88 y0 v23 h21 fun v24 h25 =>
  aBin false false .add y1 (.p (.int .i64 1)) fun v26 =>
  B1 [v24, v26] h25)
  (aLoad true 7 v4 h7 fun v27 =>
  aBuildSlice 7 [v27] fun v28 =>
  aAppend false 7 88 y0 v28 h7 fun v29 h30 =>
  aBin false false .add y1 (.p (.int .i64 1)) fun v31 =>
  B1 [v29, v31] h30))
  (K y0 H)

def runnelref14_moved (x0 x1 : AV) (H : List Ob) (K : AV → List Ob → Prop) : Prop :=
  aLoopN 2 [(.full []), (.p (.int .i64 0))] H fun xs H B1 => runnelref14_moved_L1 x0 x1 (xs.getD 0 .top) (xs.getD 1 .top) H B1 K

def runnelref14_moved_ann : Nat → List Nat := fun k => match k with | 3 => [5, 6] | _ => []

theorem runnelref14_moved_eq (x0 x1 : AV) (H : List Ob) (r : AV) (Ho : List Ob) : aBody Tryz.prog runnelref14_moved_ann Tryz.f74 H [x0, x1] r Ho = runnelref14_moved x0 x1 H (fun v H' => Gives H.length v H' r Ho) := by kernel_rfl

theorem runnelref14_moved_fnH {x0 x1 : AV} {Hin : List Ob} {r : AV} {Ho : List Ob} (h : runnelref14_moved x0 x1 Hin (fun v H' => Gives Hin.length v H' r Ho)) : Abs.Fn Tryz.prog runnelref14_moved_i Hin [x0, x1] r Ho :=
  fn_intro mixed runnelref14_moved_ann (fn := Tryz.f74) (by kernel_rfl) (by kernel_rfl) (by rw [runnelref14_moved_eq]; exact h)

theorem runnelref14_moved_fn {x0 x1 : AV} {r : AV} {Ho : List Ob} (h : runnelref14_moved x0 x1 [] (fun v H' => Gives 0 v H' r Ho)) : Abs.Fn Tryz.prog runnelref14_moved_i [] [x0, x1] r Ho := runnelref14_moved_fnH (Hin := []) h

end Go.Proofs.YtgfnodmghaghpaaGreatDoor
end

section
/- Made by program (Gen.lean): functions of the dump, over trees. -/
set_option maxRecDepth 4000
set_option linter.unusedVariables false
namespace Go.Proofs.YtgfnodmghaghpaaGreatDoor
open Go Go.Abs

/- runnel/runnellaw13.VerGen -/
def runnellaw13_VerGen (x0 x1 : AV) (H : List Ob) (K : AV → List Ob → Prop) : Prop :=
  aBox x0 H fun v0 h1 =>
  aBox x1 h1 fun v2 h3 =>
  aCall Tryz.prog (.p (.func runnellaw13_known_i [])) [] h3 fun v4 h5 =>
  aUn .not v4 fun v6 =>
  aGuard v6
  (K (.p (.bool false)) h5)
  (aLoad true 15 v0 h5 fun v7 =>
  aCall Tryz.prog (.p (.func runnellaw7_Few_i [])) [v7] h5 fun v8 h9 =>
  aUn .not v8 fun v10 =>
  aMerge false v10 (fun Q11 =>
  aLoad true 2 v2 h9 fun v12 =>
  aCall Tryz.prog (.p (.func runnellaw1_Few_i [])) [v12] h9 fun v13 h14 =>
  aUn .not v13 fun v15 =>
  (h14 = h9 ∧ Q11 v15)) fun v16 =>
  aGuard v16
  (K (.p (.bool true)) h9)
  (aLoad true 15 v0 h9 fun v17 =>
  aCall Tryz.prog (.p (.func runnellaw7_Of_i [])) [v17] h9 fun v18 h19 =>
  aAlloc [(.p (.int .i64 0)), (.p (.str [])), (.p (.int .i64 0)), (.full []), (.full []), (.p (.str [])), (.p (.int .i64 0)), (.p (.int .i64 0)), (.p (.bool false)), (.p (.str [])), (.full []), (.p (.int .i64 0)), (.full []), (.p (.int .i64 0)), (.p (.int .i64 0))] h19 fun v20 h21 =>
  aStore 15 v20 v18 h21 fun _ h23 =>
  aFieldAddr 0 v20 fun v24 =>
  aLoad false 1 v24 h23 fun v25 =>
  aBin false false .neq v25 (.p (.int .i64 2)) fun v26 =>
  aMerge true v26 (fun Q27 =>
  aFieldAddr 0 v20 fun v28 =>
  aLoad false 1 v28 h23 fun v29 =>
  aBin false false .neq v29 (.p (.int .i64 3)) fun v30 =>
  (h23 = h23 ∧ Q27 v30)) fun v31 =>
  aMerge true v31 (fun Q32 =>
  aFieldAddr 0 v20 fun v33 =>
  aLoad false 1 v33 h23 fun v34 =>
  aBin false false .neq v34 (.p (.int .i64 4)) fun v35 =>
  (h23 = h23 ∧ Q32 v35)) fun v36 =>
  aGuard v36
  (K (.p (.bool true)) h23)
  (aAlloc [(.p (.int .i64 0)), (.full [])] h23 fun v37 h38 =>
  aLoad true 15 v20 h38 fun v39 =>
  aLoad true 2 v2 h38 fun v40 =>
  aCallT Tryz.prog (.p (.func runnellaw1_Of_i [])) [v40] fun v41 =>
  aBuildSlice 2 [v41] fun v42 =>
  aCallT Tryz.prog (.p (.func runnelref10_Out_i [])) [v39, v42] fun v43 =>
  aExtract v43 0 fun v44 =>
  aExtract v43 1 fun v45 =>
  aStore 2 v37 v44 h38 fun _ h47 =>
  aBin false false .neq v45 (.p (.int .i64 0)) fun v48 =>
  aGuard v48
  (K (.p (.bool true)) h47)
  (aAlloc [(.p (.int .i64 0)), (.full [])] h47 fun v49 h50 =>
  aLoad true 15 v20 h50 fun v51 =>
  aCallT Tryz.prog (.p (.func runnelref14_Gen_i [])) [v51] fun v52 =>
  aCallT Tryz.prog (.p (.func runnellaw11_To_i [])) [v52] fun v53 =>
  aLoad true 2 v2 h50 fun v54 =>
  aCallT Tryz.prog (.p (.func ver_Check_i [])) [v53, v54] fun v55 =>
  aExtract v55 0 fun v56 =>
  aExtract v55 1 fun _ =>
  aExtract v55 2 fun v58 =>
  aStore 2 v49 v56 h50 fun _ h60 =>
  aBin false false .eql v58 (.p (.int .i64 0)) fun v61 =>
  aGuard v61
  (aLoad true 2 v49 h60 fun v62 =>
  aCallT Tryz.prog (.p (.func runnellaw1_Of_i [])) [v62] fun v63 =>
  aLoad true 2 v37 h60 fun v64 =>
  aCallT Tryz.prog (.p (.func runnelref6_SameType_i [])) [v63, v64] fun v65 =>
  K v65 h60)
  (K (.p (.bool false)) h60)))))

def runnellaw13_VerGen_ann : Nat → List Nat := fun _ => []

theorem runnellaw13_VerGen_eq (x0 x1 : AV) (H : List Ob) (r : AV) (Ho : List Ob) : aBody Tryz.prog runnellaw13_VerGen_ann Tryz.f3 H [x0, x1] r Ho = runnellaw13_VerGen x0 x1 H (fun v H' => Gives H.length v H' r Ho) := by kernel_rfl

theorem runnellaw13_VerGen_fnH {x0 x1 : AV} {Hin : List Ob} {r : AV} {Ho : List Ob} (h : runnellaw13_VerGen x0 x1 Hin (fun v H' => Gives Hin.length v H' r Ho)) : Abs.Fn Tryz.prog runnellaw13_VerGen_i Hin [x0, x1] r Ho :=
  fn_intro mixed runnellaw13_VerGen_ann (fn := Tryz.f3) (by kernel_rfl) (by kernel_rfl) (by rw [runnellaw13_VerGen_eq]; exact h)

theorem runnellaw13_VerGen_fn {x0 x1 : AV} {r : AV} {Ho : List Ob} (h : runnellaw13_VerGen x0 x1 [] (fun v H' => Gives 0 v H' r Ho)) : Abs.Fn Tryz.prog runnellaw13_VerGen_i [] [x0, x1] r Ho := runnellaw13_VerGen_fnH (Hin := []) h

/- runnel/runnellaw13.known -/
def runnellaw13_known (H : List Ob) (K : AV → List Ob → Prop) : Prop :=
  aBuild [(.p (.int .i64 0)), (.full [])] [(0, 1, (.p (.int .i64 1)))] fun v0 =>
  aAlloc [(.p (.int .i64 0)), (.full [])] H fun v1 h2 =>
  aStore 2 v1 v0 h2 fun _ h4 =>
  aAlloc [(.p (.int .i64 0)), (.full [])] h4 fun v5 h6 =>
  aBuild [(.p (.str [])), (.p (.int .i64 0)), (.p (.int .i64 0)), (.p (.bool false)), (.p (.str [])), (.full []), (.p (.int .i64 0))] [(0, 1, (.p (.str [120])))] fun v7 =>
  aCallT Tryz.prog (.p (.func val_Int_i [])) [(.p (.int .i64 1))] fun v8 =>
  aBuild [(.p (.str [])), (.p (.int .i64 0)), (.p (.int .i64 0)), (.p (.bool false)), (.p (.str [])), (.full []), (.p (.int .i64 0))] [(0, 1, (.p (.str [112, 117, 115, 104]))), (1, 5, v8)] fun v9 =>
  aBuild [(.p (.str [])), (.p (.int .i64 0)), (.p (.int .i64 0)), (.p (.bool false)), (.p (.str [])), (.full []), (.p (.int .i64 0))] [(0, 1, (.p (.str [108, 116])))] fun v10 =>
  aBuild [(.p (.str [])), (.p (.int .i64 0)), (.p (.int .i64 0)), (.p (.bool false)), (.p (.str [])), (.full []), (.p (.int .i64 0))] [(0, 1, (.p (.str [101, 109, 105, 116]))), (6, 1, (.p (.int .i64 1)))] fun v11 =>
  aBuild [(.p (.str [])), (.p (.int .i64 0)), (.p (.int .i64 0)), (.p (.bool false)), (.p (.str [])), (.full []), (.p (.int .i64 0))] [(0, 1, (.p (.str [114, 101, 116])))] fun v12 =>
  aBuildSlice 7 [v7, v9, v10, v11, v12] fun v13 =>
  aLoad true 2 v1 h6 fun v14 =>
  aCallT Tryz.prog (.p (.func ver_Check_i [])) [v13, v14] fun v15 =>
  aExtract v15 0 fun v16 =>
  aExtract v15 1 fun _ =>
  aExtract v15 2 fun v18 =>
  aStore 2 v5 v16 h6 fun _ h20 =>
  aBuild [(.p (.str [])), (.p (.int .i64 0)), (.p (.int .i64 0)), (.p (.bool false)), (.p (.str [])), (.full []), (.p (.int .i64 0))] [(0, 1, (.p (.str [120])))] fun v21 =>
  aBuild [(.p (.str [])), (.p (.int .i64 0)), (.p (.int .i64 0)), (.p (.bool false)), (.p (.str [])), (.full []), (.p (.int .i64 0))] [(0, 1, (.p (.str [97, 100, 100])))] fun v22 =>
  aBuild [(.p (.str [])), (.p (.int .i64 0)), (.p (.int .i64 0)), (.p (.bool false)), (.p (.str [])), (.full []), (.p (.int .i64 0))] [(0, 1, (.p (.str [114, 101, 116])))] fun v23 =>
  aBuildSlice 7 [v21, v22, v23] fun v24 =>
  aLoad true 2 v1 h20 fun v25 =>
  aCall Tryz.prog (.p (.func ver_Check_i [])) [v24, v25] h20 fun v26 h27 =>
  aExtract v26 0 fun v28 =>
  aExtract v26 1 fun v29 =>
  aExtract v26 2 fun v30 =>
  aAlloc [(.p (.int .i64 0)), (.full [])] h27 fun v31 h32 =>
  aStore 2 v31 v28 h32 fun _ h34 =>
  aBuild [(.p (.str [])), (.p (.int .i64 0)), (.p (.int .i64 0)), (.p (.bool false)), (.p (.str [])), (.full []), (.p (.int .i64 0))] [(0, 1, (.p (.str [120])))] fun v35 =>
  aBuild [(.p (.str [])), (.p (.int .i64 0)), (.p (.int .i64 0)), (.p (.bool false)), (.p (.str [])), (.full []), (.p (.int .i64 0))] [(0, 1, (.p (.str [114, 101, 116])))] fun v36 =>
  aBuildSlice 7 [v35, v36] fun v37 =>
  aLoad true 2 v1 h34 fun v38 =>
  aCall Tryz.prog (.p (.func ver_Check_i [])) [v37, v38] h34 fun v39 h40 =>
  aExtract v39 0 fun v41 =>
  aExtract v39 1 fun v42 =>
  aExtract v39 2 fun v43 =>
  aAlloc [(.p (.int .i64 0)), (.full [])] h40 fun v44 h45 =>
  aStore 2 v44 v41 h45 fun _ h47 =>
  aBin false false .eql v18 (.p (.int .i64 0)) fun v48 =>
  aMerge true v48 (fun Q49 =>
  aFieldAddr 0 v5 fun v50 =>
  aLoad false 1 v50 h47 fun v51 =>
  aBin false false .eql v51 (.p (.int .i64 2)) fun v52 =>
  (h47 = h47 ∧ Q49 v52)) fun v53 =>
  aMerge true v53 (fun Q54 =>
  aBin false false .eql v30 (.p (.int .i64 12)) fun v55 =>
  (h47 = h47 ∧ Q54 v55)) fun v56 =>
  aMerge true v56 (fun Q57 =>
  aBin false false .eql v29 (.p (.int .i64 1)) fun v58 =>
  (h47 = h47 ∧ Q57 v58)) fun v59 =>
  aMerge true v59 (fun Q60 =>
  aBin false false .eql v43 (.p (.int .i64 12)) fun v61 =>
  (h47 = h47 ∧ Q60 v61)) fun v62 =>
  aMerge true v62 (fun Q63 =>
  aBin false false .eql v42 (.p (.int .i64 1)) fun v64 =>
  (h47 = h47 ∧ Q63 v64)) fun v65 =>
  K v65 h47

def runnellaw13_known_ann : Nat → List Nat := fun _ => []

theorem runnellaw13_known_eq (H : List Ob) (r : AV) (Ho : List Ob) : aBody Tryz.prog runnellaw13_known_ann Tryz.f6 H [] r Ho = runnellaw13_known H (fun v H' => Gives H.length v H' r Ho) := by kernel_rfl

theorem runnellaw13_known_fnH {Hin : List Ob} {r : AV} {Ho : List Ob} (h : runnellaw13_known Hin (fun v H' => Gives Hin.length v H' r Ho)) : Abs.Fn Tryz.prog runnellaw13_known_i Hin [] r Ho :=
  fn_intro mixed runnellaw13_known_ann (fn := Tryz.f6) (by kernel_rfl) (by kernel_rfl) (by rw [runnellaw13_known_eq]; exact h)

theorem runnellaw13_known_fn {r : AV} {Ho : List Ob} (h : runnellaw13_known [] (fun v H' => Gives 0 v H' r Ho)) : Abs.Fn Tryz.prog runnellaw13_known_i [] [] r Ho := runnellaw13_known_fnH (Hin := []) h

end Go.Proofs.YtgfnodmghaghpaaGreatDoor
end

section
/- Made by program (Gen.lean): functions of the dump, over trees. -/
set_option maxRecDepth 4000
set_option linter.unusedVariables false
namespace Go.Proofs.YtgfnodmghaghpaaGreatDoor
open Go Go.Abs

/- runnel/runnelref10.Out -/
def runnelref10_Out_L2 (q2s1 q2s2 q2s4 q2s7 y0 y1 : AV) (H : List Ob) (B2 : List AV → List Ob → Prop) (K : AV → List Ob → Prop) : Prop :=
  aFieldAddr 4 q2s2 fun v84 =>
  aLoad false 1 v84 H fun v85 =>
  aLen false false v85 fun v86 =>
  aBin false false .lss y1 v86 fun v87 =>
  aGuard v87
  (aAlloc [(.p (.int .i64 0)), (.full [])] H fun v88 h89 =>
  aFieldAddr 4 q2s2 fun v90 =>
  aLoad false 1 v90 h89 fun v91 =>
  aIndexAddr 8 v91 y1 fun v92 =>
  aLoad true 8 v92 h89 fun v93 =>
  aIndexAddr 2 q2s1 (.p (.int .i64 0)) fun v94 =>
  aLoad true 2 v94 h89 fun v95 =>
  aCallT Tryz.prog (.p (.func runnelref6_CheckExpr_i [])) [v93, v95] fun v96 =>
  aExtract v96 0 fun v97 =>
  aExtract v96 1 fun v98 =>
  aStore 2 v88 v97 h89 fun _ h100 =>
  aBin false false .neq v98 (.p (.int .i64 0)) fun v101 =>
  aGuard v101
  (aBuild [(.p (.int .i64 0)), (.full [])] [] fun v102 =>
  aStore 2 q2s4 v102 h100 fun _ h104 =>
  aLoad true 2 q2s4 h104 fun v105 =>
  K (.tup [v105, v98]) h104)
  (aLoad true 2 v88 h100 fun v106 =>
  aBuildSlice 2 [v106] fun v107 =>
  aAppend false 2 32 y0 v107 h100 fun v108 h109 =>
  aBin false false .add y1 (.p (.int .i64 1)) fun v110 =>
  B2 [v108, v110] h109))
  (aLoad true 15 q2s2 H fun v111 =>
  aLoad true 2 q2s7 H fun v112 =>
  aCall Tryz.prog (.p (.func runnelref10_made_i [])) [v111, q2s1, v112, y0] H fun v113 h114 =>
  aExtract v113 0 fun v115 =>
  aExtract v113 1 fun v116 =>
  aStore 2 q2s4 v115 h114 fun _ h118 =>
  aLoad true 2 q2s4 h118 fun v119 =>
  K (.tup [v119, v116]) h118)

def runnelref10_Out_J1 (j1s1 j1s2 j1s4 j1s7 : AV) (H : List Ob) (K : AV → List Ob → Prop) : Prop :=
  aLoopN 2 [(.full []), (.p (.int .i64 0))] H fun xs H B2 => runnelref10_Out_L2 j1s1 j1s2 j1s4 j1s7 (xs.getD 0 .top) (xs.getD 1 .top) H B2 K

def runnelref10_Out_L1 (q1s1 q1s2 q1s4 y0 : AV) (H : List Ob) (B1 : List AV → List Ob → Prop) (K : AV → List Ob → Prop) : Prop :=
  aLen false false q1s1 fun v50 =>
  aBin false false .lss y0 v50 fun v51 =>
  aGuard v51
  (aIndexAddr 2 q1s1 y0 fun v52 =>
  aLoad true 2 v52 H fun v53 =>
  aCall Tryz.prog (.p (.func runnelref6_CheckType_i [])) [v53] H fun v54 h55 =>
  aBin false false .neq v54 (.p (.int .i64 0)) fun v56 =>
  aGuard v56
  (aBuild [(.p (.int .i64 0)), (.full [])] [] fun v57 =>
  aStore 2 q1s4 v57 h55 fun _ h59 =>
  aLoad true 2 q1s4 h59 fun v60 =>
  K (.tup [v60, (.p (.int .i64 5))]) h59)
  (aBin false false .add y0 (.p (.int .i64 1)) fun v61 =>
  B1 [v61] h55))
  (aFieldAddr 0 q1s2 fun v62 =>
  aLoad false 1 v62 H fun v63 =>
  aBin false false .eql v63 (.p (.int .i64 1)) fun v64 =>
  aGuard v64
  (aFieldAddr 2 q1s2 fun v65 =>
  aLoad true 2 v65 H fun v66 =>
  aCall Tryz.prog (.p (.func runnelref6_CheckType_i [])) [v66] H fun v67 h68 =>
  aBin false false .neq v67 (.p (.int .i64 0)) fun v69 =>
  aGuard v69
  (aBuild [(.p (.int .i64 0)), (.full [])] [] fun v70 =>
  aStore 2 q1s4 v70 h68 fun _ h72 =>
  aLoad true 2 q1s4 h72 fun v73 =>
  K (.tup [v73, (.p (.int .i64 5))]) h72)
  (aFieldAddr 2 q1s2 fun v74 =>
  aLoad true 2 v74 h68 fun v75 =>
  aStore 2 q1s4 v75 h68 fun _ h77 =>
  aLoad true 2 q1s4 h77 fun v78 =>
  K (.tup [v78, (.p (.int .i64 0))]) h77))
  (aBuild [(.p (.int .i64 0)), (.full [])] [] fun v79 =>
  aAlloc [(.p (.int .i64 0)), (.full [])] H fun v80 h81 =>
  aStore 2 v80 v79 h81 fun _ h83 =>
  aLoad true 15 q1s2 h83 fun v120 =>
  aCall Tryz.prog (.p (.func runnelref10_Keyed_i [])) [v120] h83 fun v121 h122 =>
  aGuard v121
  (aAlloc [(.p (.int .i64 0)), (.full [])] h122 fun v123 h124 =>
  aFieldAddr 5 q1s2 fun v125 =>
  aLoad true 8 v125 h124 fun v126 =>
  aIndexAddr 2 q1s1 (.p (.int .i64 0)) fun v127 =>
  aLoad true 2 v127 h124 fun v128 =>
  aCallT Tryz.prog (.p (.func runnelref6_CheckExpr_i [])) [v126, v128] fun v129 =>
  aExtract v129 0 fun v130 =>
  aExtract v129 1 fun v131 =>
  aStore 2 v123 v130 h124 fun _ h133 =>
  aBin false false .neq v131 (.p (.int .i64 0)) fun v134 =>
  aGuard v134
  (aBuild [(.p (.int .i64 0)), (.full [])] [] fun v135 =>
  aStore 2 q1s4 v135 h133 fun _ h137 =>
  aLoad true 2 q1s4 h137 fun v138 =>
  K (.tup [v138, v131]) h137)
  (aLoad true 2 v123 h133 fun v139 =>
  aStore 2 v80 v139 h133 fun _ h141 =>
  runnelref10_Out_J1 q1s1 q1s2 q1s4 v80 h141 K))
  (runnelref10_Out_J1 q1s1 q1s2 q1s4 v80 h122 K)))

def runnelref10_Out (x0 x1 : AV) (H : List Ob) (K : AV → List Ob → Prop) : Prop :=
  aBox x0 H fun v0 h1 =>
  aAlloc [(.p (.int .i64 0)), (.full [])] h1 fun v2 h3 =>
  aFieldAddr 0 v0 fun v4 =>
  aLoad false 1 v4 h3 fun v5 =>
  aBin false false .lss v5 (.p (.int .i64 1)) fun v6 =>
  aMerge false v6 (fun Q7 =>
  aFieldAddr 0 v0 fun v8 =>
  aLoad false 1 v8 h3 fun v9 =>
  aBin false false .gtr v9 (.p (.int .i64 9)) fun v10 =>
  (h3 = h3 ∧ Q7 v10)) fun v11 =>
  aGuard v11
  (aBuild [(.p (.int .i64 0)), (.full [])] [] fun v12 =>
  aStore 2 v2 v12 h3 fun _ h14 =>
  aLoad true 2 v2 h14 fun v15 =>
  K (.tup [v15, (.p (.int .i64 6))]) h14)
  (aFieldAddr 0 v0 fun v16 =>
  aLoad false 1 v16 h3 fun v17 =>
  aBin false false .eql v17 (.p (.int .i64 1)) fun v18 =>
  aMerge false v18 (fun Q19 =>
  aFieldAddr 0 v0 fun v20 =>
  aLoad false 1 v20 h3 fun v21 =>
  aBin false false .eql v21 (.p (.int .i64 9)) fun v22 =>
  (h3 = h3 ∧ Q19 v22)) fun v23 =>
  aMerge true v23 (fun Q24 =>
  aFieldAddr 1 v0 fun v25 =>
  aLoad false 1 v25 h3 fun v26 =>
  aCall Tryz.prog (.p (.func runnelref10_Good_i [])) [v26] h3 fun v27 h28 =>
  aUn .not v27 fun v29 =>
  (h28 = h3 ∧ Q24 v29)) fun v30 =>
  aGuard v30
  (aBuild [(.p (.int .i64 0)), (.full [])] [] fun v31 =>
  aStore 2 v2 v31 h3 fun _ h33 =>
  aLoad true 2 v2 h33 fun v34 =>
  K (.tup [v34, (.p (.int .i64 6))]) h33)
  (aLoad true 15 v0 h3 fun v35 =>
  aCall Tryz.prog (.p (.func runnelref10_fields_i [])) [v35] h3 fun v36 h37 =>
  aMerge false v36 (fun Q38 =>
  aFieldAddr 0 v0 fun v39 =>
  aLoad false 1 v39 h37 fun v40 =>
  aLenS false x1 fun v41 =>
  aCall Tryz.prog (.p (.func runnelref10_ins_i [])) [v40, v41] h37 fun v42 h43 =>
  aUn .not v42 fun v44 =>
  (h43 = h37 ∧ Q38 v44)) fun v45 =>
  aGuard v45
  (aBuild [(.p (.int .i64 0)), (.full [])] [] fun v46 =>
  aStore 2 v2 v46 h37 fun _ h48 =>
  aLoad true 2 v2 h48 fun v49 =>
  K (.tup [v49, (.p (.int .i64 1))]) h48)
  (aLoopN 1 [(.p (.int .i64 0))] h37 fun xs H B1 => runnelref10_Out_L1 x1 v0 v2 (xs.getD 0 .top) H B1 K)))

def runnelref10_Out_ann : Nat → List Nat := fun k => match k with | 8 => [6] | 24 => [10, 11] | _ => []

theorem runnelref10_Out_eq (x0 x1 : AV) (H : List Ob) (r : AV) (Ho : List Ob) : aBody Tryz.prog runnelref10_Out_ann Tryz.f10 H [x0, x1] r Ho = runnelref10_Out x0 x1 H (fun v H' => Gives H.length v H' r Ho) := by kernel_rfl

theorem runnelref10_Out_fnH {x0 x1 : AV} {Hin : List Ob} {r : AV} {Ho : List Ob} (h : runnelref10_Out x0 x1 Hin (fun v H' => Gives Hin.length v H' r Ho)) : Abs.Fn Tryz.prog runnelref10_Out_i Hin [x0, x1] r Ho :=
  fn_intro mixed runnelref10_Out_ann (fn := Tryz.f10) (by kernel_rfl) (by kernel_rfl) (by rw [runnelref10_Out_eq]; exact h)

theorem runnelref10_Out_fn {x0 x1 : AV} {r : AV} {Ho : List Ob} (h : runnelref10_Out x0 x1 [] (fun v H' => Gives 0 v H' r Ho)) : Abs.Fn Tryz.prog runnelref10_Out_i [] [x0, x1] r Ho := runnelref10_Out_fnH (Hin := []) h

/- runnel/runnelref10.Good -/
def runnelref10_Good_L1 (q1s0 y0 : AV) (H : List Ob) (B1 : List AV → List Ob → Prop) (K : AV → List Ob → Prop) : Prop :=
  aLen false true q1s0 fun v14 =>
  aBin false false .lss y0 v14 fun v15 =>
  aGuard v15
  (aIndex q1s0 y0 fun v16 =>
  aBin false false .lss v16 (.p (.int .u8 97)) fun v17 =>
  aMerge false v17 (fun Q18 =>
  aIndex q1s0 y0 fun v19 =>
  aBin false false .gtr v19 (.p (.int .u8 122)) fun v20 =>
  (H = H ∧ Q18 v20)) fun v21 =>
  aMerge true v21 (fun Q22 =>
  aIndex q1s0 y0 fun v23 =>
  aBin false false .lss v23 (.p (.int .u8 48)) fun v24 =>
  aMerge false v24 (fun Q25 =>
  aIndex q1s0 y0 fun v26 =>
  aBin false false .gtr v26 (.p (.int .u8 57)) fun v27 =>
  (H = H ∧ Q25 v27)) fun v28 =>
  (H = H ∧ Q22 v28)) fun v29 =>
  aMerge true v29 (fun Q30 =>
  aIndex q1s0 y0 fun v31 =>
  aBin false false .neq v31 (.p (.int .u8 95)) fun v32 =>
  (H = H ∧ Q30 v32)) fun v33 =>
  aGuard v33
  (K (.p (.bool false)) H)
  (aBin false false .add y0 (.p (.int .i64 1)) fun v34 =>
  B1 [v34] H))
  (K (.p (.bool true)) H)

def runnelref10_Good (x0 : AV) (H : List Ob) (K : AV → List Ob → Prop) : Prop :=
  aLen false true x0 fun v0 =>
  aBin false false .lss v0 (.p (.int .i64 1)) fun v1 =>
  aMerge false v1 (fun Q2 =>
  aLenS true x0 fun v3 =>
  aBin false false .gtr v3 (.p (.int .i64 16)) fun v4 =>
  (H = H ∧ Q2 v4)) fun v5 =>
  aMerge false v5 (fun Q6 =>
  aIndex x0 (.p (.int .i64 0)) fun v7 =>
  aBin false false .lss v7 (.p (.int .u8 97)) fun v8 =>
  (H = H ∧ Q6 v8)) fun v9 =>
  aMerge false v9 (fun Q10 =>
  aIndex x0 (.p (.int .i64 0)) fun v11 =>
  aBin false false .gtr v11 (.p (.int .u8 122)) fun v12 =>
  (H = H ∧ Q10 v12)) fun v13 =>
  aGuard v13
  (K (.p (.bool false)) H)
  (aLoopN 1 [(.p (.int .i64 0))] H fun xs H B1 => runnelref10_Good_L1 x0 (xs.getD 0 .top) H B1 K)

def runnelref10_Good_ann : Nat → List Nat := fun k => match k with | 4 => [3] | _ => []

theorem runnelref10_Good_eq (x0 : AV) (H : List Ob) (r : AV) (Ho : List Ob) : aBody Tryz.prog runnelref10_Good_ann Tryz.f29 H [x0] r Ho = runnelref10_Good x0 H (fun v H' => Gives H.length v H' r Ho) := by kernel_rfl

theorem runnelref10_Good_fnH {x0 : AV} {Hin : List Ob} {r : AV} {Ho : List Ob} (h : runnelref10_Good x0 Hin (fun v H' => Gives Hin.length v H' r Ho)) : Abs.Fn Tryz.prog runnelref10_Good_i Hin [x0] r Ho :=
  fn_intro mixed runnelref10_Good_ann (fn := Tryz.f29) (by kernel_rfl) (by kernel_rfl) (by rw [runnelref10_Good_eq]; exact h)

theorem runnelref10_Good_fn {x0 : AV} {r : AV} {Ho : List Ob} (h : runnelref10_Good x0 [] (fun v H' => Gives 0 v H' r Ho)) : Abs.Fn Tryz.prog runnelref10_Good_i [] [x0] r Ho := runnelref10_Good_fnH (Hin := []) h

/- runnel/runnelref10.fields -/
def runnelref10_fields_J1 (j1s1 j1s3 j1s4 j1s5 : AV) (H : List Ob) (K : AV → List Ob → Prop) : Prop :=
  aUn .not j1s3 fun v10 =>
  aMerge true v10 (fun Q11 =>
  aFieldAddr 1 j1s1 fun v12 =>
  aLoad false 1 v12 H fun v13 =>
  aBin false false .neq v13 (.p (.str [])) fun v14 =>
  (H = H ∧ Q11 v14)) fun v15 =>
  aGuard v15
  (K (.p (.bool true)) H)
  (aFieldAddr 0 j1s1 fun v16 =>
  aLoad false 1 v16 H fun v17 =>
  aBin false false .neq v17 (.p (.int .i64 1)) fun v18 =>
  aMerge true v18 (fun Q19 =>
  aFieldAddr 2 j1s1 fun v20 =>
  aFieldAddr 0 v20 fun v21 =>
  aLoad false 1 v21 H fun v22 =>
  aBin false false .neq v22 (.p (.int .i64 0)) fun v23 =>
  aMerge false v23 (fun Q24 =>
  aFieldAddr 2 j1s1 fun v25 =>
  aFieldAddr 1 v25 fun v26 =>
  aLoad false 1 v26 H fun v27 =>
  aLenS false v27 fun v28 =>
  aBin false false .gtr v28 (.p (.int .i64 0)) fun v29 =>
  (H = H ∧ Q24 v29)) fun v30 =>
  (H = H ∧ Q19 v30)) fun v31 =>
  aGuard v31
  (K (.p (.bool true)) H)
  (aFieldAddr 4 j1s1 fun v32 =>
  aLoad false 1 v32 H fun v33 =>
  aLen false false v33 fun v34 =>
  aBin false false .lss v34 j1s4 fun v35 =>
  aMerge false v35 (fun Q36 =>
  aFieldAddr 4 j1s1 fun v37 =>
  aLoad false 1 v37 H fun v38 =>
  aLenS false v38 fun v39 =>
  aBin false false .gtr v39 j1s5 fun v40 =>
  (H = H ∧ Q36 v40)) fun v41 =>
  aGuard v41
  (K (.p (.bool true)) H)
  (aLoad true 15 j1s1 H fun v42 =>
  aCall Tryz.prog (.p (.func runnelref10_Keyed_i [])) [v42] H fun v43 h44 =>
  aUn .not v43 fun v45 =>
  aMerge true v45 (fun Q46 =>
  aFieldAddr 5 j1s1 fun v47 =>
  aLoad true 8 v47 h44 fun v48 =>
  aCall Tryz.prog (.p (.func runnelref10_bare_i [])) [v48] h44 fun v49 h50 =>
  aUn .not v49 fun v51 =>
  (h50 = h44 ∧ Q46 v51)) fun v52 =>
  aGuard v52
  (K (.p (.bool true)) h44)
  (aFieldAddr 0 j1s1 fun v53 =>
  aLoad false 1 v53 h44 fun v54 =>
  aBin false false .eql v54 (.p (.int .i64 5)) fun v55 =>
  aMerge true v55 (fun Q56 =>
  aFieldAddr 13 j1s1 fun v57 =>
  aLoad false 1 v57 h44 fun v58 =>
  aBin false false .lss v58 (.p (.int .i64 1)) fun v59 =>
  aMerge false v59 (fun Q60 =>
  aFieldAddr 13 j1s1 fun v61 =>
  aLoad false 1 v61 h44 fun v62 =>
  aBin false false .gtr v62 (.p (.int .i64 4)) fun v63 =>
  (h44 = h44 ∧ Q60 v63)) fun v64 =>
  (h44 = h44 ∧ Q56 v64)) fun v65 =>
  aMerge false v65 (fun Q66 =>
  aFieldAddr 0 j1s1 fun v67 =>
  aLoad false 1 v67 h44 fun v68 =>
  aBin false false .neq v68 (.p (.int .i64 5)) fun v69 =>
  aMerge true v69 (fun Q70 =>
  aFieldAddr 13 j1s1 fun v71 =>
  aLoad false 1 v71 h44 fun v72 =>
  aBin false false .neq v72 (.p (.int .i64 0)) fun v73 =>
  (h44 = h44 ∧ Q70 v73)) fun v74 =>
  (h44 = h44 ∧ Q66 v74)) fun v75 =>
  aGuard v75
  (K (.p (.bool true)) h44)
  (aFieldAddr 0 j1s1 fun v76 =>
  aLoad false 1 v76 h44 fun v77 =>
  aBin false false .eql v77 (.p (.int .i64 6)) fun v78 =>
  aMerge true v78 (fun Q79 =>
  aFieldAddr 14 j1s1 fun v80 =>
  aLoad false 1 v80 h44 fun v81 =>
  aBin false false .lss v81 (.p (.int .i64 1)) fun v82 =>
  aMerge false v82 (fun Q83 =>
  aFieldAddr 14 j1s1 fun v84 =>
  aLoad false 1 v84 h44 fun v85 =>
  aBin false false .gtr v85 (.p (.int .i64 1000)) fun v86 =>
  (h44 = h44 ∧ Q83 v86)) fun v87 =>
  (h44 = h44 ∧ Q79 v87)) fun v88 =>
  aMerge false v88 (fun Q89 =>
  aFieldAddr 0 j1s1 fun v90 =>
  aLoad false 1 v90 h44 fun v91 =>
  aBin false false .neq v91 (.p (.int .i64 6)) fun v92 =>
  aMerge true v92 (fun Q93 =>
  aFieldAddr 14 j1s1 fun v94 =>
  aLoad false 1 v94 h44 fun v95 =>
  aBin false false .neq v95 (.p (.int .i64 0)) fun v96 =>
  (h44 = h44 ∧ Q93 v96)) fun v97 =>
  (h44 = h44 ∧ Q89 v97)) fun v98 =>
  K v98 h44)))))

def runnelref10_fields (x0 : AV) (H : List Ob) (K : AV → List Ob → Prop) : Prop :=
  aBox x0 H fun v0 h1 =>
  aFieldAddr 0 v0 fun v2 =>
  aLoad false 1 v2 h1 fun v3 =>
  aBin false false .eql v3 (.p (.int .i64 1)) fun v4 =>
  aMerge false v4 (fun Q5 =>
  aFieldAddr 0 v0 fun v6 =>
  aLoad false 1 v6 h1 fun v7 =>
  aBin false false .eql v7 (.p (.int .i64 9)) fun v8 =>
  (h1 = h1 ∧ Q5 v8)) fun v9 =>
  aFieldAddr 0 v0 fun v99 =>
  aLoad false 1 v99 h1 fun v100 =>
  aBin false false .eql v100 (.p (.int .i64 2)) fun v101 =>
  aMerge false v101 (fun Q102 =>
  aBin false false .eql v100 (.p (.int .i64 3)) fun v103 =>
  aMerge false v103 (fun Q104 =>
  aBin false false .eql v100 (.p (.int .i64 5)) fun v105 =>
  (h1 = h1 ∧ Q104 v105)) fun v106 =>
  (h1 = h1 ∧ Q102 v106)) fun v107 =>
  aGuard v107
  (runnelref10_fields_J1 v0 v9 (.p (.int .i64 1)) (.p (.int .i64 1)) h1 K)
  (aBin false false .eql v100 (.p (.int .i64 4)) fun v108 =>
  aGuard v108
  (runnelref10_fields_J1 v0 v9 (.p (.int .i64 1)) (.p (.int .i64 4)) h1 K)
  (runnelref10_fields_J1 v0 v9 (.p (.int .i64 0)) (.p (.int .i64 0)) h1 K))

def runnelref10_fields_ann : Nat → List Nat := fun k => match k with | 1000007 => [1] | 1000006 => [1] | _ => []

theorem runnelref10_fields_eq (x0 : AV) (H : List Ob) (r : AV) (Ho : List Ob) : aBody Tryz.prog runnelref10_fields_ann Tryz.f30 H [x0] r Ho = runnelref10_fields x0 H (fun v H' => Gives H.length v H' r Ho) := by kernel_rfl

theorem runnelref10_fields_fnH {x0 : AV} {Hin : List Ob} {r : AV} {Ho : List Ob} (h : runnelref10_fields x0 Hin (fun v H' => Gives Hin.length v H' r Ho)) : Abs.Fn Tryz.prog runnelref10_fields_i Hin [x0] r Ho :=
  fn_intro mixed runnelref10_fields_ann (fn := Tryz.f30) (by kernel_rfl) (by kernel_rfl) (by rw [runnelref10_fields_eq]; exact h)

theorem runnelref10_fields_fn {x0 : AV} {r : AV} {Ho : List Ob} (h : runnelref10_fields x0 [] (fun v H' => Gives 0 v H' r Ho)) : Abs.Fn Tryz.prog runnelref10_fields_i [] [x0] r Ho := runnelref10_fields_fnH (Hin := []) h

/- runnel/runnelref10.ins -/
def runnelref10_ins (x0 x1 : AV) (H : List Ob) (K : AV → List Ob → Prop) : Prop :=
  aBin false false .eql x0 (.p (.int .i64 1)) fun v0 =>
  aGuard v0
  (aBin false false .eql x1 (.p (.int .i64 0)) fun v1 =>
  K v1 H)
  (aBin false false .eql x0 (.p (.int .i64 8)) fun v2 =>
  aGuard v2
  (aBin false false .geq x1 (.p (.int .i64 2)) fun v3 =>
  aMerge true v3 (fun Q4 =>
  aBin false false .leq x1 (.p (.int .i64 4)) fun v5 =>
  (H = H ∧ Q4 v5)) fun v6 =>
  K v6 H)
  (aBin false false .eql x1 (.p (.int .i64 1)) fun v7 =>
  K v7 H))

def runnelref10_ins_ann : Nat → List Nat := fun _ => []

theorem runnelref10_ins_eq (x0 x1 : AV) (H : List Ob) (r : AV) (Ho : List Ob) : aBody Tryz.prog runnelref10_ins_ann Tryz.f31 H [x0, x1] r Ho = runnelref10_ins x0 x1 H (fun v H' => Gives H.length v H' r Ho) := by kernel_rfl

theorem runnelref10_ins_fnH {x0 x1 : AV} {Hin : List Ob} {r : AV} {Ho : List Ob} (h : runnelref10_ins x0 x1 Hin (fun v H' => Gives Hin.length v H' r Ho)) : Abs.Fn Tryz.prog runnelref10_ins_i Hin [x0, x1] r Ho :=
  fn_intro mixed runnelref10_ins_ann (fn := Tryz.f31) (by kernel_rfl) (by kernel_rfl) (by rw [runnelref10_ins_eq]; exact h)

theorem runnelref10_ins_fn {x0 x1 : AV} {r : AV} {Ho : List Ob} (h : runnelref10_ins x0 x1 [] (fun v H' => Gives 0 v H' r Ho)) : Abs.Fn Tryz.prog runnelref10_ins_i [] [x0, x1] r Ho := runnelref10_ins_fnH (Hin := []) h

/- runnel/runnelref10.Keyed -/
def runnelref10_Keyed (x0 : AV) (H : List Ob) (K : AV → List Ob → Prop) : Prop :=
  aBox x0 H fun v0 h1 =>
  aFieldAddr 0 v0 fun v2 =>
  aLoad false 1 v2 h1 fun v3 =>
  aBin false false .eql v3 (.p (.int .i64 5)) fun v4 =>
  aMerge false v4 (fun Q5 =>
  aFieldAddr 0 v0 fun v6 =>
  aLoad false 1 v6 h1 fun v7 =>
  aBin false false .eql v7 (.p (.int .i64 6)) fun v8 =>
  (h1 = h1 ∧ Q5 v8)) fun v9 =>
  aMerge false v9 (fun Q10 =>
  aFieldAddr 0 v0 fun v11 =>
  aLoad false 1 v11 h1 fun v12 =>
  aBin false false .eql v12 (.p (.int .i64 7)) fun v13 =>
  (h1 = h1 ∧ Q10 v13)) fun v14 =>
  K v14 h1

def runnelref10_Keyed_ann : Nat → List Nat := fun _ => []

theorem runnelref10_Keyed_eq (x0 : AV) (H : List Ob) (r : AV) (Ho : List Ob) : aBody Tryz.prog runnelref10_Keyed_ann Tryz.f33 H [x0] r Ho = runnelref10_Keyed x0 H (fun v H' => Gives H.length v H' r Ho) := by kernel_rfl

theorem runnelref10_Keyed_fnH {x0 : AV} {Hin : List Ob} {r : AV} {Ho : List Ob} (h : runnelref10_Keyed x0 Hin (fun v H' => Gives Hin.length v H' r Ho)) : Abs.Fn Tryz.prog runnelref10_Keyed_i Hin [x0] r Ho :=
  fn_intro mixed runnelref10_Keyed_ann (fn := Tryz.f33) (by kernel_rfl) (by kernel_rfl) (by rw [runnelref10_Keyed_eq]; exact h)

theorem runnelref10_Keyed_fn {x0 : AV} {r : AV} {Ho : List Ob} (h : runnelref10_Keyed x0 [] (fun v H' => Gives 0 v H' r Ho)) : Abs.Fn Tryz.prog runnelref10_Keyed_i [] [x0] r Ho := runnelref10_Keyed_fnH (Hin := []) h

/- runnel/runnelref10.made -/
def runnelref10_made_L1 (q1s3 q1s8 y0 : AV) (H : List Ob) (B1 : List AV → List Ob → Prop) (K : AV → List Ob → Prop) : Prop :=
  aLen false false q1s3 fun v29 =>
  aBin false false .lss y0 v29 fun v30 =>
  aGuard v30
  (aIndexAddr 2 q1s3 y0 fun v31 =>
  aLoad true 2 v31 H fun v32 =>
  aIndexAddr 2 q1s3 (.p (.int .i64 0)) fun v33 =>
  aLoad true 2 v33 H fun v34 =>
  aCallT Tryz.prog (.p (.func runnelref6_SameType_i [])) [v32, v34] fun v35 =>
  aUn .not v35 fun v36 =>
  aGuard v36
  (aBuild [(.p (.int .i64 0)), (.full [])] [] fun v37 =>
  aStore 2 q1s8 v37 H fun _ h39 =>
  aLoad true 2 q1s8 h39 fun v40 =>
  K (.tup [v40, (.p (.int .i64 5))]) h39)
  (aBin false false .add y0 (.p (.int .i64 1)) fun v41 =>
  B1 [v41] H))
  (aIndexAddr 2 q1s3 (.p (.int .i64 0)) fun v42 =>
  aLoad true 2 v42 H fun v43 =>
  aStore 2 q1s8 v43 H fun _ h45 =>
  aLoad true 2 q1s8 h45 fun v46 =>
  K (.tup [v46, (.p (.int .i64 0))]) h45)

def runnelref10_made_L2 (q2s1 q2s8 y0 : AV) (H : List Ob) (B2 : List AV → List Ob → Prop) (K : AV → List Ob → Prop) : Prop :=
  aLen false false q2s1 fun v90 =>
  aBin false false .lss y0 v90 fun v91 =>
  aGuard v91
  (aIndexAddr 2 q2s1 y0 fun v92 =>
  aLoad true 2 v92 H fun v93 =>
  aIndexAddr 2 q2s1 (.p (.int .i64 0)) fun v94 =>
  aLoad true 2 v94 H fun v95 =>
  aCallT Tryz.prog (.p (.func runnelref6_SameType_i [])) [v93, v95] fun v96 =>
  aUn .not v96 fun v97 =>
  aGuard v97
  (aBuild [(.p (.int .i64 0)), (.full [])] [] fun v98 =>
  aStore 2 q2s8 v98 H fun _ h100 =>
  aLoad true 2 q2s8 h100 fun v101 =>
  K (.tup [v101, (.p (.int .i64 5))]) h100)
  (aBin false false .add y0 (.p (.int .i64 1)) fun v102 =>
  B2 [v102] H))
  (aIndexAddr 2 q2s1 (.p (.int .i64 0)) fun v103 =>
  aLoad true 2 v103 H fun v104 =>
  aStore 2 q2s8 v104 H fun _ h106 =>
  aLoad true 2 q2s8 h106 fun v107 =>
  K (.tup [v107, (.p (.int .i64 0))]) h106)

def runnelref10_made (x0 x1 x2 x3 : AV) (H : List Ob) (K : AV → List Ob → Prop) : Prop :=
  aBox x0 H fun v0 h1 =>
  aBox x2 h1 fun v2 h3 =>
  aAlloc [(.p (.int .i64 0)), (.full [])] h3 fun v4 h5 =>
  aFieldAddr 0 v0 fun v6 =>
  aLoad false 1 v6 h5 fun v7 =>
  aBin false false .eql v7 (.p (.int .i64 2)) fun v8 =>
  aGuard v8
  (aIndexAddr 2 x3 (.p (.int .i64 0)) fun v9 =>
  aLoad true 2 v9 h5 fun v10 =>
  aStore 2 v4 v10 h5 fun _ h12 =>
  aLoad true 2 v4 h12 fun v13 =>
  K (.tup [v13, (.p (.int .i64 0))]) h12)
  (aBin false false .eql v7 (.p (.int .i64 3)) fun v14 =>
  aGuard v14
  (aIndexAddr 2 x3 (.p (.int .i64 0)) fun v15 =>
  aFieldAddr 0 v15 fun v16 =>
  aLoad false 1 v16 h5 fun v17 =>
  aBin false false .neq v17 (.p (.int .i64 2)) fun v18 =>
  aGuard v18
  (aBuild [(.p (.int .i64 0)), (.full [])] [] fun v19 =>
  aStore 2 v4 v19 h5 fun _ h21 =>
  aLoad true 2 v4 h21 fun v22 =>
  K (.tup [v22, (.p (.int .i64 5))]) h21)
  (aIndexAddr 2 x1 (.p (.int .i64 0)) fun v23 =>
  aLoad true 2 v23 h5 fun v24 =>
  aStore 2 v4 v24 h5 fun _ h26 =>
  aLoad true 2 v4 h26 fun v27 =>
  K (.tup [v27, (.p (.int .i64 0))]) h26))
  (aBin false false .eql v7 (.p (.int .i64 4)) fun v28 =>
  aGuard v28
  (aLoopN 1 [(.p (.int .i64 1))] h5 fun xs H B1 => runnelref10_made_L1 x3 v4 (xs.getD 0 .top) H B1 K)
  (aBin false false .eql v7 (.p (.int .i64 5)) fun v47 =>
  aMerge false v47 (fun Q48 =>
  aBin false false .eql v7 (.p (.int .i64 6)) fun v49 =>
  (h5 = h5 ∧ Q48 v49)) fun v50 =>
  aGuard v50
  (aFieldAddr 0 v0 fun v51 =>
  aLoad false 1 v51 h5 fun v52 =>
  aBin false false .eql v52 (.p (.int .i64 5)) fun v53 =>
  aMerge true v53 (fun Q54 =>
  aIndexAddr 2 x3 (.p (.int .i64 0)) fun v55 =>
  aFieldAddr 0 v55 fun v56 =>
  aLoad false 1 v56 h5 fun v57 =>
  aBin false false .neq v57 (.p (.int .i64 1)) fun v58 =>
  (h5 = h5 ∧ Q54 v58)) fun v59 =>
  aGuard v59
  (aBuild [(.p (.int .i64 0)), (.full [])] [] fun v60 =>
  aStore 2 v4 v60 h5 fun _ h62 =>
  aLoad true 2 v4 h62 fun v63 =>
  K (.tup [v63, (.p (.int .i64 5))]) h62)
  (aAlloc [(.p (.int .i64 0)), (.full [])] h5 fun v64 h65 =>
  aLoad true 2 v2 h65 fun v66 =>
  aCallT Tryz.prog (.p (.func runnelref6_Plain_i [])) [(.p (.int .i64 1))] fun v67 =>
  aBuildSlice 2 [v66, v67] fun v68 =>
  aBuild [(.p (.int .i64 0)), (.full [])] [(0, 1, (.p (.int .i64 4))), (1, 1, v68)] fun v69 =>
  aStore 2 v64 v69 h65 fun _ h71 =>
  aLoad true 2 v64 h71 fun v72 =>
  aCall Tryz.prog (.p (.func runnelref6_CheckType_i [])) [v72] h71 fun v73 h74 =>
  aBin false false .neq v73 (.p (.int .i64 0)) fun v75 =>
  aGuard v75
  (aBuild [(.p (.int .i64 0)), (.full [])] [] fun v76 =>
  aStore 2 v4 v76 h74 fun _ h78 =>
  aLoad true 2 v4 h78 fun v79 =>
  K (.tup [v79, v73]) h78)
  (aLoad true 2 v64 h74 fun v80 =>
  aStore 2 v4 v80 h74 fun _ h82 =>
  aLoad true 2 v4 h82 fun v83 =>
  K (.tup [v83, (.p (.int .i64 0))]) h82)))
  (aBin false false .eql v7 (.p (.int .i64 7)) fun v84 =>
  aGuard v84
  (aLoad true 2 v2 h5 fun v85 =>
  aStore 2 v4 v85 h5 fun _ h87 =>
  aLoad true 2 v4 h87 fun v88 =>
  K (.tup [v88, (.p (.int .i64 0))]) h87)
  (aBin false false .eql v7 (.p (.int .i64 8)) fun v89 =>
  aGuard v89
  (aLoopN 1 [(.p (.int .i64 1))] h5 fun xs H B2 => runnelref10_made_L2 x1 v4 (xs.getD 0 .top) H B2 K)
  (aIndexAddr 2 x1 (.p (.int .i64 0)) fun v108 =>
  aLoad true 2 v108 h5 fun v109 =>
  aStore 2 v4 v109 h5 fun _ h111 =>
  aLoad true 2 v4 h111 fun v112 =>
  K (.tup [v112, (.p (.int .i64 0))]) h111))))))

def runnelref10_made_ann : Nat → List Nat := fun k => match k with | 9 => [10] | 27 => [13] | 1000015 => [1] | _ => []

theorem runnelref10_made_eq (x0 x1 x2 x3 : AV) (H : List Ob) (r : AV) (Ho : List Ob) : aBody Tryz.prog runnelref10_made_ann Tryz.f35 H [x0, x1, x2, x3] r Ho = runnelref10_made x0 x1 x2 x3 H (fun v H' => Gives H.length v H' r Ho) := by kernel_rfl

theorem runnelref10_made_fnH {x0 x1 x2 x3 : AV} {Hin : List Ob} {r : AV} {Ho : List Ob} (h : runnelref10_made x0 x1 x2 x3 Hin (fun v H' => Gives Hin.length v H' r Ho)) : Abs.Fn Tryz.prog runnelref10_made_i Hin [x0, x1, x2, x3] r Ho :=
  fn_intro mixed runnelref10_made_ann (fn := Tryz.f35) (by kernel_rfl) (by kernel_rfl) (by rw [runnelref10_made_eq]; exact h)

theorem runnelref10_made_fn {x0 x1 x2 x3 : AV} {r : AV} {Ho : List Ob} (h : runnelref10_made x0 x1 x2 x3 [] (fun v H' => Gives 0 v H' r Ho)) : Abs.Fn Tryz.prog runnelref10_made_i [] [x0, x1, x2, x3] r Ho := runnelref10_made_fnH (Hin := []) h

/- runnel/runnelref10.bare -/
def runnelref10_bare (x0 : AV) (H : List Ob) (K : AV → List Ob → Prop) : Prop :=
  aBox x0 H fun v0 h1 =>
  aFieldAddr 0 v0 fun v2 =>
  aLoad false 1 v2 h1 fun v3 =>
  aBin false false .eql v3 (.p (.str [])) fun v4 =>
  aMerge true v4 (fun Q5 =>
  aFieldAddr 1 v0 fun v6 =>
  aFieldAddr 0 v6 fun v7 =>
  aLoad false 1 v7 h1 fun v8 =>
  aBin false false .eql v8 (.p (.int .i64 0)) fun v9 =>
  (h1 = h1 ∧ Q5 v9)) fun v10 =>
  aMerge true v10 (fun Q11 =>
  aFieldAddr 1 v0 fun v12 =>
  aFieldAddr 1 v12 fun v13 =>
  aLoad false 1 v13 h1 fun v14 =>
  aBin false false .eql v14 (.p (.int .i64 0)) fun v15 =>
  (h1 = h1 ∧ Q11 v15)) fun v16 =>
  aMerge true v16 (fun Q17 =>
  aFieldAddr 1 v0 fun v18 =>
  aFieldAddr 2 v18 fun v19 =>
  aLoad false 1 v19 h1 fun v20 =>
  aUn .not v20 fun v21 =>
  (h1 = h1 ∧ Q17 v21)) fun v22 =>
  aMerge true v22 (fun Q23 =>
  aFieldAddr 1 v0 fun v24 =>
  aFieldAddr 3 v24 fun v25 =>
  aLoad false 1 v25 h1 fun v26 =>
  aBin false false .eql v26 (.p (.str [])) fun v27 =>
  (h1 = h1 ∧ Q23 v27)) fun v28 =>
  aMerge true v28 (fun Q29 =>
  aFieldAddr 1 v0 fun v30 =>
  aFieldAddr 4 v30 fun v31 =>
  aLoad false 1 v31 h1 fun v32 =>
  aLenS false v32 fun v33 =>
  aBin false false .eql v33 (.p (.int .i64 0)) fun v34 =>
  (h1 = h1 ∧ Q29 v34)) fun v35 =>
  aMerge true v35 (fun Q36 =>
  aFieldAddr 6 v0 fun v37 =>
  aLoad false 1 v37 h1 fun v38 =>
  aBin false false .eql v38 (.p (.int .i64 0)) fun v39 =>
  (h1 = h1 ∧ Q36 v39)) fun v40 =>
  aMerge true v40 (fun Q41 =>
  aFieldAddr 7 v0 fun v42 =>
  aLoad false 1 v42 h1 fun v43 =>
  aLenS false v43 fun v44 =>
  aBin false false .eql v44 (.p (.int .i64 0)) fun v45 =>
  (h1 = h1 ∧ Q41 v45)) fun v46 =>
  K v46 h1

def runnelref10_bare_ann : Nat → List Nat := fun _ => []

theorem runnelref10_bare_eq (x0 : AV) (H : List Ob) (r : AV) (Ho : List Ob) : aBody Tryz.prog runnelref10_bare_ann Tryz.f59 H [x0] r Ho = runnelref10_bare x0 H (fun v H' => Gives H.length v H' r Ho) := by kernel_rfl

theorem runnelref10_bare_fnH {x0 : AV} {Hin : List Ob} {r : AV} {Ho : List Ob} (h : runnelref10_bare x0 Hin (fun v H' => Gives Hin.length v H' r Ho)) : Abs.Fn Tryz.prog runnelref10_bare_i Hin [x0] r Ho :=
  fn_intro mixed runnelref10_bare_ann (fn := Tryz.f59) (by kernel_rfl) (by kernel_rfl) (by rw [runnelref10_bare_eq]; exact h)

theorem runnelref10_bare_fn {x0 : AV} {r : AV} {Ho : List Ob} (h : runnelref10_bare x0 [] (fun v H' => Gives 0 v H' r Ho)) : Abs.Fn Tryz.prog runnelref10_bare_i [] [x0] r Ho := runnelref10_bare_fnH (Hin := []) h

end Go.Proofs.YtgfnodmghaghpaaGreatDoor
end

section
/- Made by program (Gen.lean): functions of the dump, over trees. -/
set_option maxRecDepth 4000
set_option linter.unusedVariables false
namespace Go.Proofs.YtgfnodmghaghpaaGreatDoor
open Go Go.Abs

/- runnel/runnellaw7.Few -/
def runnellaw7_Few_L1 (q1s1 y0 : AV) (H : List Ob) (B1 : List AV → List Ob → Prop) (K : AV → List Ob → Prop) : Prop :=
  aFieldAddr 4 q1s1 fun v26 =>
  aLoad false 1 v26 H fun v27 =>
  aLen false false v27 fun v28 =>
  aBin false false .lss y0 v28 fun v29 =>
  aGuard v29
  (aFieldAddr 4 q1s1 fun v30 =>
  aLoad false 1 v30 H fun v31 =>
  aIndexAddr 8 v31 y0 fun v32 =>
  aLoad true 8 v32 H fun v33 =>
  aCall Tryz.prog (.p (.func runnellaw4_Few_i [])) [v33] H fun v34 h35 =>
  aUn .not v34 fun v36 =>
  aGuard v36
  (K (.p (.bool false)) h35)
  (aBin false false .add y0 (.p (.int .i64 1)) fun v37 =>
  B1 [v37] h35))
  (K (.p (.bool true)) H)

def runnellaw7_Few (x0 : AV) (H : List Ob) (K : AV → List Ob → Prop) : Prop :=
  aBox x0 H fun v0 h1 =>
  aFieldAddr 1 v0 fun v2 =>
  aLoad false 1 v2 h1 fun v3 =>
  aLen false true v3 fun v4 =>
  aBin false false .gtr v4 (.p (.int .i64 50)) fun v5 =>
  aMerge false v5 (fun Q6 =>
  aFieldAddr 2 v0 fun v7 =>
  aLoad true 2 v7 h1 fun v8 =>
  aCall Tryz.prog (.p (.func runnellaw1_Few_i [])) [v8] h1 fun v9 h10 =>
  aUn .not v9 fun v11 =>
  (h10 = h1 ∧ Q6 v11)) fun v12 =>
  aMerge false v12 (fun Q13 =>
  aFieldAddr 4 v0 fun v14 =>
  aLoad false 1 v14 h1 fun v15 =>
  aLenS false v15 fun v16 =>
  aBin false false .gtr v16 (.p (.int .i64 8)) fun v17 =>
  (h1 = h1 ∧ Q13 v17)) fun v18 =>
  aMerge false v18 (fun Q19 =>
  aFieldAddr 5 v0 fun v20 =>
  aLoad true 8 v20 h1 fun v21 =>
  aCall Tryz.prog (.p (.func runnellaw4_Few_i [])) [v21] h1 fun v22 h23 =>
  aUn .not v22 fun v24 =>
  (h23 = h1 ∧ Q19 v24)) fun v25 =>
  aGuard v25
  (K (.p (.bool false)) h1)
  (aLoopN 1 [(.p (.int .i64 0))] h1 fun xs H B1 => runnellaw7_Few_L1 v0 (xs.getD 0 .top) H B1 K)

def runnellaw7_Few_ann : Nat → List Nat := fun k => match k with | 4 => [3] | _ => []

theorem runnellaw7_Few_eq (x0 : AV) (H : List Ob) (r : AV) (Ho : List Ob) : aBody Tryz.prog runnellaw7_Few_ann Tryz.f7 H [x0] r Ho = runnellaw7_Few x0 H (fun v H' => Gives H.length v H' r Ho) := by kernel_rfl

theorem runnellaw7_Few_fnH {x0 : AV} {Hin : List Ob} {r : AV} {Ho : List Ob} (h : runnellaw7_Few x0 Hin (fun v H' => Gives Hin.length v H' r Ho)) : Abs.Fn Tryz.prog runnellaw7_Few_i Hin [x0] r Ho :=
  fn_intro mixed runnellaw7_Few_ann (fn := Tryz.f7) (by kernel_rfl) (by kernel_rfl) (by rw [runnellaw7_Few_eq]; exact h)

theorem runnellaw7_Few_fn {x0 : AV} {r : AV} {Ho : List Ob} (h : runnellaw7_Few x0 [] (fun v H' => Gives 0 v H' r Ho)) : Abs.Fn Tryz.prog runnellaw7_Few_i [] [x0] r Ho := runnellaw7_Few_fnH (Hin := []) h

/- runnel/runnellaw7.Of -/
def runnellaw7_Of_L1 (q1s1 q1s2 q1s3 y0 : AV) (H : List Ob) (B1 : List AV → List Ob → Prop) (K : AV → List Ob → Prop) : Prop :=
  aFieldAddr 4 q1s1 fun v23 =>
  aLoad false 1 v23 H fun v24 =>
  aLen false false v24 fun v25 =>
  aBin false false .lss y0 v25 fun v26 =>
  aGuard v26
  (aFieldAddr 4 q1s3 fun v27 =>
  aLoad false 1 v27 H fun v28 =>
  aFieldAddr 4 q1s1 fun v29 =>
  aLoad false 1 v29 H fun v30 =>
  aIndexAddr 8 v30 y0 fun v31 =>
  aLoad true 8 v31 H fun v32 =>
  aCallT Tryz.prog (.p (.func runnellaw4_Of_i [])) [v32] fun v33 =>
  aBuildSlice 8 [v33] fun v34 =>
  aCalm [v28, v34] <|
  aAppend false 8 112 v28 v34 H fun v35 h36 =>
  aFieldAddr 4 q1s3 fun v37 =>
  aStore 1 v37 v35 h36 fun _ h39 =>
  aBin false false .add y0 (.p (.int .i64 1)) fun v40 =>
  B1 [v40] h39)
  (aLoad true 15 q1s3 H fun v41 =>
  aStore 15 q1s2 v41 H fun _ h43 =>
  aLoad true 15 q1s2 h43 fun v44 =>
  K v44 h43)

def runnellaw7_Of (x0 : AV) (H : List Ob) (K : AV → List Ob → Prop) : Prop :=
  aBox x0 H fun v0 h1 =>
  aAlloc [(.p (.int .i64 0)), (.p (.str [])), (.p (.int .i64 0)), (.full []), (.full []), (.p (.str [])), (.p (.int .i64 0)), (.p (.int .i64 0)), (.p (.bool false)), (.p (.str [])), (.full []), (.p (.int .i64 0)), (.full []), (.p (.int .i64 0)), (.p (.int .i64 0))] h1 fun v2 h3 =>
  aAlloc [(.p (.int .i64 0)), (.p (.str [])), (.p (.int .i64 0)), (.full []), (.full []), (.p (.str [])), (.p (.int .i64 0)), (.p (.int .i64 0)), (.p (.bool false)), (.p (.str [])), (.full []), (.p (.int .i64 0)), (.full []), (.p (.int .i64 0)), (.p (.int .i64 0))] h3 fun v4 h5 =>
  aFieldAddr 0 v0 fun v6 =>
  aLoad false 1 v6 h5 fun v7 =>
  aFieldAddr 1 v0 fun v8 =>
  aLoad false 1 v8 h5 fun v9 =>
  aFieldAddr 2 v0 fun v10 =>
  aLoad true 2 v10 h5 fun v11 =>
  aCallT Tryz.prog (.p (.func runnellaw1_Of_i [])) [v11] fun v12 =>
  aFieldAddr 5 v0 fun v13 =>
  aLoad true 8 v13 h5 fun v14 =>
  aCallT Tryz.prog (.p (.func runnellaw4_Of_i [])) [v14] fun v15 =>
  aFieldAddr 13 v0 fun v16 =>
  aLoad false 1 v16 h5 fun v17 =>
  aFieldAddr 14 v0 fun v18 =>
  aLoad false 1 v18 h5 fun v19 =>
  aBuild [(.p (.int .i64 0)), (.p (.str [])), (.p (.int .i64 0)), (.full []), (.full []), (.p (.str [])), (.p (.int .i64 0)), (.p (.int .i64 0)), (.p (.bool false)), (.p (.str [])), (.full []), (.p (.int .i64 0)), (.full []), (.p (.int .i64 0)), (.p (.int .i64 0))] [(0, 1, v7), (1, 1, v9), (2, 2, v12), (5, 8, v15), (13, 1, v17), (14, 1, v19)] fun v20 =>
  aStore 15 v4 v20 h5 fun _ h22 =>
  aLoopN 1 [(.p (.int .i64 0))] h22 fun xs H B1 => runnellaw7_Of_L1 v0 v2 v4 (xs.getD 0 .top) H B1 K

def runnellaw7_Of_ann : Nat → List Nat := fun k => match k with | 3 => [4] | _ => []

theorem runnellaw7_Of_eq (x0 : AV) (H : List Ob) (r : AV) (Ho : List Ob) : aBody Tryz.prog runnellaw7_Of_ann Tryz.f9 H [x0] r Ho = runnellaw7_Of x0 H (fun v H' => Gives H.length v H' r Ho) := by kernel_rfl

theorem runnellaw7_Of_fnH {x0 : AV} {Hin : List Ob} {r : AV} {Ho : List Ob} (h : runnellaw7_Of x0 Hin (fun v H' => Gives Hin.length v H' r Ho)) : Abs.Fn Tryz.prog runnellaw7_Of_i Hin [x0] r Ho :=
  fn_intro mixed runnellaw7_Of_ann (fn := Tryz.f9) (by kernel_rfl) (by kernel_rfl) (by rw [runnellaw7_Of_eq]; exact h)

theorem runnellaw7_Of_fn {x0 : AV} {r : AV} {Ho : List Ob} (h : runnellaw7_Of x0 [] (fun v H' => Gives 0 v H' r Ho)) : Abs.Fn Tryz.prog runnellaw7_Of_i [] [x0] r Ho := runnellaw7_Of_fnH (Hin := []) h

end Go.Proofs.YtgfnodmghaghpaaGreatDoor
end
