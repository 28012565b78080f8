/- Made by program (Gen.lean): functions of the dump, over trees. -/
import Derived.Test.YtijnpcociedigaaGreatDoorS1

section
/- Made by program (Gen.lean): functions of the dump, over trees. -/
set_option maxRecDepth 4000
set_option linter.unusedVariables false
namespace Go.Proofs.YtijnpcociedigaaGreatDoor
open Go Go.Abs

/- runnel/runnelref10.Check -/
def runnelref10_Check_L2 (q2s0 y0 : AV) (H : List Ob) (B2 : List AV → List Ob → Prop) (K : AV → List Ob → Prop) : Prop :=
  aLen false false q2s0 fun v12 =>
  aBin false false .lss y0 v12 fun v13 =>
  aGuard v13
  (aIndexAddr 21 q2s0 y0 fun v14 =>
  aFieldAddr 1 v14 fun v15 =>
  aFieldAddr 0 v15 fun v16 =>
  aLoad false 1 v16 H fun v17 =>
  aBin false false .neq v17 (.p (.int .i64 9)) fun v18 =>
  aMerge true v18 (fun Q19 =>
  aCall Tryz.prog (.p (.func runnelref10_Outs_i [])) [q2s0, y0] H fun v20 h21 =>
  aLenS false v20 fun v22 =>
  aBin false false .eql v22 (.p (.int .i64 0)) fun v23 =>
  (h21 = H ∧ Q19 v23)) fun v24 =>
  aGuard v24
  (K (.tup [y0, (.p (.int .i64 1))]) H)
  (aBin false false .add y0 (.p (.int .i64 1)) fun v25 =>
  B2 [v25] H))
  (K (.tup [(.p (.int .i64 0)), (.p (.int .i64 0))]) H)

def runnelref10_Check_L1 (q1s0 y0 : AV) (H : List Ob) (B1 : List AV → List Ob → Prop) (K : AV → List Ob → Prop) : Prop :=
  aLen false false q1s0 fun v4 =>
  aBin false false .lss y0 v4 fun v5 =>
  aGuard v5
  (aCall Tryz.prog (.p (.func runnelref10_types_i [])) [q1s0, y0] H fun v6 h7 =>
  aCall Tryz.prog (.p (.func runnelref10_node_i [])) [q1s0, y0, v6] h7 fun v8 h9 =>
  aBin false false .neq v8 (.p (.int .i64 0)) fun v10 =>
  aGuard v10
  (K (.tup [y0, v8]) h9)
  (aBin false false .add y0 (.p (.int .i64 1)) fun v11 =>
  B1 [v11] h9))
  (aLoopN 1 [(.p (.int .i64 0))] H fun xs H B2 => runnelref10_Check_L2 q1s0 (xs.getD 0 .top) H B2 K)

def runnelref10_Check (x0 : AV) (H : List Ob) (K : AV → List Ob → Prop) : Prop :=
  aLen false false x0 fun v0 =>
  aBin false false .eql v0 (.p (.int .i64 0)) fun v1 =>
  aGuard v1
  (K (.tup [(.p (.int .i64 0)), (.p (.int .i64 3))]) H)
  (aLen false false x0 fun v2 =>
  aBin false false .gtr v2 (.p (.int .i64 16)) fun v3 =>
  aGuard v3
  (K (.tup [(.p (.int .i64 0)), (.p (.int .i64 10))]) H)
  (aLoopN 1 [(.p (.int .i64 0))] H fun xs H B1 => runnelref10_Check_L1 x0 (xs.getD 0 .top) H B1 K))

def runnelref10_Check_ann : Nat → List Nat := fun k => match k with | 6 => [4] | 12 => [6] | _ => []

theorem runnelref10_Check_eq (x0 : AV) (H : List Ob) (r : AV) (Ho : List Ob) : aBody Tryz.prog runnelref10_Check_ann Tryz.f23 H [x0] r Ho = runnelref10_Check x0 H (fun v H' => Gives H.length v H' r Ho) := by kernel_rfl

theorem runnelref10_Check_fn {x0 : AV} {r : AV} {Ho : List Ob} (h : runnelref10_Check x0 [] (fun v H' => Gives 0 v H' r Ho)) : Abs.Fn Tryz.prog runnelref10_Check_i [] [x0] r Ho :=
  fn_intro mixed runnelref10_Check_ann (fn := Tryz.f23) (by kernel_rfl) (by kernel_rfl) (by rw [runnelref10_Check_eq]; exact h)

/- runnel/runnelref10.Keyed -/
def runnelref10_Keyed (x0 : AV) (H : List Ob) (K : AV → List Ob → Prop) : Prop :=
  aBox x0 H fun v0 h1 =>
  aFieldAddr 0 v0 fun v2 =>
  aLoad false 1 v2 h1 fun v3 =>
  aBin false false .eql v3 (.p (.int .i64 5)) fun v4 =>
  aMerge false v4 (fun Q5 =>
  aFieldAddr 0 v0 fun v6 =>
  aLoad false 1 v6 h1 fun v7 =>
  aBin false false .eql v7 (.p (.int .i64 6)) fun v8 =>
  (h1 = h1 ∧ Q5 v8)) fun v9 =>
  aMerge false v9 (fun Q10 =>
  aFieldAddr 0 v0 fun v11 =>
  aLoad false 1 v11 h1 fun v12 =>
  aBin false false .eql v12 (.p (.int .i64 7)) fun v13 =>
  (h1 = h1 ∧ Q10 v13)) fun v14 =>
  K v14 h1

def runnelref10_Keyed_ann : Nat → List Nat := fun _ => []

theorem runnelref10_Keyed_eq (x0 : AV) (H : List Ob) (r : AV) (Ho : List Ob) : aBody Tryz.prog runnelref10_Keyed_ann Tryz.f37 H [x0] r Ho = runnelref10_Keyed x0 H (fun v H' => Gives H.length v H' r Ho) := by kernel_rfl

theorem runnelref10_Keyed_fn {x0 : AV} {r : AV} {Ho : List Ob} (h : runnelref10_Keyed x0 [] (fun v H' => Gives 0 v H' r Ho)) : Abs.Fn Tryz.prog runnelref10_Keyed_i [] [x0] r Ho :=
  fn_intro mixed runnelref10_Keyed_ann (fn := Tryz.f37) (by kernel_rfl) (by kernel_rfl) (by rw [runnelref10_Keyed_eq]; exact h)

/- runnel/runnelref10.node (in pieces) -/
def runnelref10_node_ann : Nat → List Nat := fun k => match k with | 5 => [8] | 13 => [9, 10] | 18 => [11] | 29 => [14] | 889888888 => [1] | 701000023 => [1] | 2000023 => [0, 1, 7, 9, 9999] | _ => []
def runnelref10_node_cut : Nat → Bool := fun k => match k with | 23 => true | _ => false
noncomputable def runnelref10_node_c : Code := Tryz.f43.body.getD .skip
noncomputable def runnelref10_node_c23 : Code := (cr (cr (cr (cr (cr (cr (cr runnelref10_node_c)))))))

def runnelref10_node_L3 (q3s0 q3s1 q3s2 q3s7 q3s8 q3s9 q3s10 q3s15 q3s16 q3s17 q3s18 q3s19 q3s20 q3s21 q3s22 q3s23 q3s28 q3s29 q3s34 q3s35 q3s36 q3s37 q3s53 q3s54 q3s55 q3s56 q3s60 q3s61 q3s67 q3s68 q3s72 q3s73 q3s74 q3s75 q3s76 q3s77 q3s80 q3s81 q3s82 q3s83 q3s84 q3s85 q3s86 q3s94 q3s95 q3s107 y0 : AV) (H : List Ob) (B3 : List AV → List Ob → Prop) (B2 : List AV → List Ob → Prop) (self : Code → List AV → List Ob → Ko → Prop) (kp : Ko) : Prop :=
  aBin false false .lss y0 q3s10 fun v82 =>
  aGuard v82
  (aFieldAddr 16 q3s7 fun v83 =>
  aLoad false 1 v83 H fun v84 =>
  aIndexAddr 1 v84 y0 fun v85 =>
  aLoad false 1 v85 H fun v86 =>
  aFieldAddr 16 q3s7 fun v87 =>
  aLoad false 1 v87 H fun v88 =>
  aIndexAddr 1 v88 q3s10 fun v89 =>
  aLoad false 1 v89 H fun v90 =>
  aBin false false .eql v86 v90 fun v91 =>
  aGuard v91
  (kp .ret [q3s0,q3s1,q3s2,.top,.top,.top,(.p (.int .i64 1)),q3s7,q3s8,q3s9,q3s10,y0,.top,.top,.top,q3s15,q3s16,q3s17,q3s18,q3s19,q3s20,q3s21,q3s22,q3s23,.top,.top,.top,.top,q3s28,q3s29,.top,.top,.top,.top,q3s34,q3s35,q3s36,q3s37,.top,.top,.top,.top,.top,.top,.top,.top,.top,.top,.top,.top,.top,.top,.top,q3s53,q3s54,q3s55,q3s56,.top,.top,.top,q3s60,q3s61,.top,.top,.top,.top,.top,q3s67,q3s68,.top,.top,.top,q3s72,q3s73,q3s74,q3s75,q3s76,q3s77,.top,.top,q3s80,q3s81,q3s82,q3s83,q3s84,q3s85,q3s86,.top,.top,.top,.top,.top,.top,.top,q3s94,q3s95,.top,.top,.top,.top,.top,.top,.top,.top,.top,.top,.top,q3s107,y0,q3s10,(.p (.bool true)),.top,.top,v83,v84,y0,v85,v86,v87,v88,q3s10,v89,v90,(.p (.bool true)),.top,.top,.top,.top,.top,.top,.top,.top,.top,.top,.top,.top,.top,.top,.top,.top,.top,.top,.top,.top,.top,.top,.top,.top,.top,.top,.top,.top,.top,.top,.top,.top,.top,.top,.top,.top,.top,.top,.top,.top,.top,.top,.top,.top,.top,.top,.top,.top,.top,.top,.top,.top,.top,.top,.top,.top,.top,.top,.top,.top,.top,.top,.top,.top] H)
  (aBin false false .add y0 (.p (.int .i64 1)) fun v92 =>
  B3 [v92] H))
  (aFieldAddr 16 q3s7 fun v93 =>
  aLoad false 1 v93 H fun v94 =>
  aIndexAddr 1 v94 q3s10 fun v95 =>
  aLoad false 1 v95 H fun v96 =>
  aIndexAddr 2 q3s2 v96 fun v97 =>
  aLoad true 2 v97 H fun v98 =>
  aBuildSlice 2 [v98] fun v99 =>
  aAppend false 2 32 q3s9 v99 H fun v100 h101 =>
  aBin false false .add q3s10 (.p (.int .i64 1)) fun v102 =>
  B2 [v100, v102] h101)

def runnelref10_node_L2 (q2s0 q2s1 q2s2 q2s7 q2s8 q2s15 q2s16 q2s17 q2s18 q2s19 q2s20 q2s21 q2s22 q2s23 q2s28 q2s29 q2s34 q2s35 q2s36 q2s37 q2s53 q2s54 q2s55 q2s56 q2s60 q2s61 q2s67 q2s68 q2s72 y0 y1 : AV) (H : List Ob) (B2 : List AV → List Ob → Prop) (self : Code → List AV → List Ob → Ko → Prop) (kp : Ko) : Prop :=
  aFieldAddr 16 q2s7 fun v55 =>
  aLoad false 1 v55 H fun v56 =>
  aLen false false v56 fun v57 =>
  aBin false false .lss y1 v57 fun v58 =>
  aGuard v58
  (aFieldAddr 16 q2s7 fun v59 =>
  aLoad false 1 v59 H fun v60 =>
  aIndexAddr 1 v60 y1 fun v61 =>
  aLoad false 1 v61 H fun v62 =>
  aBin false false .lss v62 (.p (.int .i64 0)) fun v63 =>
  aMerge false v63 (fun Q64 =>
  aFieldAddr 16 q2s7 fun v65 =>
  aLoad false 1 v65 H fun v66 =>
  aIndexAddr 1 v66 y1 fun v67 =>
  aLoad false 1 v67 H fun v68 =>
  aBin false false .geq v68 q2s1 fun v69 =>
  (H = H ∧ Q64 v69)) fun v70 =>
  aMerge false v70 (fun Q71 =>
  aFieldAddr 16 q2s7 fun v72 =>
  aLoad false 1 v72 H fun v73 =>
  aIndexAddr 1 v73 y1 fun v74 =>
  aLoad false 1 v74 H fun v75 =>
  aIndexAddr 21 q2s0 v75 fun v76 =>
  aFieldAddr 1 v76 fun v77 =>
  aFieldAddr 0 v77 fun v78 =>
  aLoad false 1 v78 H fun v79 =>
  aBin false false .eql v79 (.p (.int .i64 9)) fun v80 =>
  (H = H ∧ Q71 v80)) fun v81 =>
  aGuard v81
  (kp .ret [q2s0,q2s1,q2s2,.top,.top,.top,(.p (.int .i64 1)),q2s7,q2s8,y0,y1,.top,.top,.top,.top,q2s15,q2s16,q2s17,q2s18,q2s19,q2s20,q2s21,q2s22,q2s23,.top,.top,.top,.top,q2s28,q2s29,.top,.top,.top,.top,q2s34,q2s35,q2s36,q2s37,.top,.top,.top,.top,.top,.top,.top,.top,.top,.top,.top,.top,.top,.top,.top,q2s53,q2s54,q2s55,q2s56,.top,.top,.top,q2s60,q2s61,.top,.top,.top,.top,.top,q2s67,q2s68,.top,.top,.top,q2s72,y1,v55,v56,v57,(.p (.bool true)),.top,.top,v59,v60,y1,v61,v62,v63,v63,.top,.top,.top,.top,.top,.top,.top,v70,v70,.top,.top,.top,.top,.top,.top,.top,.top,.top,.top,.top,(.p (.bool true)),.top,.top,.top,.top,.top,.top,.top,.top,.top,.top,.top,.top,.top,.top,.top,.top,.top,.top,.top,.top,.top,.top,.top,.top,.top,.top,.top,.top,.top,.top,.top,.top,.top,.top,.top,.top,.top,.top,.top,.top,.top,.top,.top,.top,.top,.top,.top,.top,.top,.top,.top,.top,.top,.top,.top,.top,.top,.top,.top,.top,.top,.top,.top,.top,.top,.top,.top,.top,.top,.top,.top,.top,.top,.top,.top,.top,.top,.top,.top,.top] H)
  (aLoopN 1 [(.p (.int .i64 0))] H fun xs H B3 => runnelref10_node_L3 q2s0 q2s1 q2s2 q2s7 q2s8 y0 y1 q2s15 q2s16 q2s17 q2s18 q2s19 q2s20 q2s21 q2s22 q2s23 q2s28 q2s29 q2s34 q2s35 q2s36 q2s37 q2s53 q2s54 q2s55 q2s56 q2s60 q2s61 q2s67 q2s68 q2s72 y1 v55 v56 v57 (.p (.bool true)) v59 v60 y1 v61 v62 v63 v63 v70 v70 (.p (.bool false)) (xs.getD 0 .top) H B3 B2 self kp))
  (self runnelref10_node_c23 (keepS [0, 1, 7, 9, 9999] 0 [q2s0,q2s1,q2s2,.top,.top,.top,.top,q2s7,q2s8,y0,y1,.top,.top,.top,.top,q2s15,q2s16,q2s17,q2s18,q2s19,q2s20,q2s21,q2s22,q2s23,.top,.top,.top,.top,q2s28,q2s29,.top,.top,.top,.top,q2s34,q2s35,q2s36,q2s37,.top,.top,.top,.top,.top,.top,.top,.top,.top,.top,.top,.top,.top,.top,.top,q2s53,q2s54,q2s55,q2s56,.top,.top,.top,q2s60,q2s61,.top,.top,.top,.top,.top,q2s67,q2s68,.top,.top,.top,q2s72,y1,v55,v56,v57,(.p (.bool false)),.top,.top,.top,.top,.top,.top,.top,.top,.top,.top,.top,.top,.top,.top,.top,.top,.top,.top,.top,.top,.top,.top,.top,.top,.top,.top,.top,.top,.top,.top,.top,.top,.top,.top,.top,.top,.top,.top,.top,.top,.top,.top,.top,.top,.top,.top,.top,.top,.top,.top,.top,.top,.top,.top,.top,.top,.top,.top,.top,.top,.top,.top,.top,.top,.top,.top,.top,.top,.top,.top,.top,.top,.top,.top,.top,.top,.top,.top,.top,.top,.top,.top,.top,.top,.top,.top,.top,.top,.top,.top,.top,.top,.top,.top,.top,.top,.top,.top,.top,.top,.top,.top,.top,.top,.top,.top,.top,.top,.top,.top]) H kp)

def runnelref10_node_L1 (q1s0 q1s1 q1s2 q1s7 q1s15 q1s16 q1s17 q1s18 q1s19 q1s20 q1s21 q1s22 q1s23 q1s28 q1s29 q1s34 y0 : AV) (H : List Ob) (B1 : List AV → List Ob → Prop) (self : Code → List AV → List Ob → Ko → Prop) (kp : Ko) : Prop :=
  aBin false false .lss y0 q1s1 fun v23 =>
  aGuard v23
  (aFieldAddr 0 q1s7 fun v24 =>
  aLoad false 1 v24 H fun v25 =>
  aBin false false .neq v25 (.p (.str [])) fun v26 =>
  aGuard v26
  (aIndexAddr 21 q1s0 y0 fun v27 =>
  aFieldAddr 0 v27 fun v28 =>
  aLoad false 1 v28 H fun v29 =>
  aFieldAddr 0 q1s7 fun v30 =>
  aLoad false 1 v30 H fun v31 =>
  aBin false false .eql v29 v31 fun v32 =>
  aGuard v32
  (kp .ret [q1s0,q1s1,q1s2,.top,.top,.top,(.p (.int .i64 7)),q1s7,y0,.top,.top,.top,.top,.top,.top,q1s15,q1s16,q1s17,q1s18,q1s19,q1s20,q1s21,q1s22,q1s23,.top,.top,.top,.top,q1s28,q1s29,.top,.top,.top,.top,q1s34,y0,q1s1,(.p (.bool true)),.top,.top,v24,v25,v26,(.p (.bool true)),q1s0,y0,v27,v28,v29,v30,v31,v32,(.p (.bool true)),.top,.top,.top,.top,.top,.top,.top,.top,.top,.top,.top,.top,.top,.top,.top,.top,.top,.top,.top,.top,.top,.top,.top,.top,.top,.top,.top,.top,.top,.top,.top,.top,.top,.top,.top,.top,.top,.top,.top,.top,.top,.top,.top,.top,.top,.top,.top,.top,.top,.top,.top,.top,.top,.top,.top,.top,.top,.top,.top,.top,.top,.top,.top,.top,.top,.top,.top,.top,.top,.top,.top,.top,.top,.top,.top,.top,.top,.top,.top,.top,.top,.top,.top,.top,.top,.top,.top,.top,.top,.top,.top,.top,.top,.top,.top,.top,.top,.top,.top,.top,.top,.top,.top,.top,.top,.top,.top,.top,.top,.top,.top,.top,.top,.top,.top,.top,.top,.top,.top,.top,.top,.top,.top,.top,.top,.top,.top,.top,.top,.top,.top,.top,.top,.top,.top] H)
  (aBin false false .add y0 (.p (.int .i64 1)) fun v33 =>
  B1 [v33] H))
  (aBin false false .add y0 (.p (.int .i64 1)) fun v34 =>
  B1 [v34] H))
  (aFieldAddr 17 q1s7 fun v35 =>
  aLoad false 1 v35 H fun v36 =>
  aBin false false .lss v36 (.p (.int .i64 1)) fun v37 =>
  aMerge false v37 (fun Q38 =>
  aFieldAddr 17 q1s7 fun v39 =>
  aLoad false 1 v39 H fun v40 =>
  aBin false false .gtr v40 (.p (.int .i64 4)) fun v41 =>
  (H = H ∧ Q38 v41)) fun v42 =>
  aMerge false v42 (fun Q43 =>
  aFieldAddr 18 q1s7 fun v44 =>
  aLoad false 1 v44 H fun v45 =>
  aFieldAddr 17 q1s7 fun v46 =>
  aLoad false 1 v46 H fun v47 =>
  aBin false false .lss v45 v47 fun v48 =>
  (H = H ∧ Q43 v48)) fun v49 =>
  aMerge false v49 (fun Q50 =>
  aFieldAddr 18 q1s7 fun v51 =>
  aLoad false 1 v51 H fun v52 =>
  aBin false false .gtr v52 (.p (.int .i64 16)) fun v53 =>
  (H = H ∧ Q50 v53)) fun v54 =>
  aGuard v54
  (kp .ret [q1s0,q1s1,q1s2,.top,.top,.top,(.p (.int .i64 1)),q1s7,y0,.top,.top,.top,.top,.top,.top,q1s15,q1s16,q1s17,q1s18,q1s19,q1s20,q1s21,q1s22,q1s23,.top,.top,.top,.top,q1s28,q1s29,.top,.top,.top,.top,q1s34,y0,q1s1,(.p (.bool false)),.top,.top,.top,.top,.top,.top,.top,.top,.top,.top,.top,.top,.top,.top,.top,v35,v36,v37,v37,.top,.top,.top,v42,v42,.top,.top,.top,.top,.top,v49,v49,.top,.top,.top,(.p (.bool true)),.top,.top,.top,.top,.top,.top,.top,.top,.top,.top,.top,.top,.top,.top,.top,.top,.top,.top,.top,.top,.top,.top,.top,.top,.top,.top,.top,.top,.top,.top,.top,.top,.top,.top,.top,.top,.top,.top,.top,.top,.top,.top,.top,.top,.top,.top,.top,.top,.top,.top,.top,.top,.top,.top,.top,.top,.top,.top,.top,.top,.top,.top,.top,.top,.top,.top,.top,.top,.top,.top,.top,.top,.top,.top,.top,.top,.top,.top,.top,.top,.top,.top,.top,.top,.top,.top,.top,.top,.top,.top,.top,.top,.top,.top,.top,.top,.top,.top,.top,.top,.top,.top,.top,.top,.top,.top,.top,.top,.top,.top,.top,.top,.top,.top,.top] H)
  (aLoopN 2 [(.full []), (.p (.int .i64 0))] H fun xs H B2 => runnelref10_node_L2 q1s0 q1s1 q1s2 q1s7 y0 q1s15 q1s16 q1s17 q1s18 q1s19 q1s20 q1s21 q1s22 q1s23 q1s28 q1s29 q1s34 y0 q1s1 (.p (.bool false)) v35 v36 v37 v37 v42 v42 v49 v49 (.p (.bool false)) (xs.getD 0 .top) (xs.getD 1 .top) H B2 self kp))

def runnelref10_node_P0 (j0 j1 j2 : AV) (H : List Ob) (self : Code → List AV → List Ob → Ko → Prop) (kp : Ko) : Prop :=
  aIndexAddr 21 j0 j1 fun v0 =>
  aLoad true 21 v0 H fun v1 =>
  aAlloc [(.p (.str [])), (.p (.int .i64 0)), (.p (.str [])), (.p (.int .i64 0)), (.full []), (.full []), (.p (.str [])), (.p (.int .i64 0)), (.p (.int .i64 0)), (.p (.bool false)), (.p (.str [])), (.full []), (.p (.int .i64 0)), (.full []), (.p (.int .i64 0)), (.p (.int .i64 0)), (.full []), (.p (.int .i64 0)), (.p (.int .i64 0)), (.p (.str [])), (.p (.bool false))] H fun v2 h3 =>
  aStore 21 v2 v1 h3 fun _ h5 =>
  aFieldAddr 0 v2 fun v6 =>
  aLoad false 1 v6 h5 fun v7 =>
  aBin false false .neq v7 (.p (.str [])) fun v8 =>
  aMerge true v8 (fun Q9 =>
  aFieldAddr 0 v2 fun v10 =>
  aLoad false 1 v10 h5 fun v11 =>
  aCall Tryz.prog (.p (.func runnelref10_Good_i [])) [v11] h5 fun v12 h13 =>
  aUn .not v12 fun v14 =>
  (h13 = h5 ∧ Q9 v14)) fun v15 =>
  aMerge false v15 (fun Q16 =>
  aFieldAddr 19 v2 fun v17 =>
  aLoad false 1 v17 h5 fun v18 =>
  aCall Tryz.prog (.p (.func runnelref10_Good_i [])) [v18] h5 fun v19 h20 =>
  aUn .not v19 fun v21 =>
  (h20 = h5 ∧ Q16 v21)) fun v22 =>
  aGuard v22
  (kp .ret [j0,j1,j2,.top,.top,.top,(.p (.int .i64 6)),v2,.top,.top,.top,.top,.top,.top,.top,j0,j1,v0,v1,(.p (.bool true)),v6,v7,v8,v8,.top,.top,.top,.top,v15,v15,.top,.top,.top,.top,v22,.top,.top,.top,.top,.top,.top,.top,.top,.top,.top,.top,.top,.top,.top,.top,.top,.top,.top,.top,.top,.top,.top,.top,.top,.top,.top,.top,.top,.top,.top,.top,.top,.top,.top,.top,.top,.top,.top,.top,.top,.top,.top,.top,.top,.top,.top,.top,.top,.top,.top,.top,.top,.top,.top,.top,.top,.top,.top,.top,.top,.top,.top,.top,.top,.top,.top,.top,.top,.top,.top,.top,.top,.top,.top,.top,.top,.top,.top,.top,.top,.top,.top,.top,.top,.top,.top,.top,.top,.top,.top,.top,.top,.top,.top,.top,.top,.top,.top,.top,.top,.top,.top,.top,.top,.top,.top,.top,.top,.top,.top,.top,.top,.top,.top,.top,.top,.top,.top,.top,.top,.top,.top,.top,.top,.top,.top,.top,.top,.top,.top,.top,.top,.top,.top,.top,.top,.top,.top,.top,.top,.top,.top,.top,.top,.top,.top,.top,.top,.top,.top,.top,.top,.top] h5)
  (aLoopN 1 [(.p (.int .i64 0))] h5 fun xs H B1 => runnelref10_node_L1 j0 j1 j2 v2 j0 j1 v0 v1 (.p (.bool false)) v6 v7 v8 v8 v15 v15 v22 (xs.getD 0 .top) H B1 self kp)

theorem runnelref10_node_P0_x (j0 j1 j2 : AV) (H : List Ob) (self : Code → List AV → List Ob → Ko → Prop) (kp : Ko) : awpX Tryz.prog runnelref10_node_ann self runnelref10_node_cut runnelref10_node_c ([j0,j1,j2] ++ List.replicate 185 .top) H kp = runnelref10_node_P0 j0 j1 j2 H self kp := by kernel_rfl

theorem runnelref10_node_c_eq (j0 j1 j2 : AV) (H : List Ob) (kp : Ko) : awp Tryz.prog runnelref10_node_ann runnelref10_node_c [j0,j1,j2,.top,.top,.top,.top,.top,.top,.top,.top,.top,.top,.top,.top,.top,.top,.top,.top,.top,.top,.top,.top,.top,.top,.top,.top,.top,.top,.top,.top,.top,.top,.top,.top,.top,.top,.top,.top,.top,.top,.top,.top,.top,.top,.top,.top,.top,.top,.top,.top,.top,.top,.top,.top,.top,.top,.top,.top,.top,.top,.top,.top,.top,.top,.top,.top,.top,.top,.top,.top,.top,.top,.top,.top,.top,.top,.top,.top,.top,.top,.top,.top,.top,.top,.top,.top,.top,.top,.top,.top,.top,.top,.top,.top,.top,.top,.top,.top,.top,.top,.top,.top,.top,.top,.top,.top,.top,.top,.top,.top,.top,.top,.top,.top,.top,.top,.top,.top,.top,.top,.top,.top,.top,.top,.top,.top,.top,.top,.top,.top,.top,.top,.top,.top,.top,.top,.top,.top,.top,.top,.top,.top,.top,.top,.top,.top,.top,.top,.top,.top,.top,.top,.top,.top,.top,.top,.top,.top,.top,.top,.top,.top,.top,.top,.top,.top,.top,.top,.top,.top,.top,.top,.top,.top,.top,.top,.top,.top,.top,.top,.top,.top,.top,.top,.top,.top,.top] H kp = runnelref10_node_P0 j0 j1 j2 H (awp Tryz.prog runnelref10_node_ann) kp :=
  Eq.trans (by kernel_rfl) ((awpX_eq Tryz.prog runnelref10_node_ann runnelref10_node_cut _ _ _ _).symm.trans (runnelref10_node_P0_x j0 j1 j2 H _ kp))

theorem runnelref10_node_eq (j0 j1 j2 : AV) (H : List Ob) (r : AV) (Ho : List Ob) : aBody Tryz.prog runnelref10_node_ann Tryz.f43 H [j0, j1, j2] r Ho = runnelref10_node_P0 j0 j1 j2 H (awp Tryz.prog runnelref10_node_ann) (kEnd Tryz.prog [.tmp 6] fun v H' => Gives H.length v H' r Ho) :=
  (show aBody Tryz.prog runnelref10_node_ann Tryz.f43 H [j0, j1, j2] r Ho = awp Tryz.prog runnelref10_node_ann runnelref10_node_c [j0,j1,j2,.top,.top,.top,.top,.top,.top,.top,.top,.top,.top,.top,.top,.top,.top,.top,.top,.top,.top,.top,.top,.top,.top,.top,.top,.top,.top,.top,.top,.top,.top,.top,.top,.top,.top,.top,.top,.top,.top,.top,.top,.top,.top,.top,.top,.top,.top,.top,.top,.top,.top,.top,.top,.top,.top,.top,.top,.top,.top,.top,.top,.top,.top,.top,.top,.top,.top,.top,.top,.top,.top,.top,.top,.top,.top,.top,.top,.top,.top,.top,.top,.top,.top,.top,.top,.top,.top,.top,.top,.top,.top,.top,.top,.top,.top,.top,.top,.top,.top,.top,.top,.top,.top,.top,.top,.top,.top,.top,.top,.top,.top,.top,.top,.top,.top,.top,.top,.top,.top,.top,.top,.top,.top,.top,.top,.top,.top,.top,.top,.top,.top,.top,.top,.top,.top,.top,.top,.top,.top,.top,.top,.top,.top,.top,.top,.top,.top,.top,.top,.top,.top,.top,.top,.top,.top,.top,.top,.top,.top,.top,.top,.top,.top,.top,.top,.top,.top,.top,.top,.top,.top,.top,.top,.top,.top,.top,.top,.top,.top,.top,.top,.top,.top,.top,.top,.top] H (kEnd Tryz.prog [.tmp 6] fun v H' => Gives H.length v H' r Ho) from by kernel_rfl).trans (runnelref10_node_c_eq j0 j1 j2 H _)

theorem runnelref10_node_fn {j0 j1 j2 : AV} {r : AV} {Ho : List Ob} (h : runnelref10_node_P0 j0 j1 j2 [] (awp Tryz.prog runnelref10_node_ann) (kEnd Tryz.prog [.tmp 6] fun v H' => Gives 0 v H' r Ho)) : Abs.Fn Tryz.prog runnelref10_node_i [] [j0, j1, j2] r Ho :=
  fn_intro mixed runnelref10_node_ann (fn := Tryz.f43) (by kernel_rfl) (by kernel_rfl) (by rw [runnelref10_node_eq]; exact h)

def runnelref10_node_L4 (q4s0 q4s1 q4s7 q4s9 q4s12 q4s13 q4s135 q4s136 q4s137 q4s138 q4s139 q4s140 q4s141 q4s142 q4s143 q4s145 q4s146 q4s147 q4s148 y0 : AV) (H : List Ob) (B4 : List AV → List Ob → Prop) (self : Code → List AV → List Ob → Ko → Prop) (kp : Ko) : Prop :=
  aBin false false .lss y0 q4s1 fun v117 =>
  aGuard v117
  (aFieldAddr 1 q4s7 fun v118 =>
  aFieldAddr 0 v118 fun v119 =>
  aLoad false 1 v119 H fun v120 =>
  aBin false false .eql v120 (.p (.int .i64 1)) fun v121 =>
  aGuard v121
  (aIndexAddr 21 q4s0 y0 fun v122 =>
  aFieldAddr 1 v122 fun v123 =>
  aFieldAddr 0 v123 fun v124 =>
  aLoad false 1 v124 H fun v125 =>
  aFieldAddr 1 q4s7 fun v126 =>
  aFieldAddr 0 v126 fun v127 =>
  aLoad false 1 v127 H fun v128 =>
  aBin false false .eql v125 v128 fun v129 =>
  aGuard v129
  (aIndexAddr 21 q4s0 y0 fun v130 =>
  aFieldAddr 1 v130 fun v131 =>
  aFieldAddr 1 v131 fun v132 =>
  aLoad false 1 v132 H fun v133 =>
  aFieldAddr 1 q4s7 fun v134 =>
  aFieldAddr 1 v134 fun v135 =>
  aLoad false 1 v135 H fun v136 =>
  aBin false false .eql v133 v136 fun v137 =>
  aGuard v137
  (kp .ret [q4s0,q4s1,.top,.top,.top,.top,(.p (.int .i64 7)),q4s7,.top,q4s9,.top,.top,q4s12,q4s13,y0,.top,.top,.top,.top,.top,.top,.top,.top,.top,.top,.top,.top,.top,.top,.top,.top,.top,.top,.top,.top,.top,.top,.top,.top,.top,.top,.top,.top,.top,.top,.top,.top,.top,.top,.top,.top,.top,.top,.top,.top,.top,.top,.top,.top,.top,.top,.top,.top,.top,.top,.top,.top,.top,.top,.top,.top,.top,.top,.top,.top,.top,.top,.top,.top,.top,.top,.top,.top,.top,.top,.top,.top,.top,.top,.top,.top,.top,.top,.top,.top,.top,.top,.top,.top,.top,.top,.top,.top,.top,.top,.top,.top,.top,.top,.top,.top,.top,.top,.top,.top,.top,.top,.top,.top,.top,.top,.top,.top,.top,.top,.top,.top,.top,.top,.top,.top,.top,.top,.top,.top,q4s135,q4s136,q4s137,q4s138,q4s139,q4s140,q4s141,q4s142,q4s143,.top,q4s145,q4s146,q4s147,q4s148,y0,q4s1,(.p (.bool true)),.top,.top,v118,v119,v120,v121,(.p (.bool true)),(.tup []),(.tup []),(.tup []),(.tup []),(.p (.bool true)),(.p (.bool true)),q4s0,y0,v122,v123,v124,v125,v126,v127,v128,v129,v129,(.p (.bool true)),q4s0,y0,v130,v131,v132,v133,v134,v135,v136,v137,(.p (.bool true))] H)
  (aBin false false .add y0 (.p (.int .i64 1)) fun v138 =>
  B4 [v138] H))
  (aBin false false .add y0 (.p (.int .i64 1)) fun v139 =>
  B4 [v139] H))
  (aFieldAddr 1 q4s7 fun v140 =>
  aFieldAddr 0 v140 fun v141 =>
  aLoad false 1 v141 H fun v142 =>
  aBin false false .eql v142 (.p (.int .i64 9)) fun v143 =>
  aGuard v143
  (aIndexAddr 21 q4s0 y0 fun v144 =>
  aFieldAddr 1 v144 fun v145 =>
  aFieldAddr 0 v145 fun v146 =>
  aLoad false 1 v146 H fun v147 =>
  aFieldAddr 1 q4s7 fun v148 =>
  aFieldAddr 0 v148 fun v149 =>
  aLoad false 1 v149 H fun v150 =>
  aBin false false .eql v147 v150 fun v151 =>
  aGuard v151
  (aIndexAddr 21 q4s0 y0 fun v152 =>
  aFieldAddr 1 v152 fun v153 =>
  aFieldAddr 1 v153 fun v154 =>
  aLoad false 1 v154 H fun v155 =>
  aFieldAddr 1 q4s7 fun v156 =>
  aFieldAddr 1 v156 fun v157 =>
  aLoad false 1 v157 H fun v158 =>
  aBin false false .eql v155 v158 fun v159 =>
  aGuard v159
  (kp .ret [q4s0,q4s1,.top,.top,.top,.top,(.p (.int .i64 7)),q4s7,.top,q4s9,.top,.top,q4s12,q4s13,y0,.top,.top,.top,.top,.top,.top,.top,.top,.top,.top,.top,.top,.top,.top,.top,.top,.top,.top,.top,.top,.top,.top,.top,.top,.top,.top,.top,.top,.top,.top,.top,.top,.top,.top,.top,.top,.top,.top,.top,.top,.top,.top,.top,.top,.top,.top,.top,.top,.top,.top,.top,.top,.top,.top,.top,.top,.top,.top,.top,.top,.top,.top,.top,.top,.top,.top,.top,.top,.top,.top,.top,.top,.top,.top,.top,.top,.top,.top,.top,.top,.top,.top,.top,.top,.top,.top,.top,.top,.top,.top,.top,.top,.top,.top,.top,.top,.top,.top,.top,.top,.top,.top,.top,.top,.top,.top,.top,.top,.top,.top,.top,.top,.top,.top,.top,.top,.top,.top,.top,.top,q4s135,q4s136,q4s137,q4s138,q4s139,q4s140,q4s141,q4s142,q4s143,.top,q4s145,q4s146,q4s147,q4s148,y0,q4s1,(.p (.bool true)),.top,.top,v118,v119,v120,v121,(.p (.bool false)),v140,v141,v142,v143,v143,(.p (.bool true)),q4s0,y0,v144,v145,v146,v147,v148,v149,v150,v151,v151,(.p (.bool true)),q4s0,y0,v152,v153,v154,v155,v156,v157,v158,v159,(.p (.bool true))] H)
  (aBin false false .add y0 (.p (.int .i64 1)) fun v160 =>
  B4 [v160] H))
  (aBin false false .add y0 (.p (.int .i64 1)) fun v161 =>
  B4 [v161] H))
  (aBin false false .add y0 (.p (.int .i64 1)) fun v162 =>
  B4 [v162] H)))
  (kp .ret [q4s0,q4s1,.top,.top,.top,.top,(.p (.int .i64 0)),q4s7,.top,q4s9,.top,.top,q4s12,q4s13,y0,.top,.top,.top,.top,.top,.top,.top,.top,.top,.top,.top,.top,.top,.top,.top,.top,.top,.top,.top,.top,.top,.top,.top,.top,.top,.top,.top,.top,.top,.top,.top,.top,.top,.top,.top,.top,.top,.top,.top,.top,.top,.top,.top,.top,.top,.top,.top,.top,.top,.top,.top,.top,.top,.top,.top,.top,.top,.top,.top,.top,.top,.top,.top,.top,.top,.top,.top,.top,.top,.top,.top,.top,.top,.top,.top,.top,.top,.top,.top,.top,.top,.top,.top,.top,.top,.top,.top,.top,.top,.top,.top,.top,.top,.top,.top,.top,.top,.top,.top,.top,.top,.top,.top,.top,.top,.top,.top,.top,.top,.top,.top,.top,.top,.top,.top,.top,.top,.top,.top,.top,q4s135,q4s136,q4s137,q4s138,q4s139,q4s140,q4s141,q4s142,q4s143,.top,q4s145,q4s146,q4s147,q4s148,y0,q4s1,(.p (.bool false)),.top,.top,.top,.top,.top,.top,.top,.top,.top,.top,.top,.top,.top,.top,.top,.top,.top,.top,.top,.top,.top,.top,.top,.top,.top,.top,.top,.top,.top,.top,.top,.top,.top,.top,.top,.top] H)

def runnelref10_node_P23 (j0 j1 j7 j9 : AV) (H : List Ob) (self : Code → List AV → List Ob → Ko → Prop) (kp : Ko) : Prop :=
  aFieldAddr 1 j7 fun v103 =>
  aLoad true 15 v103 H fun v104 =>
  aCall Tryz.prog (.p (.func runnelref10_Out_i [])) [v104, j9] H fun v105 h106 =>
  aExtract v105 0 fun v107 =>
  aExtract v105 1 fun v108 =>
  aAlloc [(.p (.int .i64 0)), (.full [])] h106 fun v109 h110 =>
  aStore 2 v109 v107 h110 fun _ h112 =>
  aBin false false .neq v108 (.p (.int .i64 0)) fun v113 =>
  aGuard v113
  (kp .ret [j0,j1,.top,.top,.top,.top,v108,j7,.top,j9,.top,.top,v109,v108,.top,.top,.top,.top,.top,.top,.top,.top,.top,.top,.top,.top,.top,.top,.top,.top,.top,.top,.top,.top,.top,.top,.top,.top,.top,.top,.top,.top,.top,.top,.top,.top,.top,.top,.top,.top,.top,.top,.top,.top,.top,.top,.top,.top,.top,.top,.top,.top,.top,.top,.top,.top,.top,.top,.top,.top,.top,.top,.top,.top,.top,.top,.top,.top,.top,.top,.top,.top,.top,.top,.top,.top,.top,.top,.top,.top,.top,.top,.top,.top,.top,.top,.top,.top,.top,.top,.top,.top,.top,.top,.top,.top,.top,.top,.top,.top,.top,.top,.top,.top,.top,.top,.top,.top,.top,.top,.top,.top,.top,.top,.top,.top,.top,.top,.top,.top,.top,.top,.top,.top,.top,v105,v103,v104,j9,v105,v107,v108,v108,(.p (.bool true)),v108,.top,.top,.top,.top,.top,.top,.top,.top,.top,.top,.top,.top,.top,.top,.top,.top,.top,.top,.top,.top,.top,.top,.top,.top,.top,.top,.top,.top,.top,.top,.top,.top,.top,.top,.top,.top,.top,.top,.top,.top,.top,.top,.top] h112)
  (aCall Tryz.prog (.p (.func runnelref10_weight_i [])) [j0, j1] h112 fun v114 h115 =>
  aBin false false .gtr v114 (.p (.int .i64 64)) fun v116 =>
  aGuard v116
  (kp .ret [j0,j1,.top,.top,.top,.top,(.p (.int .i64 10)),j7,.top,j9,.top,.top,v109,v108,.top,.top,.top,.top,.top,.top,.top,.top,.top,.top,.top,.top,.top,.top,.top,.top,.top,.top,.top,.top,.top,.top,.top,.top,.top,.top,.top,.top,.top,.top,.top,.top,.top,.top,.top,.top,.top,.top,.top,.top,.top,.top,.top,.top,.top,.top,.top,.top,.top,.top,.top,.top,.top,.top,.top,.top,.top,.top,.top,.top,.top,.top,.top,.top,.top,.top,.top,.top,.top,.top,.top,.top,.top,.top,.top,.top,.top,.top,.top,.top,.top,.top,.top,.top,.top,.top,.top,.top,.top,.top,.top,.top,.top,.top,.top,.top,.top,.top,.top,.top,.top,.top,.top,.top,.top,.top,.top,.top,.top,.top,.top,.top,.top,.top,.top,.top,.top,.top,.top,.top,.top,v105,v103,v104,j9,v105,v107,v108,v108,(.p (.bool false)),.top,j0,j1,v114,(.p (.bool true)),.top,.top,.top,.top,.top,.top,.top,.top,.top,.top,.top,.top,.top,.top,.top,.top,.top,.top,.top,.top,.top,.top,.top,.top,.top,.top,.top,.top,.top,.top,.top,.top,.top,.top,.top,.top,.top,.top,.top] h115)
  (aLoopN 1 [(.p (.int .i64 0))] h115 fun xs H B4 => runnelref10_node_L4 j0 j1 j7 j9 v109 v108 v105 v103 v104 j9 v105 v107 v108 v108 (.p (.bool false)) j0 j1 v114 (.p (.bool false)) (xs.getD 0 .top) H B4 self kp))

theorem runnelref10_node_P23_x (j0 j1 j7 j9 : AV) (H : List Ob) (self : Code → List AV → List Ob → Ko → Prop) (kp : Ko) : awpX Tryz.prog runnelref10_node_ann self runnelref10_node_cut runnelref10_node_c23 ([j0,j1,.top,.top,.top,.top,.top,j7,.top,j9] ++ List.replicate 178 .top) H kp = runnelref10_node_P23 j0 j1 j7 j9 H self kp := by kernel_rfl

theorem runnelref10_node_c23_eq (j0 j1 j2 j3 j4 j5 j6 j7 j8 j9 j10 j11 j12 j13 j14 j15 j16 j17 j18 j19 j20 j21 j22 j23 j24 j25 j26 j27 j28 j29 j30 j31 j32 j33 j34 j35 j36 j37 j38 j39 j40 j41 j42 j43 j44 j45 j46 j47 j48 j49 j50 j51 j52 j53 j54 j55 j56 j57 j58 j59 j60 j61 j62 j63 j64 j65 j66 j67 j68 j69 j70 j71 j72 j73 j74 j75 j76 j77 j78 j79 j80 j81 j82 j83 j84 j85 j86 j87 j88 j89 j90 j91 j92 j93 j94 j95 j96 j97 j98 j99 j100 j101 j102 j103 j104 j105 j106 j107 j108 j109 j110 j111 j112 j113 j114 j115 j116 j117 j118 j119 j120 j121 j122 j123 j124 j125 j126 j127 j128 j129 j130 j131 j132 j133 j134 j135 j136 j137 j138 j139 j140 j141 j142 j143 j144 j145 j146 j147 j148 j149 j150 j151 j152 j153 j154 j155 j156 j157 j158 j159 j160 j161 j162 j163 j164 j165 j166 j167 j168 j169 j170 j171 j172 j173 j174 j175 j176 j177 j178 j179 j180 j181 j182 j183 j184 j185 j186 j187 : AV) (H : List Ob) (kp : Ko) : awp Tryz.prog runnelref10_node_ann runnelref10_node_c23 (keepS [0, 1, 7, 9, 9999] 0 [j0,j1,j2,j3,j4,j5,j6,j7,j8,j9,j10,j11,j12,j13,j14,j15,j16,j17,j18,j19,j20,j21,j22,j23,j24,j25,j26,j27,j28,j29,j30,j31,j32,j33,j34,j35,j36,j37,j38,j39,j40,j41,j42,j43,j44,j45,j46,j47,j48,j49,j50,j51,j52,j53,j54,j55,j56,j57,j58,j59,j60,j61,j62,j63,j64,j65,j66,j67,j68,j69,j70,j71,j72,j73,j74,j75,j76,j77,j78,j79,j80,j81,j82,j83,j84,j85,j86,j87,j88,j89,j90,j91,j92,j93,j94,j95,j96,j97,j98,j99,j100,j101,j102,j103,j104,j105,j106,j107,j108,j109,j110,j111,j112,j113,j114,j115,j116,j117,j118,j119,j120,j121,j122,j123,j124,j125,j126,j127,j128,j129,j130,j131,j132,j133,j134,j135,j136,j137,j138,j139,j140,j141,j142,j143,j144,j145,j146,j147,j148,j149,j150,j151,j152,j153,j154,j155,j156,j157,j158,j159,j160,j161,j162,j163,j164,j165,j166,j167,j168,j169,j170,j171,j172,j173,j174,j175,j176,j177,j178,j179,j180,j181,j182,j183,j184,j185,j186,j187]) H kp = runnelref10_node_P23 j0 j1 j7 j9 H (awp Tryz.prog runnelref10_node_ann) kp :=
  Eq.trans (by kernel_rfl) ((awpX_eq Tryz.prog runnelref10_node_ann runnelref10_node_cut _ _ _ _).symm.trans (runnelref10_node_P23_x j0 j1 j7 j9 H _ kp))

/- runnel/runnelref10.types -/
def runnelref10_types_L2 (q2s0 q2s5 q2s6 y0 y1 : AV) (H : List Ob) (B2 : List AV → List Ob → Prop) (B1 : List AV → List Ob → Prop) (K : AV → List Ob → Prop) : Prop :=
  aIndexAddr 21 q2s0 q2s6 fun v1 =>
  aFieldAddr 16 v1 fun v2 =>
  aLoad false 1 v2 H fun v3 =>
  aLen false false v3 fun v4 =>
  aBin false false .lss y1 v4 fun v5 =>
  aGuard v5
  (aIndexAddr 21 q2s0 q2s6 fun v6 =>
  aFieldAddr 16 v6 fun v7 =>
  aLoad false 1 v7 H fun v8 =>
  aIndexAddr 1 v8 y1 fun v9 =>
  aLoad false 1 v9 H fun v10 =>
  aIndexAddr 2 q2s5 v10 fun v11 =>
  aLoad true 2 v11 H fun v12 =>
  aBuildSlice 2 [v12] fun v13 =>
  aAppend false 2 32 y0 v13 H fun v14 h15 =>
  aBin false false .add y1 (.p (.int .i64 1)) fun v16 =>
  B2 [v14, v16] h15)
  (aIndexAddr 21 q2s0 q2s6 fun v17 =>
  aFieldAddr 1 v17 fun v18 =>
  aLoad true 15 v18 H fun v19 =>
  aCall Tryz.prog (.p (.func runnelref10_Out_i [])) [v19, y0] H fun v20 h21 =>
  aExtract v20 0 fun v22 =>
  aExtract v20 1 fun _ =>
  aAlloc [(.p (.int .i64 0)), (.full [])] h21 fun v24 h25 =>
  aStore 2 v24 v22 h25 fun _ h27 =>
  aLoad true 2 v24 h27 fun v28 =>
  aBuildSlice 2 [v28] fun v29 =>
  aAppend false 2 32 q2s5 v29 h27 fun v30 h31 =>
  aBin false false .add q2s6 (.p (.int .i64 1)) fun v32 =>
  B1 [v30, v32] h31)

def runnelref10_types_L1 (q1s0 q1s1 y0 y1 : AV) (H : List Ob) (B1 : List AV → List Ob → Prop) (K : AV → List Ob → Prop) : Prop :=
  aBin false false .lss y1 q1s1 fun v0 =>
  aGuard v0
  (aLoopN 2 [(.full []), (.p (.int .i64 0))] H fun xs H B2 => runnelref10_types_L2 q1s0 y0 y1 (xs.getD 0 .top) (xs.getD 1 .top) H B2 B1 K)
  (K y0 H)

def runnelref10_types (x0 x1 : AV) (H : List Ob) (K : AV → List Ob → Prop) : Prop :=
  aLoopN 2 [(.full []), (.p (.int .i64 0))] H fun xs H B1 => runnelref10_types_L1 x0 x1 (xs.getD 0 .top) (xs.getD 1 .top) H B1 K

def runnelref10_types_ann : Nat → List Nat := fun k => match k with | 3 => [5, 6] | 7 => [7, 8] | _ => []

theorem runnelref10_types_eq (x0 x1 : AV) (H : List Ob) (r : AV) (Ho : List Ob) : aBody Tryz.prog runnelref10_types_ann Tryz.f44 H [x0, x1] r Ho = runnelref10_types x0 x1 H (fun v H' => Gives H.length v H' r Ho) := by kernel_rfl

theorem runnelref10_types_fn {x0 x1 : AV} {r : AV} {Ho : List Ob} (h : runnelref10_types x0 x1 [] (fun v H' => Gives 0 v H' r Ho)) : Abs.Fn Tryz.prog runnelref10_types_i [] [x0, x1] r Ho :=
  fn_intro mixed runnelref10_types_ann (fn := Tryz.f44) (by kernel_rfl) (by kernel_rfl) (by rw [runnelref10_types_eq]; exact h)

/- runnel/runnelref10.Outs -/
def runnelref10_Outs_L2 (q2s0 q2s1 q2s6 y0 y1 : AV) (H : List Ob) (B2 : List AV → List Ob → Prop) (B1 : List AV → List Ob → Prop) (K : AV → List Ob → Prop) : Prop :=
  aIndexAddr 21 q2s0 q2s6 fun v2 =>
  aFieldAddr 16 v2 fun v3 =>
  aLoad false 1 v3 H fun v4 =>
  aLen false false v4 fun v5 =>
  aBin false false .lss y1 v5 fun v6 =>
  aGuard v6
  (aIndexAddr 21 q2s0 q2s6 fun v7 =>
  aFieldAddr 16 v7 fun v8 =>
  aLoad false 1 v8 H fun v9 =>
  aIndexAddr 1 v9 y1 fun v10 =>
  aLoad false 1 v10 H fun v11 =>
  aBin false false .eql v11 q2s1 fun v12 =>
  aGuard v12
  (aBuildSlice 1 [q2s6] fun v13 =>
  aAppend false 1 8 y0 v13 H fun v14 h15 =>
  aBin false false .add q2s6 (.p (.int .i64 1)) fun v16 =>
  B1 [v14, v16] h15)
  (aBin false false .add y1 (.p (.int .i64 1)) fun v17 =>
  B2 [y0, v17] H))
  (aBin false false .add q2s6 (.p (.int .i64 1)) fun v18 =>
  B1 [y0, v18] H)

def runnelref10_Outs_L1 (q1s0 q1s1 y0 y1 : AV) (H : List Ob) (B1 : List AV → List Ob → Prop) (K : AV → List Ob → Prop) : Prop :=
  aLen false false q1s0 fun v0 =>
  aBin false false .lss y1 v0 fun v1 =>
  aGuard v1
  (aLoopN 2 [y0, (.p (.int .i64 0))] H fun xs H B2 => runnelref10_Outs_L2 q1s0 q1s1 y1 (xs.getD 0 .top) (xs.getD 1 .top) H B2 B1 K)
  (K y0 H)

def runnelref10_Outs (x0 x1 : AV) (H : List Ob) (K : AV → List Ob → Prop) : Prop :=
  aLoopN 2 [(.full []), (.p (.int .i64 0))] H fun xs H B1 => runnelref10_Outs_L1 x0 x1 (xs.getD 0 .top) (xs.getD 1 .top) H B1 K

def runnelref10_Outs_ann : Nat → List Nat := fun k => match k with | 3 => [5, 6] | 6 => [5, 7] | _ => []

theorem runnelref10_Outs_eq (x0 x1 : AV) (H : List Ob) (r : AV) (Ho : List Ob) : aBody Tryz.prog runnelref10_Outs_ann Tryz.f45 H [x0, x1] r Ho = runnelref10_Outs x0 x1 H (fun v H' => Gives H.length v H' r Ho) := by kernel_rfl

theorem runnelref10_Outs_fn {x0 x1 : AV} {r : AV} {Ho : List Ob} (h : runnelref10_Outs x0 x1 [] (fun v H' => Gives 0 v H' r Ho)) : Abs.Fn Tryz.prog runnelref10_Outs_i [] [x0, x1] r Ho :=
  fn_intro mixed runnelref10_Outs_ann (fn := Tryz.f45) (by kernel_rfl) (by kernel_rfl) (by rw [runnelref10_Outs_eq]; exact h)

/- runnel/runnelref10.Good -/
def runnelref10_Good_L1 (q1s0 y0 : AV) (H : List Ob) (B1 : List AV → List Ob → Prop) (K : AV → List Ob → Prop) : Prop :=
  aLen false true q1s0 fun v14 =>
  aBin false false .lss y0 v14 fun v15 =>
  aGuard v15
  (aIndex q1s0 y0 fun v16 =>
  aBin false false .lss v16 (.p (.int .u8 97)) fun v17 =>
  aMerge false v17 (fun Q18 =>
  aIndex q1s0 y0 fun v19 =>
  aBin false false .gtr v19 (.p (.int .u8 122)) fun v20 =>
  (H = H ∧ Q18 v20)) fun v21 =>
  aMerge true v21 (fun Q22 =>
  aIndex q1s0 y0 fun v23 =>
  aBin false false .lss v23 (.p (.int .u8 48)) fun v24 =>
  aMerge false v24 (fun Q25 =>
  aIndex q1s0 y0 fun v26 =>
  aBin false false .gtr v26 (.p (.int .u8 57)) fun v27 =>
  (H = H ∧ Q25 v27)) fun v28 =>
  (H = H ∧ Q22 v28)) fun v29 =>
  aMerge true v29 (fun Q30 =>
  aIndex q1s0 y0 fun v31 =>
  aBin false false .neq v31 (.p (.int .u8 95)) fun v32 =>
  (H = H ∧ Q30 v32)) fun v33 =>
  aGuard v33
  (K (.p (.bool false)) H)
  (aBin false false .add y0 (.p (.int .i64 1)) fun v34 =>
  B1 [v34] H))
  (K (.p (.bool true)) H)

def runnelref10_Good (x0 : AV) (H : List Ob) (K : AV → List Ob → Prop) : Prop :=
  aLen false true x0 fun v0 =>
  aBin false false .lss v0 (.p (.int .i64 1)) fun v1 =>
  aMerge false v1 (fun Q2 =>
  aLenS true x0 fun v3 =>
  aBin false false .gtr v3 (.p (.int .i64 16)) fun v4 =>
  (H = H ∧ Q2 v4)) fun v5 =>
  aMerge false v5 (fun Q6 =>
  aIndex x0 (.p (.int .i64 0)) fun v7 =>
  aBin false false .lss v7 (.p (.int .u8 97)) fun v8 =>
  (H = H ∧ Q6 v8)) fun v9 =>
  aMerge false v9 (fun Q10 =>
  aIndex x0 (.p (.int .i64 0)) fun v11 =>
  aBin false false .gtr v11 (.p (.int .u8 122)) fun v12 =>
  (H = H ∧ Q10 v12)) fun v13 =>
  aGuard v13
  (K (.p (.bool false)) H)
  (aLoopN 1 [(.p (.int .i64 0))] H fun xs H B1 => runnelref10_Good_L1 x0 (xs.getD 0 .top) H B1 K)

def runnelref10_Good_ann : Nat → List Nat := fun k => match k with | 4 => [3] | _ => []

theorem runnelref10_Good_eq (x0 : AV) (H : List Ob) (r : AV) (Ho : List Ob) : aBody Tryz.prog runnelref10_Good_ann Tryz.f77 H [x0] r Ho = runnelref10_Good x0 H (fun v H' => Gives H.length v H' r Ho) := by kernel_rfl

theorem runnelref10_Good_fn {x0 : AV} {r : AV} {Ho : List Ob} (h : runnelref10_Good x0 [] (fun v H' => Gives 0 v H' r Ho)) : Abs.Fn Tryz.prog runnelref10_Good_i [] [x0] r Ho :=
  fn_intro mixed runnelref10_Good_ann (fn := Tryz.f77) (by kernel_rfl) (by kernel_rfl) (by rw [runnelref10_Good_eq]; exact h)

/- runnel/runnelref10.Out -/
def runnelref10_Out_L2 (q2s1 q2s2 q2s4 q2s7 y0 y1 : AV) (H : List Ob) (B2 : List AV → List Ob → Prop) (K : AV → List Ob → Prop) : Prop :=
  aFieldAddr 4 q2s2 fun v84 =>
  aLoad false 1 v84 H fun v85 =>
  aLen false false v85 fun v86 =>
  aBin false false .lss y1 v86 fun v87 =>
  aGuard v87
  (aAlloc [(.p (.int .i64 0)), (.full [])] H fun v88 h89 =>
  aFieldAddr 4 q2s2 fun v90 =>
  aLoad false 1 v90 h89 fun v91 =>
  aIndexAddr 8 v91 y1 fun v92 =>
  aLoad true 8 v92 h89 fun v93 =>
  aIndexAddr 2 q2s1 (.p (.int .i64 0)) fun v94 =>
  aLoad true 2 v94 h89 fun v95 =>
  aCallT Tryz.prog (.p (.func runnelref6_CheckExpr_i [])) [v93, v95] fun v96 =>
  aExtract v96 0 fun v97 =>
  aExtract v96 1 fun v98 =>
  aStore 2 v88 v97 h89 fun _ h100 =>
  aBin false false .neq v98 (.p (.int .i64 0)) fun v101 =>
  aGuard v101
  (aBuild [(.p (.int .i64 0)), (.full [])] [] fun v102 =>
  aStore 2 q2s4 v102 h100 fun _ h104 =>
  aLoad true 2 q2s4 h104 fun v105 =>
  K (.tup [v105, v98]) h104)
  (aLoad true 2 v88 h100 fun v106 =>
  aBuildSlice 2 [v106] fun v107 =>
  aAppend false 2 32 y0 v107 h100 fun v108 h109 =>
  aBin false false .add y1 (.p (.int .i64 1)) fun v110 =>
  B2 [v108, v110] h109))
  (aLoad true 15 q2s2 H fun v111 =>
  aLoad true 2 q2s7 H fun v112 =>
  aCall Tryz.prog (.p (.func runnelref10_made_i [])) [v111, q2s1, v112, y0] H fun v113 h114 =>
  aExtract v113 0 fun v115 =>
  aExtract v113 1 fun v116 =>
  aStore 2 q2s4 v115 h114 fun _ h118 =>
  aLoad true 2 q2s4 h118 fun v119 =>
  K (.tup [v119, v116]) h118)

def runnelref10_Out_J1 (j1s1 j1s2 j1s4 j1s7 : AV) (H : List Ob) (K : AV → List Ob → Prop) : Prop :=
  aLoopN 2 [(.full []), (.p (.int .i64 0))] H fun xs H B2 => runnelref10_Out_L2 j1s1 j1s2 j1s4 j1s7 (xs.getD 0 .top) (xs.getD 1 .top) H B2 K

def runnelref10_Out_L1 (q1s1 q1s2 q1s4 y0 : AV) (H : List Ob) (B1 : List AV → List Ob → Prop) (K : AV → List Ob → Prop) : Prop :=
  aLen false false q1s1 fun v50 =>
  aBin false false .lss y0 v50 fun v51 =>
  aGuard v51
  (aIndexAddr 2 q1s1 y0 fun v52 =>
  aLoad true 2 v52 H fun v53 =>
  aCall Tryz.prog (.p (.func runnelref6_CheckType_i [])) [v53] H fun v54 h55 =>
  aBin false false .neq v54 (.p (.int .i64 0)) fun v56 =>
  aGuard v56
  (aBuild [(.p (.int .i64 0)), (.full [])] [] fun v57 =>
  aStore 2 q1s4 v57 h55 fun _ h59 =>
  aLoad true 2 q1s4 h59 fun v60 =>
  K (.tup [v60, (.p (.int .i64 5))]) h59)
  (aBin false false .add y0 (.p (.int .i64 1)) fun v61 =>
  B1 [v61] h55))
  (aFieldAddr 0 q1s2 fun v62 =>
  aLoad false 1 v62 H fun v63 =>
  aBin false false .eql v63 (.p (.int .i64 1)) fun v64 =>
  aGuard v64
  (aFieldAddr 2 q1s2 fun v65 =>
  aLoad true 2 v65 H fun v66 =>
  aCall Tryz.prog (.p (.func runnelref6_CheckType_i [])) [v66] H fun v67 h68 =>
  aBin false false .neq v67 (.p (.int .i64 0)) fun v69 =>
  aGuard v69
  (aBuild [(.p (.int .i64 0)), (.full [])] [] fun v70 =>
  aStore 2 q1s4 v70 h68 fun _ h72 =>
  aLoad true 2 q1s4 h72 fun v73 =>
  K (.tup [v73, (.p (.int .i64 5))]) h72)
  (aFieldAddr 2 q1s2 fun v74 =>
  aLoad true 2 v74 h68 fun v75 =>
  aStore 2 q1s4 v75 h68 fun _ h77 =>
  aLoad true 2 q1s4 h77 fun v78 =>
  K (.tup [v78, (.p (.int .i64 0))]) h77))
  (aBuild [(.p (.int .i64 0)), (.full [])] [] fun v79 =>
  aAlloc [(.p (.int .i64 0)), (.full [])] H fun v80 h81 =>
  aStore 2 v80 v79 h81 fun _ h83 =>
  aLoad true 15 q1s2 h83 fun v120 =>
  aCall Tryz.prog (.p (.func runnelref10_Keyed_i [])) [v120] h83 fun v121 h122 =>
  aGuard v121
  (aAlloc [(.p (.int .i64 0)), (.full [])] h122 fun v123 h124 =>
  aFieldAddr 5 q1s2 fun v125 =>
  aLoad true 8 v125 h124 fun v126 =>
  aIndexAddr 2 q1s1 (.p (.int .i64 0)) fun v127 =>
  aLoad true 2 v127 h124 fun v128 =>
  aCallT Tryz.prog (.p (.func runnelref6_CheckExpr_i [])) [v126, v128] fun v129 =>
  aExtract v129 0 fun v130 =>
  aExtract v129 1 fun v131 =>
  aStore 2 v123 v130 h124 fun _ h133 =>
  aBin false false .neq v131 (.p (.int .i64 0)) fun v134 =>
  aGuard v134
  (aBuild [(.p (.int .i64 0)), (.full [])] [] fun v135 =>
  aStore 2 q1s4 v135 h133 fun _ h137 =>
  aLoad true 2 q1s4 h137 fun v138 =>
  K (.tup [v138, v131]) h137)
  (aLoad true 2 v123 h133 fun v139 =>
  aStore 2 v80 v139 h133 fun _ h141 =>
  runnelref10_Out_J1 q1s1 q1s2 q1s4 v80 h141 K))
  (runnelref10_Out_J1 q1s1 q1s2 q1s4 v80 h122 K)))

def runnelref10_Out (x0 x1 : AV) (H : List Ob) (K : AV → List Ob → Prop) : Prop :=
  aBox x0 H fun v0 h1 =>
  aAlloc [(.p (.int .i64 0)), (.full [])] h1 fun v2 h3 =>
  aFieldAddr 0 v0 fun v4 =>
  aLoad false 1 v4 h3 fun v5 =>
  aBin false false .lss v5 (.p (.int .i64 1)) fun v6 =>
  aMerge false v6 (fun Q7 =>
  aFieldAddr 0 v0 fun v8 =>
  aLoad false 1 v8 h3 fun v9 =>
  aBin false false .gtr v9 (.p (.int .i64 9)) fun v10 =>
  (h3 = h3 ∧ Q7 v10)) fun v11 =>
  aGuard v11
  (aBuild [(.p (.int .i64 0)), (.full [])] [] fun v12 =>
  aStore 2 v2 v12 h3 fun _ h14 =>
  aLoad true 2 v2 h14 fun v15 =>
  K (.tup [v15, (.p (.int .i64 6))]) h14)
  (aFieldAddr 0 v0 fun v16 =>
  aLoad false 1 v16 h3 fun v17 =>
  aBin false false .eql v17 (.p (.int .i64 1)) fun v18 =>
  aMerge false v18 (fun Q19 =>
  aFieldAddr 0 v0 fun v20 =>
  aLoad false 1 v20 h3 fun v21 =>
  aBin false false .eql v21 (.p (.int .i64 9)) fun v22 =>
  (h3 = h3 ∧ Q19 v22)) fun v23 =>
  aMerge true v23 (fun Q24 =>
  aFieldAddr 1 v0 fun v25 =>
  aLoad false 1 v25 h3 fun v26 =>
  aCall Tryz.prog (.p (.func runnelref10_Good_i [])) [v26] h3 fun v27 h28 =>
  aUn .not v27 fun v29 =>
  (h28 = h3 ∧ Q24 v29)) fun v30 =>
  aGuard v30
  (aBuild [(.p (.int .i64 0)), (.full [])] [] fun v31 =>
  aStore 2 v2 v31 h3 fun _ h33 =>
  aLoad true 2 v2 h33 fun v34 =>
  K (.tup [v34, (.p (.int .i64 6))]) h33)
  (aLoad true 15 v0 h3 fun v35 =>
  aCall Tryz.prog (.p (.func runnelref10_fields_i [])) [v35] h3 fun v36 h37 =>
  aMerge false v36 (fun Q38 =>
  aFieldAddr 0 v0 fun v39 =>
  aLoad false 1 v39 h37 fun v40 =>
  aLenS false x1 fun v41 =>
  aCall Tryz.prog (.p (.func runnelref10_ins_i [])) [v40, v41] h37 fun v42 h43 =>
  aUn .not v42 fun v44 =>
  (h43 = h37 ∧ Q38 v44)) fun v45 =>
  aGuard v45
  (aBuild [(.p (.int .i64 0)), (.full [])] [] fun v46 =>
  aStore 2 v2 v46 h37 fun _ h48 =>
  aLoad true 2 v2 h48 fun v49 =>
  K (.tup [v49, (.p (.int .i64 1))]) h48)
  (aLoopN 1 [(.p (.int .i64 0))] h37 fun xs H B1 => runnelref10_Out_L1 x1 v0 v2 (xs.getD 0 .top) H B1 K)))

def runnelref10_Out_ann : Nat → List Nat := fun k => match k with | 8 => [6] | 24 => [10, 11] | _ => []

theorem runnelref10_Out_eq (x0 x1 : AV) (H : List Ob) (r : AV) (Ho : List Ob) : aBody Tryz.prog runnelref10_Out_ann Tryz.f78 H [x0, x1] r Ho = runnelref10_Out x0 x1 H (fun v H' => Gives H.length v H' r Ho) := by kernel_rfl

theorem runnelref10_Out_fn {x0 x1 : AV} {r : AV} {Ho : List Ob} (h : runnelref10_Out x0 x1 [] (fun v H' => Gives 0 v H' r Ho)) : Abs.Fn Tryz.prog runnelref10_Out_i [] [x0, x1] r Ho :=
  fn_intro mixed runnelref10_Out_ann (fn := Tryz.f78) (by kernel_rfl) (by kernel_rfl) (by rw [runnelref10_Out_eq]; exact h)

/- runnel/runnelref10.weight -/
def runnelref10_weight_L2 (q2s0 q2s5 q2s6 y0 y1 : AV) (H : List Ob) (B2 : List AV → List Ob → Prop) (B1 : List AV → List Ob → Prop) (K : AV → List Ob → Prop) : Prop :=
  aIndexAddr 21 q2s0 q2s6 fun v1 =>
  aFieldAddr 16 v1 fun v2 =>
  aLoad false 1 v2 H fun v3 =>
  aLen false false v3 fun v4 =>
  aBin false false .lss y1 v4 fun v5 =>
  aGuard v5
  (aIndexAddr 21 q2s0 q2s6 fun v6 =>
  aFieldAddr 16 v6 fun v7 =>
  aLoad false 1 v7 H fun v8 =>
  aIndexAddr 1 v8 y1 fun v9 =>
  aLoad false 1 v9 H fun v10 =>
  aIndexAddr 1 q2s5 v10 fun v11 =>
  aLoad false 1 v11 H fun v12 =>
  aBin false false .add y0 v12 fun v13 =>
  aBin false false .add y1 (.p (.int .i64 1)) fun v14 =>
  B2 [v13, v14] H)
  (aIndexAddr 21 q2s0 q2s6 fun v15 =>
  aFieldAddr 1 v15 fun v16 =>
  aFieldAddr 0 v16 fun v17 =>
  aLoad false 1 v17 H fun v18 =>
  aBin false false .eql v18 (.p (.int .i64 1)) fun v19 =>
  aGuard v19
  (aBuildSlice 1 [(.p (.int .i64 1))] fun v20 =>
  aAppend false 1 8 q2s5 v20 H fun v21 h22 =>
  aBin false false .add q2s6 (.p (.int .i64 1)) fun v23 =>
  B1 [v21, v23] h22)
  (aBin false false .eql v18 (.p (.int .i64 4)) fun v24 =>
  aGuard v24
  (aIndexAddr 21 q2s0 q2s6 fun v25 =>
  aFieldAddr 1 v25 fun v26 =>
  aFieldAddr 4 v26 fun v27 =>
  aLoad false 1 v27 H fun v28 =>
  aLen false false v28 fun v29 =>
  aBin false false .mul y0 v29 fun v30 =>
  aBuildSlice 1 [v30] fun v31 =>
  aAppend false 1 8 q2s5 v31 H fun v32 h33 =>
  aBin false false .add q2s6 (.p (.int .i64 1)) fun v34 =>
  B1 [v32, v34] h33)
  (aBuildSlice 1 [y0] fun v35 =>
  aAppend false 1 8 q2s5 v35 H fun v36 h37 =>
  aBin false false .add q2s6 (.p (.int .i64 1)) fun v38 =>
  B1 [v36, v38] h37)))

def runnelref10_weight_L1 (q1s0 q1s1 y0 y1 : AV) (H : List Ob) (B1 : List AV → List Ob → Prop) (K : AV → List Ob → Prop) : Prop :=
  aBin false false .leq y1 q1s1 fun v0 =>
  aGuard v0
  (aLoopN 2 [(.p (.int .i64 0)), (.p (.int .i64 0))] H fun xs H B2 => runnelref10_weight_L2 q1s0 y0 y1 (xs.getD 0 .top) (xs.getD 1 .top) H B2 B1 K)
  (aIndexAddr 1 y0 q1s1 fun v39 =>
  aLoad false 1 v39 H fun v40 =>
  K v40 H)

def runnelref10_weight (x0 x1 : AV) (H : List Ob) (K : AV → List Ob → Prop) : Prop :=
  aLoopN 2 [(.full []), (.p (.int .i64 0))] H fun xs H B1 => runnelref10_weight_L1 x0 x1 (xs.getD 0 .top) (xs.getD 1 .top) H B1 K

def runnelref10_weight_ann : Nat → List Nat := fun k => match k with | 3 => [5, 6] | 7 => [7, 8] | _ => []

theorem runnelref10_weight_eq (x0 x1 : AV) (H : List Ob) (r : AV) (Ho : List Ob) : aBody Tryz.prog runnelref10_weight_ann Tryz.f79 H [x0, x1] r Ho = runnelref10_weight x0 x1 H (fun v H' => Gives H.length v H' r Ho) := by kernel_rfl

theorem runnelref10_weight_fn {x0 x1 : AV} {r : AV} {Ho : List Ob} (h : runnelref10_weight x0 x1 [] (fun v H' => Gives 0 v H' r Ho)) : Abs.Fn Tryz.prog runnelref10_weight_i [] [x0, x1] r Ho :=
  fn_intro mixed runnelref10_weight_ann (fn := Tryz.f79) (by kernel_rfl) (by kernel_rfl) (by rw [runnelref10_weight_eq]; exact h)

/- runnel/runnelref10.fields -/
def runnelref10_fields_J1 (j1s1 j1s3 j1s4 j1s5 : AV) (H : List Ob) (K : AV → List Ob → Prop) : Prop :=
  aUn .not j1s3 fun v10 =>
  aMerge true v10 (fun Q11 =>
  aFieldAddr 1 j1s1 fun v12 =>
  aLoad false 1 v12 H fun v13 =>
  aBin false false .neq v13 (.p (.str [])) fun v14 =>
  (H = H ∧ Q11 v14)) fun v15 =>
  aGuard v15
  (K (.p (.bool true)) H)
  (aFieldAddr 0 j1s1 fun v16 =>
  aLoad false 1 v16 H fun v17 =>
  aBin false false .neq v17 (.p (.int .i64 1)) fun v18 =>
  aMerge true v18 (fun Q19 =>
  aFieldAddr 2 j1s1 fun v20 =>
  aFieldAddr 0 v20 fun v21 =>
  aLoad false 1 v21 H fun v22 =>
  aBin false false .neq v22 (.p (.int .i64 0)) fun v23 =>
  aMerge false v23 (fun Q24 =>
  aFieldAddr 2 j1s1 fun v25 =>
  aFieldAddr 1 v25 fun v26 =>
  aLoad false 1 v26 H fun v27 =>
  aLenS false v27 fun v28 =>
  aBin false false .gtr v28 (.p (.int .i64 0)) fun v29 =>
  (H = H ∧ Q24 v29)) fun v30 =>
  (H = H ∧ Q19 v30)) fun v31 =>
  aGuard v31
  (K (.p (.bool true)) H)
  (aFieldAddr 4 j1s1 fun v32 =>
  aLoad false 1 v32 H fun v33 =>
  aLen false false v33 fun v34 =>
  aBin false false .lss v34 j1s4 fun v35 =>
  aMerge false v35 (fun Q36 =>
  aFieldAddr 4 j1s1 fun v37 =>
  aLoad false 1 v37 H fun v38 =>
  aLenS false v38 fun v39 =>
  aBin false false .gtr v39 j1s5 fun v40 =>
  (H = H ∧ Q36 v40)) fun v41 =>
  aGuard v41
  (K (.p (.bool true)) H)
  (aLoad true 15 j1s1 H fun v42 =>
  aCall Tryz.prog (.p (.func runnelref10_Keyed_i [])) [v42] H fun v43 h44 =>
  aUn .not v43 fun v45 =>
  aMerge true v45 (fun Q46 =>
  aFieldAddr 5 j1s1 fun v47 =>
  aLoad true 8 v47 h44 fun v48 =>
  aCall Tryz.prog (.p (.func runnelref10_bare_i [])) [v48] h44 fun v49 h50 =>
  aUn .not v49 fun v51 =>
  (h50 = h44 ∧ Q46 v51)) fun v52 =>
  aGuard v52
  (K (.p (.bool true)) h44)
  (aFieldAddr 0 j1s1 fun v53 =>
  aLoad false 1 v53 h44 fun v54 =>
  aBin false false .eql v54 (.p (.int .i64 5)) fun v55 =>
  aMerge true v55 (fun Q56 =>
  aFieldAddr 13 j1s1 fun v57 =>
  aLoad false 1 v57 h44 fun v58 =>
  aBin false false .lss v58 (.p (.int .i64 1)) fun v59 =>
  aMerge false v59 (fun Q60 =>
  aFieldAddr 13 j1s1 fun v61 =>
  aLoad false 1 v61 h44 fun v62 =>
  aBin false false .gtr v62 (.p (.int .i64 4)) fun v63 =>
  (h44 = h44 ∧ Q60 v63)) fun v64 =>
  (h44 = h44 ∧ Q56 v64)) fun v65 =>
  aMerge false v65 (fun Q66 =>
  aFieldAddr 0 j1s1 fun v67 =>
  aLoad false 1 v67 h44 fun v68 =>
  aBin false false .neq v68 (.p (.int .i64 5)) fun v69 =>
  aMerge true v69 (fun Q70 =>
  aFieldAddr 13 j1s1 fun v71 =>
  aLoad false 1 v71 h44 fun v72 =>
  aBin false false .neq v72 (.p (.int .i64 0)) fun v73 =>
  (h44 = h44 ∧ Q70 v73)) fun v74 =>
  (h44 = h44 ∧ Q66 v74)) fun v75 =>
  aGuard v75
  (K (.p (.bool true)) h44)
  (aFieldAddr 0 j1s1 fun v76 =>
  aLoad false 1 v76 h44 fun v77 =>
  aBin false false .eql v77 (.p (.int .i64 6)) fun v78 =>
  aMerge true v78 (fun Q79 =>
  aFieldAddr 14 j1s1 fun v80 =>
  aLoad false 1 v80 h44 fun v81 =>
  aBin false false .lss v81 (.p (.int .i64 1)) fun v82 =>
  aMerge false v82 (fun Q83 =>
  aFieldAddr 14 j1s1 fun v84 =>
  aLoad false 1 v84 h44 fun v85 =>
  aBin false false .gtr v85 (.p (.int .i64 1000)) fun v86 =>
  (h44 = h44 ∧ Q83 v86)) fun v87 =>
  (h44 = h44 ∧ Q79 v87)) fun v88 =>
  aMerge false v88 (fun Q89 =>
  aFieldAddr 0 j1s1 fun v90 =>
  aLoad false 1 v90 h44 fun v91 =>
  aBin false false .neq v91 (.p (.int .i64 6)) fun v92 =>
  aMerge true v92 (fun Q93 =>
  aFieldAddr 14 j1s1 fun v94 =>
  aLoad false 1 v94 h44 fun v95 =>
  aBin false false .neq v95 (.p (.int .i64 0)) fun v96 =>
  (h44 = h44 ∧ Q93 v96)) fun v97 =>
  (h44 = h44 ∧ Q89 v97)) fun v98 =>
  K v98 h44)))))

def runnelref10_fields (x0 : AV) (H : List Ob) (K : AV → List Ob → Prop) : Prop :=
  aBox x0 H fun v0 h1 =>
  aFieldAddr 0 v0 fun v2 =>
  aLoad false 1 v2 h1 fun v3 =>
  aBin false false .eql v3 (.p (.int .i64 1)) fun v4 =>
  aMerge false v4 (fun Q5 =>
  aFieldAddr 0 v0 fun v6 =>
  aLoad false 1 v6 h1 fun v7 =>
  aBin false false .eql v7 (.p (.int .i64 9)) fun v8 =>
  (h1 = h1 ∧ Q5 v8)) fun v9 =>
  aFieldAddr 0 v0 fun v99 =>
  aLoad false 1 v99 h1 fun v100 =>
  aBin false false .eql v100 (.p (.int .i64 2)) fun v101 =>
  aMerge false v101 (fun Q102 =>
  aBin false false .eql v100 (.p (.int .i64 3)) fun v103 =>
  aMerge false v103 (fun Q104 =>
  aBin false false .eql v100 (.p (.int .i64 5)) fun v105 =>
  (h1 = h1 ∧ Q104 v105)) fun v106 =>
  (h1 = h1 ∧ Q102 v106)) fun v107 =>
  aGuard v107
  (runnelref10_fields_J1 v0 v9 (.p (.int .i64 1)) (.p (.int .i64 1)) h1 K)
  (aBin false false .eql v100 (.p (.int .i64 4)) fun v108 =>
  aGuard v108
  (runnelref10_fields_J1 v0 v9 (.p (.int .i64 1)) (.p (.int .i64 4)) h1 K)
  (runnelref10_fields_J1 v0 v9 (.p (.int .i64 0)) (.p (.int .i64 0)) h1 K))

def runnelref10_fields_ann : Nat → List Nat := fun k => match k with | 1000007 => [1] | 1000006 => [1] | _ => []

theorem runnelref10_fields_eq (x0 : AV) (H : List Ob) (r : AV) (Ho : List Ob) : aBody Tryz.prog runnelref10_fields_ann Tryz.f110 H [x0] r Ho = runnelref10_fields x0 H (fun v H' => Gives H.length v H' r Ho) := by kernel_rfl

theorem runnelref10_fields_fn {x0 : AV} {r : AV} {Ho : List Ob} (h : runnelref10_fields x0 [] (fun v H' => Gives 0 v H' r Ho)) : Abs.Fn Tryz.prog runnelref10_fields_i [] [x0] r Ho :=
  fn_intro mixed runnelref10_fields_ann (fn := Tryz.f110) (by kernel_rfl) (by kernel_rfl) (by rw [runnelref10_fields_eq]; exact h)

/- runnel/runnelref10.ins -/
def runnelref10_ins (x0 x1 : AV) (H : List Ob) (K : AV → List Ob → Prop) : Prop :=
  aBin false false .eql x0 (.p (.int .i64 1)) fun v0 =>
  aGuard v0
  (aBin false false .eql x1 (.p (.int .i64 0)) fun v1 =>
  K v1 H)
  (aBin false false .eql x0 (.p (.int .i64 8)) fun v2 =>
  aGuard v2
  (aBin false false .geq x1 (.p (.int .i64 2)) fun v3 =>
  aMerge true v3 (fun Q4 =>
  aBin false false .leq x1 (.p (.int .i64 4)) fun v5 =>
  (H = H ∧ Q4 v5)) fun v6 =>
  K v6 H)
  (aBin false false .eql x1 (.p (.int .i64 1)) fun v7 =>
  K v7 H))

def runnelref10_ins_ann : Nat → List Nat := fun _ => []

theorem runnelref10_ins_eq (x0 x1 : AV) (H : List Ob) (r : AV) (Ho : List Ob) : aBody Tryz.prog runnelref10_ins_ann Tryz.f111 H [x0, x1] r Ho = runnelref10_ins x0 x1 H (fun v H' => Gives H.length v H' r Ho) := by kernel_rfl

theorem runnelref10_ins_fn {x0 x1 : AV} {r : AV} {Ho : List Ob} (h : runnelref10_ins x0 x1 [] (fun v H' => Gives 0 v H' r Ho)) : Abs.Fn Tryz.prog runnelref10_ins_i [] [x0, x1] r Ho :=
  fn_intro mixed runnelref10_ins_ann (fn := Tryz.f111) (by kernel_rfl) (by kernel_rfl) (by rw [runnelref10_ins_eq]; exact h)

/- runnel/runnelref10.made -/
def runnelref10_made_L1 (q1s3 q1s8 y0 : AV) (H : List Ob) (B1 : List AV → List Ob → Prop) (K : AV → List Ob → Prop) : Prop :=
  aLen false false q1s3 fun v29 =>
  aBin false false .lss y0 v29 fun v30 =>
  aGuard v30
  (aIndexAddr 2 q1s3 y0 fun v31 =>
  aLoad true 2 v31 H fun v32 =>
  aIndexAddr 2 q1s3 (.p (.int .i64 0)) fun v33 =>
  aLoad true 2 v33 H fun v34 =>
  aCallT Tryz.prog (.p (.func runnelref6_SameType_i [])) [v32, v34] fun v35 =>
  aUn .not v35 fun v36 =>
  aGuard v36
  (aBuild [(.p (.int .i64 0)), (.full [])] [] fun v37 =>
  aStore 2 q1s8 v37 H fun _ h39 =>
  aLoad true 2 q1s8 h39 fun v40 =>
  K (.tup [v40, (.p (.int .i64 5))]) h39)
  (aBin false false .add y0 (.p (.int .i64 1)) fun v41 =>
  B1 [v41] H))
  (aIndexAddr 2 q1s3 (.p (.int .i64 0)) fun v42 =>
  aLoad true 2 v42 H fun v43 =>
  aStore 2 q1s8 v43 H fun _ h45 =>
  aLoad true 2 q1s8 h45 fun v46 =>
  K (.tup [v46, (.p (.int .i64 0))]) h45)

def runnelref10_made_L2 (q2s1 q2s8 y0 : AV) (H : List Ob) (B2 : List AV → List Ob → Prop) (K : AV → List Ob → Prop) : Prop :=
  aLen false false q2s1 fun v90 =>
  aBin false false .lss y0 v90 fun v91 =>
  aGuard v91
  (aIndexAddr 2 q2s1 y0 fun v92 =>
  aLoad true 2 v92 H fun v93 =>
  aIndexAddr 2 q2s1 (.p (.int .i64 0)) fun v94 =>
  aLoad true 2 v94 H fun v95 =>
  aCallT Tryz.prog (.p (.func runnelref6_SameType_i [])) [v93, v95] fun v96 =>
  aUn .not v96 fun v97 =>
  aGuard v97
  (aBuild [(.p (.int .i64 0)), (.full [])] [] fun v98 =>
  aStore 2 q2s8 v98 H fun _ h100 =>
  aLoad true 2 q2s8 h100 fun v101 =>
  K (.tup [v101, (.p (.int .i64 5))]) h100)
  (aBin false false .add y0 (.p (.int .i64 1)) fun v102 =>
  B2 [v102] H))
  (aIndexAddr 2 q2s1 (.p (.int .i64 0)) fun v103 =>
  aLoad true 2 v103 H fun v104 =>
  aStore 2 q2s8 v104 H fun _ h106 =>
  aLoad true 2 q2s8 h106 fun v107 =>
  K (.tup [v107, (.p (.int .i64 0))]) h106)

def runnelref10_made (x0 x1 x2 x3 : AV) (H : List Ob) (K : AV → List Ob → Prop) : Prop :=
  aBox x0 H fun v0 h1 =>
  aBox x2 h1 fun v2 h3 =>
  aAlloc [(.p (.int .i64 0)), (.full [])] h3 fun v4 h5 =>
  aFieldAddr 0 v0 fun v6 =>
  aLoad false 1 v6 h5 fun v7 =>
  aBin false false .eql v7 (.p (.int .i64 2)) fun v8 =>
  aGuard v8
  (aIndexAddr 2 x3 (.p (.int .i64 0)) fun v9 =>
  aLoad true 2 v9 h5 fun v10 =>
  aStore 2 v4 v10 h5 fun _ h12 =>
  aLoad true 2 v4 h12 fun v13 =>
  K (.tup [v13, (.p (.int .i64 0))]) h12)
  (aBin false false .eql v7 (.p (.int .i64 3)) fun v14 =>
  aGuard v14
  (aIndexAddr 2 x3 (.p (.int .i64 0)) fun v15 =>
  aFieldAddr 0 v15 fun v16 =>
  aLoad false 1 v16 h5 fun v17 =>
  aBin false false .neq v17 (.p (.int .i64 2)) fun v18 =>
  aGuard v18
  (aBuild [(.p (.int .i64 0)), (.full [])] [] fun v19 =>
  aStore 2 v4 v19 h5 fun _ h21 =>
  aLoad true 2 v4 h21 fun v22 =>
  K (.tup [v22, (.p (.int .i64 5))]) h21)
  (aIndexAddr 2 x1 (.p (.int .i64 0)) fun v23 =>
  aLoad true 2 v23 h5 fun v24 =>
  aStore 2 v4 v24 h5 fun _ h26 =>
  aLoad true 2 v4 h26 fun v27 =>
  K (.tup [v27, (.p (.int .i64 0))]) h26))
  (aBin false false .eql v7 (.p (.int .i64 4)) fun v28 =>
  aGuard v28
  (aLoopN 1 [(.p (.int .i64 1))] h5 fun xs H B1 => runnelref10_made_L1 x3 v4 (xs.getD 0 .top) H B1 K)
  (aBin false false .eql v7 (.p (.int .i64 5)) fun v47 =>
  aMerge false v47 (fun Q48 =>
  aBin false false .eql v7 (.p (.int .i64 6)) fun v49 =>
  (h5 = h5 ∧ Q48 v49)) fun v50 =>
  aGuard v50
  (aFieldAddr 0 v0 fun v51 =>
  aLoad false 1 v51 h5 fun v52 =>
  aBin false false .eql v52 (.p (.int .i64 5)) fun v53 =>
  aMerge true v53 (fun Q54 =>
  aIndexAddr 2 x3 (.p (.int .i64 0)) fun v55 =>
  aFieldAddr 0 v55 fun v56 =>
  aLoad false 1 v56 h5 fun v57 =>
  aBin false false .neq v57 (.p (.int .i64 1)) fun v58 =>
  (h5 = h5 ∧ Q54 v58)) fun v59 =>
  aGuard v59
  (aBuild [(.p (.int .i64 0)), (.full [])] [] fun v60 =>
  aStore 2 v4 v60 h5 fun _ h62 =>
  aLoad true 2 v4 h62 fun v63 =>
  K (.tup [v63, (.p (.int .i64 5))]) h62)
  (aAlloc [(.p (.int .i64 0)), (.full [])] h5 fun v64 h65 =>
  aLoad true 2 v2 h65 fun v66 =>
  aCallT Tryz.prog (.p (.func runnelref6_Plain_i [])) [(.p (.int .i64 1))] fun v67 =>
  aBuildSlice 2 [v66, v67] fun v68 =>
  aBuild [(.p (.int .i64 0)), (.full [])] [(0, 1, (.p (.int .i64 4))), (1, 1, v68)] fun v69 =>
  aStore 2 v64 v69 h65 fun _ h71 =>
  aLoad true 2 v64 h71 fun v72 =>
  aCall Tryz.prog (.p (.func runnelref6_CheckType_i [])) [v72] h71 fun v73 h74 =>
  aBin false false .neq v73 (.p (.int .i64 0)) fun v75 =>
  aGuard v75
  (aBuild [(.p (.int .i64 0)), (.full [])] [] fun v76 =>
  aStore 2 v4 v76 h74 fun _ h78 =>
  aLoad true 2 v4 h78 fun v79 =>
  K (.tup [v79, v73]) h78)
  (aLoad true 2 v64 h74 fun v80 =>
  aStore 2 v4 v80 h74 fun _ h82 =>
  aLoad true 2 v4 h82 fun v83 =>
  K (.tup [v83, (.p (.int .i64 0))]) h82)))
  (aBin false false .eql v7 (.p (.int .i64 7)) fun v84 =>
  aGuard v84
  (aLoad true 2 v2 h5 fun v85 =>
  aStore 2 v4 v85 h5 fun _ h87 =>
  aLoad true 2 v4 h87 fun v88 =>
  K (.tup [v88, (.p (.int .i64 0))]) h87)
  (aBin false false .eql v7 (.p (.int .i64 8)) fun v89 =>
  aGuard v89
  (aLoopN 1 [(.p (.int .i64 1))] h5 fun xs H B2 => runnelref10_made_L2 x1 v4 (xs.getD 0 .top) H B2 K)
  (aIndexAddr 2 x1 (.p (.int .i64 0)) fun v108 =>
  aLoad true 2 v108 h5 fun v109 =>
  aStore 2 v4 v109 h5 fun _ h111 =>
  aLoad true 2 v4 h111 fun v112 =>
  K (.tup [v112, (.p (.int .i64 0))]) h111))))))

def runnelref10_made_ann : Nat → List Nat := fun k => match k with | 9 => [10] | 27 => [13] | 1000015 => [1] | _ => []

theorem runnelref10_made_eq (x0 x1 x2 x3 : AV) (H : List Ob) (r : AV) (Ho : List Ob) : aBody Tryz.prog runnelref10_made_ann Tryz.f112 H [x0, x1, x2, x3] r Ho = runnelref10_made x0 x1 x2 x3 H (fun v H' => Gives H.length v H' r Ho) := by kernel_rfl

theorem runnelref10_made_fn {x0 x1 x2 x3 : AV} {r : AV} {Ho : List Ob} (h : runnelref10_made x0 x1 x2 x3 [] (fun v H' => Gives 0 v H' r Ho)) : Abs.Fn Tryz.prog runnelref10_made_i [] [x0, x1, x2, x3] r Ho :=
  fn_intro mixed runnelref10_made_ann (fn := Tryz.f112) (by kernel_rfl) (by kernel_rfl) (by rw [runnelref10_made_eq]; exact h)

/- runnel/runnelref10.bare -/
def runnelref10_bare (x0 : AV) (H : List Ob) (K : AV → List Ob → Prop) : Prop :=
  aBox x0 H fun v0 h1 =>
  aFieldAddr 0 v0 fun v2 =>
  aLoad false 1 v2 h1 fun v3 =>
  aBin false false .eql v3 (.p (.str [])) fun v4 =>
  aMerge true v4 (fun Q5 =>
  aFieldAddr 1 v0 fun v6 =>
  aFieldAddr 0 v6 fun v7 =>
  aLoad false 1 v7 h1 fun v8 =>
  aBin false false .eql v8 (.p (.int .i64 0)) fun v9 =>
  (h1 = h1 ∧ Q5 v9)) fun v10 =>
  aMerge true v10 (fun Q11 =>
  aFieldAddr 1 v0 fun v12 =>
  aFieldAddr 1 v12 fun v13 =>
  aLoad false 1 v13 h1 fun v14 =>
  aBin false false .eql v14 (.p (.int .i64 0)) fun v15 =>
  (h1 = h1 ∧ Q11 v15)) fun v16 =>
  aMerge true v16 (fun Q17 =>
  aFieldAddr 1 v0 fun v18 =>
  aFieldAddr 2 v18 fun v19 =>
  aLoad false 1 v19 h1 fun v20 =>
  aUn .not v20 fun v21 =>
  (h1 = h1 ∧ Q17 v21)) fun v22 =>
  aMerge true v22 (fun Q23 =>
  aFieldAddr 1 v0 fun v24 =>
  aFieldAddr 3 v24 fun v25 =>
  aLoad false 1 v25 h1 fun v26 =>
  aBin false false .eql v26 (.p (.str [])) fun v27 =>
  (h1 = h1 ∧ Q23 v27)) fun v28 =>
  aMerge true v28 (fun Q29 =>
  aFieldAddr 1 v0 fun v30 =>
  aFieldAddr 4 v30 fun v31 =>
  aLoad false 1 v31 h1 fun v32 =>
  aLenS false v32 fun v33 =>
  aBin false false .eql v33 (.p (.int .i64 0)) fun v34 =>
  (h1 = h1 ∧ Q29 v34)) fun v35 =>
  aMerge true v35 (fun Q36 =>
  aFieldAddr 6 v0 fun v37 =>
  aLoad false 1 v37 h1 fun v38 =>
  aBin false false .eql v38 (.p (.int .i64 0)) fun v39 =>
  (h1 = h1 ∧ Q36 v39)) fun v40 =>
  aMerge true v40 (fun Q41 =>
  aFieldAddr 7 v0 fun v42 =>
  aLoad false 1 v42 h1 fun v43 =>
  aLenS false v43 fun v44 =>
  aBin false false .eql v44 (.p (.int .i64 0)) fun v45 =>
  (h1 = h1 ∧ Q41 v45)) fun v46 =>
  K v46 h1

def runnelref10_bare_ann : Nat → List Nat := fun _ => []

theorem runnelref10_bare_eq (x0 : AV) (H : List Ob) (r : AV) (Ho : List Ob) : aBody Tryz.prog runnelref10_bare_ann Tryz.f133 H [x0] r Ho = runnelref10_bare x0 H (fun v H' => Gives H.length v H' r Ho) := by kernel_rfl

theorem runnelref10_bare_fn {x0 : AV} {r : AV} {Ho : List Ob} (h : runnelref10_bare x0 [] (fun v H' => Gives 0 v H' r Ho)) : Abs.Fn Tryz.prog runnelref10_bare_i [] [x0] r Ho :=
  fn_intro mixed runnelref10_bare_ann (fn := Tryz.f133) (by kernel_rfl) (by kernel_rfl) (by rw [runnelref10_bare_eq]; exact h)

end Go.Proofs.YtijnpcociedigaaGreatDoor
end

section
/- Made by program (Gen.lean): functions of the dump, over trees. -/
set_option maxRecDepth 4000
set_option linter.unusedVariables false
namespace Go.Proofs.YtijnpcociedigaaGreatDoor
open Go Go.Abs

/- runnel/runnellaw9.UidNamed -/
def runnellaw9_UidNamed_J1 (j1s5 j1s8 j1s9 j1s10 j1s11 : AV) (H : List Ob) (B2 : List AV → List Ob → Prop) (K : AV → List Ob → Prop) : Prop :=
  aIndexAddr 1 j1s10 j1s11 fun v74 =>
  aLoad false 1 v74 H fun v75 =>
  aGuard v75
  (aBin false false .neq j1s11 j1s5 fun v76 =>
  aGuard v76
  (aIndexAddr 1 j1s8 j1s11 fun v77 =>
  aLoad false 1 v77 H fun v78 =>
  aIndexAddr 1 j1s9 j1s11 fun v79 =>
  aLoad false 1 v79 H fun v80 =>
  aBin false false .eql v78 v80 fun v81 =>
  aGuard v81
  (K (.p (.bool false)) H)
  (aBin false false .add j1s11 (.p (.int .i64 1)) fun v82 =>
  B2 [v82] H))
  (aBin false false .add j1s11 (.p (.int .i64 1)) fun v83 =>
  B2 [v83] H))
  (aBin false false .add j1s11 (.p (.int .i64 1)) fun v84 =>
  B2 [v84] H)

def runnellaw9_UidNamed_L3 (q3s0 q3s5 q3s8 q3s9 q3s10 q3s11 y0 : AV) (H : List Ob) (B3 : List AV → List Ob → Prop) (B2 : List AV → List Ob → Prop) (K : AV → List Ob → Prop) : Prop :=
  aIndexAddr 21 q3s0 q3s11 fun v48 =>
  aFieldAddr 16 v48 fun v49 =>
  aLoad false 1 v49 H fun v50 =>
  aLen false false v50 fun v51 =>
  aBin false false .lss y0 v51 fun v52 =>
  aGuard v52
  (aIndexAddr 1 q3s10 q3s11 fun v53 =>
  aLoad false 1 v53 H fun v54 =>
  aMerge false v54 (fun Q55 =>
  aIndexAddr 21 q3s0 q3s11 fun v56 =>
  aFieldAddr 0 v56 fun v57 =>
  aLoad false 1 v57 H fun v58 =>
  aBin false false .eql v58 (.p (.str [])) fun v59 =>
  aMerge true v59 (fun Q60 =>
  aIndexAddr 21 q3s0 q3s11 fun v61 =>
  aFieldAddr 16 v61 fun v62 =>
  aLoad false 1 v62 H fun v63 =>
  aIndexAddr 1 v63 y0 fun v64 =>
  aLoad false 1 v64 H fun v65 =>
  aIndexAddr 1 q3s10 v65 fun v66 =>
  aLoad false 1 v66 H fun v67 =>
  (H = H ∧ Q60 v67)) fun v68 =>
  (H = H ∧ Q55 v68)) fun v69 =>
  aIndexAddr 1 q3s10 q3s11 fun v70 =>
  aStore 1 v70 v69 H fun _ h72 =>
  aBin false false .add y0 (.p (.int .i64 1)) fun v73 =>
  B3 [v73] h72)
  (aIndexAddr 21 q3s0 q3s11 fun v85 =>
  aFieldAddr 0 v85 fun v86 =>
  aLoad false 1 v86 H fun v87 =>
  aBin false false .neq v87 (.p (.str [])) fun v88 =>
  aGuard v88
  (aBin false false .neq q3s11 q3s5 fun v89 =>
  aGuard v89
  (aIndexAddr 1 q3s8 q3s11 fun v90 =>
  aLoad false 1 v90 H fun v91 =>
  aIndexAddr 1 q3s9 q3s11 fun v92 =>
  aLoad false 1 v92 H fun v93 =>
  aBin false false .neq v91 v93 fun v94 =>
  aGuard v94
  (K (.p (.bool false)) H)
  (runnellaw9_UidNamed_J1 q3s5 q3s8 q3s9 q3s10 q3s11 H B2 K))
  (runnellaw9_UidNamed_J1 q3s5 q3s8 q3s9 q3s10 q3s11 H B2 K))
  (runnellaw9_UidNamed_J1 q3s5 q3s8 q3s9 q3s10 q3s11 H B2 K))

def runnellaw9_UidNamed_L2 (q2s0 q2s5 q2s8 q2s9 q2s10 y0 : AV) (H : List Ob) (B2 : List AV → List Ob → Prop) (K : AV → List Ob → Prop) : Prop :=
  aLen false false q2s0 fun v46 =>
  aBin false false .lss y0 v46 fun v47 =>
  aGuard v47
  (aLoopN 1 [(.p (.int .i64 0))] H fun xs H B3 => runnellaw9_UidNamed_L3 q2s0 q2s5 q2s8 q2s9 q2s10 y0 (xs.getD 0 .top) H B3 B2 K)
  (K (.p (.bool true)) H)

def runnellaw9_UidNamed_L1 (q1s0 q1s5 q1s6 y0 : AV) (H : List Ob) (B1 : List AV → List Ob → Prop) (K : AV → List Ob → Prop) : Prop :=
  aLen false false q1s0 fun v16 =>
  aBin false false .lss y0 v16 fun v17 =>
  aGuard v17
  (aIndexAddr 21 q1s0 y0 fun v18 =>
  aFieldAddr 0 v18 fun v19 =>
  aLoad false 1 v19 H fun v20 =>
  aBin false false .eql v20 (.p (.str [122, 122])) fun v21 =>
  aGuard v21
  (K (.p (.bool true)) H)
  (aBin false false .add y0 (.p (.int .i64 1)) fun v22 =>
  B1 [v22] H))
  (aCall Tryz.prog (.p (.func uid_IDs_i [])) [q1s0] H fun v23 h24 =>
  aCall Tryz.prog (.p (.func uid_IDs_i [])) [q1s6] h24 fun v25 h26 =>
  aLen false false v23 fun v27 =>
  aLen false false v25 fun v28 =>
  aBin false false .neq v27 v28 fun v29 =>
  aMerge false v29 (fun Q30 =>
  aIndexAddr 1 v25 q1s5 fun v31 =>
  aLoad false 1 v31 h26 fun v32 =>
  aBin false false .neq v32 (.p (.str [117, 58, 122, 122])) fun v33 =>
  (h26 = h26 ∧ Q30 v33)) fun v34 =>
  aMerge false v34 (fun Q35 =>
  aCall Tryz.prog (.p (.func uid_Find_i [])) [q1s6, (.p (.str [117, 58, 122, 122]))] h26 fun v36 h37 =>
  aBin false false .neq v36 q1s5 fun v38 =>
  (h37 = h26 ∧ Q35 v38)) fun v39 =>
  aGuard v39
  (K (.p (.bool false)) h26)
  (aLen false false q1s0 fun v40 =>
  aMake 1 [(.p (.bool false))] v40 v40 h26 fun v41 h42 =>
  aIndexAddr 1 v41 q1s5 fun v43 =>
  aStore 1 v43 (.p (.bool true)) h42 fun _ h45 =>
  aLoopN 1 [(.p (.int .i64 0))] h45 fun xs H B2 => runnellaw9_UidNamed_L2 q1s0 q1s5 v23 v25 v41 (xs.getD 0 .top) H B2 K))

def runnellaw9_UidNamed (x0 x1 : AV) (H : List Ob) (K : AV → List Ob → Prop) : Prop :=
  aCall Tryz.prog (.p (.func runnellaw9_known_i [])) [] H fun v0 h1 =>
  aUn .not v0 fun v2 =>
  aGuard v2
  (K (.p (.bool false)) h1)
  (aCall Tryz.prog (.p (.func runnellaw8_Good_i [])) [x0] h1 fun v3 h4 =>
  aUn .not v3 fun v5 =>
  aGuard v5
  (K (.p (.bool true)) h4)
  (aConvInt .i64 x1 fun v6 =>
  aLen false false x0 fun v7 =>
  aBin false false .rem v6 v7 fun v8 =>
  aBuildSlice 21 [] fun v9 =>
  aAppend false 21 288 v9 x0 h4 fun v10 h11 =>
  aIndexAddr 21 v10 v8 fun v12 =>
  aFieldAddr 0 v12 fun v13 =>
  aStore 1 v13 (.p (.str [122, 122])) h11 fun _ h15 =>
  aLoopN 1 [(.p (.int .i64 0))] h15 fun xs H B1 => runnellaw9_UidNamed_L1 x0 v8 v10 (xs.getD 0 .top) H B1 K))

def runnellaw9_UidNamed_ann : Nat → List Nat := fun k => match k with | 9 => [7] | 20 => [11] | 23 => [12] | _ => []

theorem runnellaw9_UidNamed_eq (x0 x1 : AV) (H : List Ob) (r : AV) (Ho : List Ob) : aBody Tryz.prog runnellaw9_UidNamed_ann Tryz.f5 H [x0, x1] r Ho = runnellaw9_UidNamed x0 x1 H (fun v H' => Gives H.length v H' r Ho) := by kernel_rfl

theorem runnellaw9_UidNamed_fnH {x0 x1 : AV} {Hin : List Ob} {r : AV} {Ho : List Ob} (h : runnellaw9_UidNamed x0 x1 Hin (fun v H' => Gives Hin.length v H' r Ho)) : Abs.Fn Tryz.prog runnellaw9_UidNamed_i Hin [x0, x1] r Ho :=
  fn_intro mixed runnellaw9_UidNamed_ann (fn := Tryz.f5) (by kernel_rfl) (by kernel_rfl) (by rw [runnellaw9_UidNamed_eq]; exact h)

/- runnel/runnellaw9.known -/
def runnellaw9_known (H : List Ob) (K : AV → List Ob → Prop) : Prop :=
  aCall Tryz.prog (.p (.func runnellaw8_Small_i [])) [] H fun v0 h1 =>
  aIndexAddr 21 v0 (.p (.int .i64 1)) fun v2 =>
  aFieldAddr 0 v2 fun v3 =>
  aStore 1 v3 (.p (.str [109])) h1 fun _ h5 =>
  aCall Tryz.prog (.p (.func uid_IDs_i [])) [v0] h5 fun v6 h7 =>
  aLen false false v6 fun v8 =>
  aBin false false .eql v8 (.p (.int .i64 3)) fun v9 =>
  aMerge true v9 (fun Q10 =>
  aIndexAddr 1 v6 (.p (.int .i64 0)) fun v11 =>
  aLoad false 1 v11 h7 fun v12 =>
  aBin false false .eql v12 (.p (.str [97, 58, 49, 58, 115, 40, 41])) fun v13 =>
  (h7 = h7 ∧ Q10 v13)) fun v14 =>
  aMerge true v14 (fun Q15 =>
  aIndexAddr 1 v6 (.p (.int .i64 1)) fun v16 =>
  aLoad false 1 v16 h7 fun v17 =>
  aBin false false .eql v17 (.p (.str [117, 58, 109])) fun v18 =>
  (h7 = h7 ∧ Q15 v18)) fun v19 =>
  aMerge true v19 (fun Q20 =>
  aIndexAddr 1 v6 (.p (.int .i64 2)) fun v21 =>
  aLoad false 1 v21 h7 fun v22 =>
  aBin false false .eql v22 (.p (.str [97, 58, 57, 58, 97, 40, 117, 58, 109, 41])) fun v23 =>
  (h7 = h7 ∧ Q20 v23)) fun v24 =>
  aMerge true v24 (fun Q25 =>
  aCall Tryz.prog (.p (.func uid_Find_i [])) [v0, (.p (.str [117, 58, 109]))] h7 fun v26 h27 =>
  aBin false false .eql v26 (.p (.int .i64 1)) fun v28 =>
  (h27 = h7 ∧ Q25 v28)) fun v29 =>
  aMerge true v29 (fun Q30 =>
  aCall Tryz.prog (.p (.func uid_Find_i [])) [v0, (.p (.str [120]))] h7 fun v31 h32 =>
  aBin false false .eql v31 (.p (.int .i64 (-1))) fun v33 =>
  (h32 = h7 ∧ Q30 v33)) fun v34 =>
  aMerge true v34 (fun Q35 =>
  aCall Tryz.prog (.p (.func uid_Schema_i [])) [v0, (.p (.int .i64 0))] h7 fun v36 h37 =>
  aBin false false .eql v36 (.p (.str [115, 111, 117, 114, 99, 101, 32, 105, 110, 116, 32, 52])) fun v38 =>
  (h37 = h7 ∧ Q35 v38)) fun v39 =>
  aMerge true v39 (fun Q40 =>
  aCall Tryz.prog (.p (.func uid_Schema_i [])) [v0, (.p (.int .i64 1))] h7 fun v41 h42 =>
  aBin false false .eql v41 (.p (.str [])) fun v43 =>
  (h42 = h7 ∧ Q40 v43)) fun v44 =>
  K v44 h7

def runnellaw9_known_ann : Nat → List Nat := fun _ => []

theorem runnellaw9_known_eq (H : List Ob) (r : AV) (Ho : List Ob) : aBody Tryz.prog runnellaw9_known_ann Tryz.f7 H [] r Ho = runnellaw9_known H (fun v H' => Gives H.length v H' r Ho) := by kernel_rfl

theorem runnellaw9_known_fn {r : AV} {Ho : List Ob} (h : runnellaw9_known [] (fun v H' => Gives 0 v H' r Ho)) : Abs.Fn Tryz.prog runnellaw9_known_i [] [] r Ho :=
  fn_intro mixed runnellaw9_known_ann (fn := Tryz.f7) (by kernel_rfl) (by kernel_rfl) (by rw [runnellaw9_known_eq]; exact h)

end Go.Proofs.YtijnpcociedigaaGreatDoor
end
