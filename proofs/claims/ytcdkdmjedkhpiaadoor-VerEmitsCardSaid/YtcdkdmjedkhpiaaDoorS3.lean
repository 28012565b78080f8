/- Made by program (Gen.lean): functions of the dump, over trees. -/
import Derived.Test.YtcdkdmjedkhpiaaDoorS2

section
/- Made by program (Gen.lean): functions of the dump, over trees. -/
set_option maxRecDepth 4000
set_option linter.unusedVariables false
namespace Go.Proofs.YtcdkdmjedkhpiaaDoor
open Go Go.Abs

/- runnel/runnelref14.Check -/
def runnelref14_Check_L1 (q1s0 y0 : AV) (H : List Ob) (B1 : List AV → List Ob → Prop) (K : AV → List Ob → Prop) : Prop :=
  aLen false false q1s0 fun v4 =>
  aBin false false .lss y0 v4 fun v5 =>
  aGuard v5
  (aCall Tryd.prog (.p (.func runnelref14_inst_i [])) [q1s0, y0] H fun v6 h7 =>
  aBin false false .neq v6 (.p (.int .i64 0)) fun v8 =>
  aGuard v8
  (K (.tup [y0, v6]) h7)
  (aBin false false .add y0 (.p (.int .i64 1)) fun v9 =>
  B1 [v9] h7))
  (K (.tup [(.p (.int .i64 0)), (.p (.int .i64 0))]) H)

def runnelref14_Check (x0 : AV) (H : List Ob) (K : AV → List Ob → Prop) : Prop :=
  aLen false false x0 fun v0 =>
  aBin false false .eql v0 (.p (.int .i64 0)) fun v1 =>
  aGuard v1
  (K (.tup [(.p (.int .i64 0)), (.p (.int .i64 3))]) H)
  (aLen false false x0 fun v2 =>
  aBin false false .gtr v2 (.p (.int .i64 4096)) fun v3 =>
  aGuard v3
  (K (.tup [(.p (.int .i64 0)), (.p (.int .i64 10))]) H)
  (aLoopN 1 [(.p (.int .i64 0))] H fun xs H B1 => runnelref14_Check_L1 x0 (xs.getD 0 .top) H B1 K))

def runnelref14_Check_ann : Nat → List Nat := fun k => match k with | 6 => [4] | _ => []

theorem runnelref14_Check_eq (x0 : AV) (H : List Ob) (r : AV) (Ho : List Ob) : aBody Tryd.prog runnelref14_Check_ann Tryd.f24 H [x0] r Ho = runnelref14_Check x0 H (fun v H' => Gives H.length v H' r Ho) := by kernel_rfl

theorem runnelref14_Check_fnH {x0 : AV} {Hin : List Ob} {r : AV} {Ho : List Ob} (h : runnelref14_Check x0 Hin (fun v H' => Gives Hin.length v H' r Ho)) : Abs.Fn Tryd.prog runnelref14_Check_i Hin [x0] r Ho :=
  fn_intro mixed runnelref14_Check_ann (fn := Tryd.f24) (by kernel_rfl) (by kernel_rfl) (by rw [runnelref14_Check_eq]; exact h)

theorem runnelref14_Check_fn {x0 : AV} {r : AV} {Ho : List Ob} (h : runnelref14_Check x0 [] (fun v H' => Gives 0 v H' r Ho)) : Abs.Fn Tryd.prog runnelref14_Check_i [] [x0] r Ho := runnelref14_Check_fnH (Hin := []) h

/- (*runnel/runnelref14.Look).step -/
def runnelref14_Look_step_J1 (j1s0 j1s1 j1s2 j1s9 j1s10 : AV) (H : List Ob) (K : AV → List Ob → Prop) : Prop :=
  aLen false false j1s10 fun v42 =>
  aBin false false .gtr v42 (.p (.int .i64 128)) fun v43 =>
  aMerge false v43 (fun Q44 =>
  aFieldAddr 0 j1s9 fun v45 =>
  aLoad false 1 v45 H fun v46 =>
  aBin false false .eql v46 (.p (.str [114, 101, 116])) fun v47 =>
  aMerge true v47 (fun Q48 =>
  aLenS false j1s10 fun v49 =>
  aBin false false .gtr v49 (.p (.int .i64 0)) fun v50 =>
  (H = H ∧ Q48 v50)) fun v51 =>
  (H = H ∧ Q44 v51)) fun v52 =>
  aGuard v52
  (K (.p (.int .i64 12)) H)
  (aFieldAddr 0 j1s9 fun v53 =>
  aLoad false 1 v53 H fun v54 =>
  aBin false false .eql v54 (.p (.str [114, 101, 116])) fun v55 =>
  aGuard v55
  (K (.p (.int .i64 0)) H)
  (aFieldAddr 0 j1s9 fun v56 =>
  aLoad false 1 v56 H fun v57 =>
  aBin false false .neq v57 (.p (.str [106, 109, 112])) fun v58 =>
  aMerge true v58 (fun Q59 =>
  aLenS false j1s1 fun v60 =>
  aBin false false .sub v60 (.p (.int .i64 1)) fun v61 =>
  aBin false false .eql j1s2 v61 fun v62 =>
  (H = H ∧ Q59 v62)) fun v63 =>
  aGuard v63
  (K (.p (.int .i64 12)) H)
  (aFieldAddr 0 j1s9 fun v64 =>
  aLoad false 1 v64 H fun v65 =>
  aBin false false .eql v65 (.p (.str [106, 109, 112])) fun v66 =>
  aMerge false v66 (fun Q67 =>
  aFieldAddr 0 j1s9 fun v68 =>
  aLoad false 1 v68 H fun v69 =>
  aBin false false .eql v69 (.p (.str [106, 102])) fun v70 =>
  (H = H ∧ Q67 v70)) fun v71 =>
  aGuard v71
  (aFieldAddr 6 j1s9 fun v72 =>
  aLoad false 1 v72 H fun v73 =>
  aCall Tryd.prog (.p (.func runnelref14_Look_lead_i [])) [j1s0, v73, j1s10] H fun v74 h75 =>
  aBin false false .neq v74 (.p (.int .i64 0)) fun v76 =>
  aGuard v76
  (K v74 h75)
  (aFieldAddr 0 j1s9 fun v77 =>
  aLoad false 1 v77 h75 fun v78 =>
  aBin false false .neq v78 (.p (.str [106, 109, 112])) fun v79 =>
  aGuard v79
  (aBin false false .add j1s2 (.p (.int .i64 1)) fun v80 =>
  aCall Tryd.prog (.p (.func runnelref14_Look_lead_i [])) [j1s0, v80, j1s10] h75 fun v81 h82 =>
  K v81 h82)
  (K (.p (.int .i64 0)) h75)))
  (aFieldAddr 0 j1s9 fun v83 =>
  aLoad false 1 v83 H fun v84 =>
  aBin false false .neq v84 (.p (.str [106, 109, 112])) fun v85 =>
  aGuard v85
  (aBin false false .add j1s2 (.p (.int .i64 1)) fun v86 =>
  aCall Tryd.prog (.p (.func runnelref14_Look_lead_i [])) [j1s0, v86, j1s10] H fun v87 h88 =>
  K v87 h88)
  (K (.p (.int .i64 0)) H)))))

def runnelref14_Look_step (x0 x1 x2 x3 : AV) (H : List Ob) (K : AV → List Ob → Prop) : Prop :=
  aBox x3 H fun v0 h1 =>
  aIndexAddr 7 x1 x2 fun v2 =>
  aLoad true 7 v2 h1 fun v3 =>
  aAlloc [(.p (.str [])), (.p (.int .i64 0)), (.p (.int .i64 0)), (.p (.bool false)), (.p (.str [])), (.full []), (.p (.int .i64 0))] h1 fun v4 h5 =>
  aStore 7 v4 v3 h5 fun _ h7 =>
  aNilCheck x0 fun v8 =>
  aFieldAddr 0 v8 fun v9 =>
  aLoad false 1 v9 h7 fun v10 =>
  aIndexAddr 1 v10 x2 fun v11 =>
  aLoad false 1 v11 h7 fun v12 =>
  aLoad true 7 v4 h7 fun v13 =>
  aCall Tryd.prog (.p (.func runnelref14_takes_i [])) [v13] h7 fun v14 h15 =>
  aLen false false v12 fun v16 =>
  aBin false false .lss v16 v14 fun v17 =>
  aGuard v17
  (K (.p (.int .i64 12)) h15)
  (aBuildSlice 2 [] fun v18 =>
  aLen false false v12 fun v19 =>
  aBin false false .sub v19 v14 fun v20 =>
  aSlice false 2 v12 (some v20) none none fun v21 =>
  aAppend false 2 32 v18 v21 h15 fun v22 h23 =>
  aBuildSlice 2 [] fun v24 =>
  aLen false false v12 fun v25 =>
  aBin false false .sub v25 v14 fun v26 =>
  aSlice false 2 v12 none (some v26) none fun v27 =>
  aAppend false 2 32 v24 v27 h23 fun v28 h29 =>
  aLoad true 7 v4 h29 fun v30 =>
  aLoad true 2 v0 h29 fun v31 =>
  aCall Tryd.prog (.p (.func runnelref14_Look_made_i [])) [x0, v30, v31, v22] h29 fun v32 h33 =>
  aExtract v32 0 fun v34 =>
  aExtract v32 1 fun v35 =>
  aExtract v32 2 fun v36 =>
  aAlloc [(.p (.int .i64 0)), (.full [])] h33 fun v37 h38 =>
  aStore 2 v37 v34 h38 fun _ h40 =>
  aBin false false .neq v36 (.p (.int .i64 0)) fun v41 =>
  aGuard v41
  (K v36 h40)
  (aGuard v35
  (aLoad true 2 v37 h40 fun v89 =>
  aBuildSlice 2 [v89] fun v90 =>
  aAppend false 2 32 v28 v90 h40 fun v91 h92 =>
  runnelref14_Look_step_J1 x0 x1 x2 v4 v91 h92 K)
  (runnelref14_Look_step_J1 x0 x1 x2 v4 v28 h40 K)))

def runnelref14_Look_step_ann : Nat → List Nat := fun _ => []

theorem runnelref14_Look_step_eq (x0 x1 x2 x3 : AV) (H : List Ob) (r : AV) (Ho : List Ob) : aBody Tryd.prog runnelref14_Look_step_ann Tryd.f26 H [x0, x1, x2, x3] r Ho = runnelref14_Look_step x0 x1 x2 x3 H (fun v H' => Gives H.length v H' r Ho) := by kernel_rfl

theorem runnelref14_Look_step_fnH {x0 x1 x2 x3 : AV} {Hin : List Ob} {r : AV} {Ho : List Ob} (h : runnelref14_Look_step x0 x1 x2 x3 Hin (fun v H' => Gives Hin.length v H' r Ho)) : Abs.Fn Tryd.prog runnelref14_Look_step_i Hin [x0, x1, x2, x3] r Ho :=
  fn_intro mixed runnelref14_Look_step_ann (fn := Tryd.f26) (by kernel_rfl) (by kernel_rfl) (by rw [runnelref14_Look_step_eq]; exact h)

theorem runnelref14_Look_step_fn {x0 x1 x2 x3 : AV} {r : AV} {Ho : List Ob} (h : runnelref14_Look_step x0 x1 x2 x3 [] (fun v H' => Gives 0 v H' r Ho)) : Abs.Fn Tryd.prog runnelref14_Look_step_i [] [x0, x1, x2, x3] r Ho := runnelref14_Look_step_fnH (Hin := []) h

/- runnel/runnelref14.inst -/
def runnelref14_inst (x0 x1 : AV) (H : List Ob) (K : AV → List Ob → Prop) : Prop :=
  aIndexAddr 7 x0 x1 fun v0 =>
  aLoad true 7 v0 H fun v1 =>
  aAlloc [(.p (.str [])), (.p (.int .i64 0)), (.p (.int .i64 0)), (.p (.bool false)), (.p (.str [])), (.full []), (.p (.int .i64 0))] H fun v2 h3 =>
  aStore 7 v2 v1 h3 fun _ h5 =>
  aFieldAddr 0 v2 fun v6 =>
  aLoad false 1 v6 h5 fun v7 =>
  aCall Tryd.prog (.p (.func runnelref14_number_i [])) [v7] h5 fun v8 h9 =>
  aBin false false .eql v8 (.p (.int .i64 0)) fun v10 =>
  aGuard v10
  (K (.p (.int .i64 6)) h9)
  (aFieldAddr 0 v2 fun v11 =>
  aLoad false 1 v11 h9 fun v12 =>
  aCall Tryd.prog (.p (.func runnelref14_counted_i [])) [v12] h9 fun v13 h14 =>
  aUn .not v13 fun v15 =>
  aMerge true v15 (fun Q16 =>
  aFieldAddr 6 v2 fun v17 =>
  aLoad false 1 v17 h14 fun v18 =>
  aBin false false .neq v18 (.p (.int .i64 0)) fun v19 =>
  (h14 = h14 ∧ Q16 v19)) fun v20 =>
  aMerge false v20 (fun Q21 =>
  aFieldAddr 0 v2 fun v22 =>
  aLoad false 1 v22 h14 fun v23 =>
  aBin false false .neq v23 (.p (.str [112, 117, 115, 104])) fun v24 =>
  aMerge true v24 (fun Q25 =>
  aFieldAddr 1 v2 fun v26 =>
  aLoad true 5 v26 h14 fun v27 =>
  aCall Tryd.prog (.p (.func runnelref14_nought_i [])) [v27] h14 fun v28 h29 =>
  aUn .not v28 fun v30 =>
  (h29 = h14 ∧ Q25 v30)) fun v31 =>
  (h14 = h14 ∧ Q21 v31)) fun v32 =>
  aGuard v32
  (K (.p (.int .i64 1)) h14)
  (aFieldAddr 0 v2 fun v33 =>
  aLoad false 1 v33 h14 fun v34 =>
  aBin false false .eql v34 (.p (.str [112, 117, 115, 104])) fun v35 =>
  aGuard v35
  (aFieldAddr 1 v2 fun v36 =>
  aLoad true 5 v36 h14 fun v37 =>
  aCall Tryd.prog (.p (.func runnelref6_CheckValue_i [])) [v37] h14 fun v38 h39 =>
  K v38 h39)
  (aBin false false .eql v34 (.p (.str [97, 116])) fun v40 =>
  aGuard v40
  (aFieldAddr 6 v2 fun v41 =>
  aLoad false 1 v41 h14 fun v42 =>
  aBin false false .lss v42 (.p (.int .i64 0)) fun v43 =>
  aGuard v43
  (K (.p (.int .i64 1)) h14)
  (K (.p (.int .i64 0)) h14))
  (aBin false false .eql v34 (.p (.str [116, 117, 112])) fun v44 =>
  aGuard v44
  (aFieldAddr 6 v2 fun v45 =>
  aLoad false 1 v45 h14 fun v46 =>
  aBin false false .lss v46 (.p (.int .i64 1)) fun v47 =>
  aMerge false v47 (fun Q48 =>
  aFieldAddr 6 v2 fun v49 =>
  aLoad false 1 v49 h14 fun v50 =>
  aBin false false .gtr v50 (.p (.int .i64 8)) fun v51 =>
  (h14 = h14 ∧ Q48 v51)) fun v52 =>
  aGuard v52
  (K (.p (.int .i64 1)) h14)
  (K (.p (.int .i64 0)) h14))
  (aBin false false .eql v34 (.p (.str [101, 109, 105, 116])) fun v53 =>
  aGuard v53
  (aFieldAddr 6 v2 fun v54 =>
  aLoad false 1 v54 h14 fun v55 =>
  aBin false false .lss v55 (.p (.int .i64 0)) fun v56 =>
  aMerge false v56 (fun Q57 =>
  aFieldAddr 6 v2 fun v58 =>
  aLoad false 1 v58 h14 fun v59 =>
  aBin false false .gtr v59 (.p (.int .i64 4)) fun v60 =>
  (h14 = h14 ∧ Q57 v60)) fun v61 =>
  aGuard v61
  (K (.p (.int .i64 1)) h14)
  (K (.p (.int .i64 0)) h14))
  (aBin false false .eql v34 (.p (.str [106, 109, 112])) fun v62 =>
  aMerge false v62 (fun Q63 =>
  aBin false false .eql v34 (.p (.str [106, 102])) fun v64 =>
  (h14 = h14 ∧ Q63 v64)) fun v65 =>
  aGuard v65
  (aFieldAddr 6 v2 fun v66 =>
  aLoad false 1 v66 h14 fun v67 =>
  aBin false false .leq v67 x1 fun v68 =>
  aMerge false v68 (fun Q69 =>
  aFieldAddr 6 v2 fun v70 =>
  aLoad false 1 v70 h14 fun v71 =>
  aLenS false x0 fun v72 =>
  aBin false false .geq v71 v72 fun v73 =>
  (h14 = h14 ∧ Q69 v73)) fun v74 =>
  aGuard v74
  (K (.p (.int .i64 1)) h14)
  (K (.p (.int .i64 0)) h14))
  (K (.p (.int .i64 0)) h14)))))))

def runnelref14_inst_ann : Nat → List Nat := fun k => match k with | 1000019 => [1] | _ => []

theorem runnelref14_inst_eq (x0 x1 : AV) (H : List Ob) (r : AV) (Ho : List Ob) : aBody Tryd.prog runnelref14_inst_ann Tryd.f40 H [x0, x1] r Ho = runnelref14_inst x0 x1 H (fun v H' => Gives H.length v H' r Ho) := by kernel_rfl

theorem runnelref14_inst_fnH {x0 x1 : AV} {Hin : List Ob} {r : AV} {Ho : List Ob} (h : runnelref14_inst x0 x1 Hin (fun v H' => Gives Hin.length v H' r Ho)) : Abs.Fn Tryd.prog runnelref14_inst_i Hin [x0, x1] r Ho :=
  fn_intro mixed runnelref14_inst_ann (fn := Tryd.f40) (by kernel_rfl) (by kernel_rfl) (by rw [runnelref14_inst_eq]; exact h)

theorem runnelref14_inst_fn {x0 x1 : AV} {r : AV} {Ho : List Ob} (h : runnelref14_inst x0 x1 [] (fun v H' => Gives 0 v H' r Ho)) : Abs.Fn Tryd.prog runnelref14_inst_i [] [x0, x1] r Ho := runnelref14_inst_fnH (Hin := []) h

/- runnel/runnelref14.takes -/
def runnelref14_takes (x0 : AV) (H : List Ob) (K : AV → List Ob → Prop) : Prop :=
  aBox x0 H fun v0 h1 =>
  aFieldAddr 0 v0 fun v2 =>
  aLoad false 1 v2 h1 fun v3 =>
  aBin false false .eql v3 (.p (.str [112, 117, 115, 104])) fun v4 =>
  aMerge false v4 (fun Q5 =>
  aBin false false .eql v3 (.p (.str [120])) fun v6 =>
  aMerge false v6 (fun Q7 =>
  aBin false false .eql v3 (.p (.str [106, 109, 112])) fun v8 =>
  aMerge false v8 (fun Q9 =>
  aBin false false .eql v3 (.p (.str [114, 101, 116])) fun v10 =>
  (h1 = h1 ∧ Q9 v10)) fun v11 =>
  (h1 = h1 ∧ Q7 v11)) fun v12 =>
  (h1 = h1 ∧ Q5 v12)) fun v13 =>
  aGuard v13
  (K (.p (.int .i64 0)) h1)
  (aBin false false .eql v3 (.p (.str [116, 117, 112])) fun v14 =>
  aMerge false v14 (fun Q15 =>
  aBin false false .eql v3 (.p (.str [101, 109, 105, 116])) fun v16 =>
  (h1 = h1 ∧ Q15 v16)) fun v17 =>
  aGuard v17
  (aFieldAddr 6 v0 fun v18 =>
  aLoad false 1 v18 h1 fun v19 =>
  K v19 h1)
  (aBin false false .eql v3 (.p (.str [97, 116])) fun v20 =>
  aMerge false v20 (fun Q21 =>
  aBin false false .eql v3 (.p (.str [110, 101, 103])) fun v22 =>
  aMerge false v22 (fun Q23 =>
  aBin false false .eql v3 (.p (.str [110, 111, 116])) fun v24 =>
  aMerge false v24 (fun Q25 =>
  aBin false false .eql v3 (.p (.str [108, 101, 110])) fun v26 =>
  aMerge false v26 (fun Q27 =>
  aBin false false .eql v3 (.p (.str [106, 102])) fun v28 =>
  (h1 = h1 ∧ Q27 v28)) fun v29 =>
  (h1 = h1 ∧ Q25 v29)) fun v30 =>
  (h1 = h1 ∧ Q23 v30)) fun v31 =>
  (h1 = h1 ∧ Q21 v31)) fun v32 =>
  aGuard v32
  (K (.p (.int .i64 1)) h1)
  (K (.p (.int .i64 2)) h1)))

def runnelref14_takes_ann : Nat → List Nat := fun k => match k with | 1000005 => [1] | 1000004 => [1] | 1000003 => [1] | 1000008 => [1] | 1000014 => [1] | 1000013 => [1] | 1000012 => [1] | 1000011 => [1] | _ => []

theorem runnelref14_takes_eq (x0 : AV) (H : List Ob) (r : AV) (Ho : List Ob) : aBody Tryd.prog runnelref14_takes_ann Tryd.f42 H [x0] r Ho = runnelref14_takes x0 H (fun v H' => Gives H.length v H' r Ho) := by kernel_rfl

theorem runnelref14_takes_fnH {x0 : AV} {Hin : List Ob} {r : AV} {Ho : List Ob} (h : runnelref14_takes x0 Hin (fun v H' => Gives Hin.length v H' r Ho)) : Abs.Fn Tryd.prog runnelref14_takes_i Hin [x0] r Ho :=
  fn_intro mixed runnelref14_takes_ann (fn := Tryd.f42) (by kernel_rfl) (by kernel_rfl) (by rw [runnelref14_takes_eq]; exact h)

theorem runnelref14_takes_fn {x0 : AV} {r : AV} {Ho : List Ob} (h : runnelref14_takes x0 [] (fun v H' => Gives 0 v H' r Ho)) : Abs.Fn Tryd.prog runnelref14_takes_i [] [x0] r Ho := runnelref14_takes_fnH (Hin := []) h

/- (*runnel/runnelref14.Look).made -/
def runnelref14_Look_made_L1 (q1s0 q1s3 q1s8 y0 : AV) (H : List Ob) (B1 : List AV → List Ob → Prop) (K : AV → List Ob → Prop) : Prop :=
  aLen false false q1s3 fun v35 =>
  aBin false false .lss y0 v35 fun v36 =>
  aGuard v36
  (aNilCheck q1s0 fun v37 =>
  aFieldAddr 2 v37 fun v38 =>
  aFieldAddr 0 v38 fun v39 =>
  aLoad false 1 v39 H fun v40 =>
  aBin false false .neq v40 (.p (.int .i64 0)) fun v41 =>
  aGuard v41
  (aNilCheck q1s0 fun v42 =>
  aFieldAddr 2 v42 fun v43 =>
  aLoad true 2 v43 H fun v44 =>
  aIndexAddr 2 q1s3 y0 fun v45 =>
  aLoad true 2 v45 H fun v46 =>
  aCallT Tryd.prog (.p (.func runnelref6_SameType_i [])) [v44, v46] fun v47 =>
  aUn .not v47 fun v48 =>
  aGuard v48
  (aBuild [(.p (.int .i64 0)), (.full [])] [] fun v49 =>
  aStore 2 q1s8 v49 H fun _ h51 =>
  aLoad true 2 q1s8 h51 fun v52 =>
  K (.tup [v52, (.p (.bool false)), (.p (.int .i64 5))]) h51)
  (aIndexAddr 2 q1s3 y0 fun v53 =>
  aLoad true 2 v53 H fun v54 =>
  aNilCheck q1s0 fun v55 =>
  aFieldAddr 2 v55 fun v56 =>
  aStore 2 v56 v54 H fun _ h58 =>
  aBin false false .add y0 (.p (.int .i64 1)) fun v59 =>
  B1 [v59] h58))
  (aIndexAddr 2 q1s3 y0 fun v60 =>
  aLoad true 2 v60 H fun v61 =>
  aNilCheck q1s0 fun v62 =>
  aFieldAddr 2 v62 fun v63 =>
  aStore 2 v63 v61 H fun _ h65 =>
  aBin false false .add y0 (.p (.int .i64 1)) fun v66 =>
  B1 [v66] h65))
  (aBuild [(.p (.int .i64 0)), (.full [])] [] fun v67 =>
  aStore 2 q1s8 v67 H fun _ h69 =>
  aLoad true 2 q1s8 h69 fun v70 =>
  K (.tup [v70, (.p (.bool false)), (.p (.int .i64 0))]) h69)

def runnelref14_Look_made (x0 x1 x2 x3 : AV) (H : List Ob) (K : AV → List Ob → Prop) : Prop :=
  aBox x1 H fun v0 h1 =>
  aBox x2 h1 fun v2 h3 =>
  aAlloc [(.p (.int .i64 0)), (.full [])] h3 fun v4 h5 =>
  aFieldAddr 0 v0 fun v6 =>
  aLoad false 1 v6 h5 fun v7 =>
  aBin false false .eql v7 (.p (.str [112, 117, 115, 104])) fun v8 =>
  aGuard v8
  (aFieldAddr 1 v0 fun v9 =>
  aLoad true 5 v9 h5 fun v10 =>
  aCall Tryd.prog (.p (.func runnelref6_TypeOf_i [])) [v10] h5 fun v11 h12 =>
  aStore 2 v4 v11 h12 fun _ h14 =>
  aLoad true 2 v4 h14 fun v15 =>
  K (.tup [v15, (.p (.bool true)), (.p (.int .i64 0))]) h14)
  (aBin false false .eql v7 (.p (.str [120])) fun v16 =>
  aGuard v16
  (aLoad true 2 v2 h5 fun v17 =>
  aStore 2 v4 v17 h5 fun _ h19 =>
  aLoad true 2 v4 h19 fun v20 =>
  K (.tup [v20, (.p (.bool true)), (.p (.int .i64 0))]) h19)
  (aBin false false .eql v7 (.p (.str [106, 102])) fun v21 =>
  aGuard v21
  (aIndexAddr 2 x3 (.p (.int .i64 0)) fun v22 =>
  aFieldAddr 0 v22 fun v23 =>
  aLoad false 1 v23 h5 fun v24 =>
  aBin false false .neq v24 (.p (.int .i64 2)) fun v25 =>
  aGuard v25
  (aBuild [(.p (.int .i64 0)), (.full [])] [] fun v26 =>
  aStore 2 v4 v26 h5 fun _ h28 =>
  aLoad true 2 v4 h28 fun v29 =>
  K (.tup [v29, (.p (.bool false)), (.p (.int .i64 5))]) h28)
  (aBuild [(.p (.int .i64 0)), (.full [])] [] fun v30 =>
  aStore 2 v4 v30 h5 fun _ h32 =>
  aLoad true 2 v4 h32 fun v33 =>
  K (.tup [v33, (.p (.bool false)), (.p (.int .i64 0))]) h32))
  (aBin false false .eql v7 (.p (.str [101, 109, 105, 116])) fun v34 =>
  aGuard v34
  (aLoopN 1 [(.p (.int .i64 0))] h5 fun xs H B1 => runnelref14_Look_made_L1 x0 x3 v4 (xs.getD 0 .top) H B1 K)
  (aBin false false .eql v7 (.p (.str [106, 109, 112])) fun v71 =>
  aMerge false v71 (fun Q72 =>
  aBin false false .eql v7 (.p (.str [114, 101, 116])) fun v73 =>
  (h5 = h5 ∧ Q72 v73)) fun v74 =>
  aGuard v74
  (aBuild [(.p (.int .i64 0)), (.full [])] [] fun v75 =>
  aStore 2 v4 v75 h5 fun _ h77 =>
  aLoad true 2 v4 h77 fun v78 =>
  K (.tup [v78, (.p (.bool false)), (.p (.int .i64 0))]) h77)
  (aFieldAddr 0 v0 fun v79 =>
  aLoad false 1 v79 h5 fun v80 =>
  aFieldAddr 6 v0 fun v81 =>
  aLoad false 1 v81 h5 fun v82 =>
  aCall Tryd.prog (.p (.func runnelref6_OpType_i [])) [v80, v82, x3] h5 fun v83 h84 =>
  aExtract v83 0 fun v85 =>
  aExtract v83 1 fun v86 =>
  aAlloc [(.p (.int .i64 0)), (.full [])] h84 fun v87 h88 =>
  aStore 2 v87 v85 h88 fun _ h90 =>
  aLoad true 2 v87 h90 fun v91 =>
  aStore 2 v4 v91 h90 fun _ h93 =>
  aLoad true 2 v4 h93 fun v94 =>
  K (.tup [v94, (.p (.bool true)), v86]) h93)))))

def runnelref14_Look_made_ann : Nat → List Nat := fun k => match k with | 12 => [11] | 1000019 => [1] | _ => []

theorem runnelref14_Look_made_eq (x0 x1 x2 x3 : AV) (H : List Ob) (r : AV) (Ho : List Ob) : aBody Tryd.prog runnelref14_Look_made_ann Tryd.f43 H [x0, x1, x2, x3] r Ho = runnelref14_Look_made x0 x1 x2 x3 H (fun v H' => Gives H.length v H' r Ho) := by kernel_rfl

theorem runnelref14_Look_made_fnH {x0 x1 x2 x3 : AV} {Hin : List Ob} {r : AV} {Ho : List Ob} (h : runnelref14_Look_made x0 x1 x2 x3 Hin (fun v H' => Gives Hin.length v H' r Ho)) : Abs.Fn Tryd.prog runnelref14_Look_made_i Hin [x0, x1, x2, x3] r Ho :=
  fn_intro mixed runnelref14_Look_made_ann (fn := Tryd.f43) (by kernel_rfl) (by kernel_rfl) (by rw [runnelref14_Look_made_eq]; exact h)

theorem runnelref14_Look_made_fn {x0 x1 x2 x3 : AV} {r : AV} {Ho : List Ob} (h : runnelref14_Look_made x0 x1 x2 x3 [] (fun v H' => Gives 0 v H' r Ho)) : Abs.Fn Tryd.prog runnelref14_Look_made_i [] [x0, x1, x2, x3] r Ho := runnelref14_Look_made_fnH (Hin := []) h

/- (*runnel/runnelref14.Look).lead -/
def runnelref14_Look_lead (x0 x1 x2 : AV) (H : List Ob) (K : AV → List Ob → Prop) : Prop :=
  aNilCheck x0 fun v0 =>
  aFieldAddr 1 v0 fun v1 =>
  aLoad false 1 v1 H fun v2 =>
  aIndexAddr 1 v2 x1 fun v3 =>
  aLoad false 1 v3 H fun v4 =>
  aUn .not v4 fun v5 =>
  aGuard v5
  (aNilCheck x0 fun v6 =>
  aFieldAddr 1 v6 fun v7 =>
  aLoad false 1 v7 H fun v8 =>
  aIndexAddr 1 v8 x1 fun v9 =>
  aStore 1 v9 (.p (.bool true)) H fun _ h11 =>
  aNilCheck x0 fun v12 =>
  aFieldAddr 0 v12 fun v13 =>
  aLoad false 1 v13 h11 fun v14 =>
  aBuildSlice 2 [] fun v15 =>
  aCalm [v15, x2] <|
  aAppend false 2 32 v15 x2 h11 fun v16 h17 =>
  aIndexAddr 1 v14 x1 fun v18 =>
  aStore 1 v18 v16 h17 fun _ h20 =>
  K (.p (.int .i64 0)) h20)
  (aNilCheck x0 fun v21 =>
  aFieldAddr 0 v21 fun v22 =>
  aLoad false 1 v22 H fun v23 =>
  aIndexAddr 1 v23 x1 fun v24 =>
  aLoad false 1 v24 H fun v25 =>
  aCall Tryd.prog (.p (.func runnelref14_sameStack_i [])) [v25, x2] H fun v26 h27 =>
  aUn .not v26 fun v28 =>
  aGuard v28
  (K (.p (.int .i64 14)) h27)
  (K (.p (.int .i64 0)) h27))

def runnelref14_Look_lead_ann : Nat → List Nat := fun _ => []

theorem runnelref14_Look_lead_eq (x0 x1 x2 : AV) (H : List Ob) (r : AV) (Ho : List Ob) : aBody Tryd.prog runnelref14_Look_lead_ann Tryd.f44 H [x0, x1, x2] r Ho = runnelref14_Look_lead x0 x1 x2 H (fun v H' => Gives H.length v H' r Ho) := by kernel_rfl

theorem runnelref14_Look_lead_fnH {x0 x1 x2 : AV} {Hin : List Ob} {r : AV} {Ho : List Ob} (h : runnelref14_Look_lead x0 x1 x2 Hin (fun v H' => Gives Hin.length v H' r Ho)) : Abs.Fn Tryd.prog runnelref14_Look_lead_i Hin [x0, x1, x2] r Ho :=
  fn_intro mixed runnelref14_Look_lead_ann (fn := Tryd.f44) (by kernel_rfl) (by kernel_rfl) (by rw [runnelref14_Look_lead_eq]; exact h)

theorem runnelref14_Look_lead_fn {x0 x1 x2 : AV} {r : AV} {Ho : List Ob} (h : runnelref14_Look_lead x0 x1 x2 [] (fun v H' => Gives 0 v H' r Ho)) : Abs.Fn Tryd.prog runnelref14_Look_lead_i [] [x0, x1, x2] r Ho := runnelref14_Look_lead_fnH (Hin := []) h

/- runnel/runnelref14.number -/
def runnelref14_number_L1 (q1s0 q1s3 y0 : AV) (H : List Ob) (B1 : List AV → List Ob → Prop) (K : AV → List Ob → Prop) : Prop :=
  aLen false false q1s3 fun v2 =>
  aBin false false .lss y0 v2 fun v3 =>
  aGuard v3
  (aIndexAddr 1 q1s3 y0 fun v4 =>
  aLoad false 1 v4 H fun v5 =>
  aBin false false .eql v5 q1s0 fun v6 =>
  aGuard v6
  (aBin false false .add y0 (.p (.int .i64 1)) fun v7 =>
  K v7 H)
  (aBin false false .add y0 (.p (.int .i64 1)) fun v8 =>
  B1 [v8] H))
  (K (.p (.int .i64 0)) H)

def runnelref14_number (x0 : AV) (H : List Ob) (K : AV → List Ob → Prop) : Prop :=
  aCall Tryd.prog (.p (.func runnelref14_Ops_i [])) [] H fun v0 h1 =>
  aLoopN 1 [(.p (.int .i64 0))] h1 fun xs H B1 => runnelref14_number_L1 x0 v0 (xs.getD 0 .top) H B1 K

def runnelref14_number_ann : Nat → List Nat := fun k => match k with | 3 => [4] | _ => []

theorem runnelref14_number_eq (x0 : AV) (H : List Ob) (r : AV) (Ho : List Ob) : aBody Tryd.prog runnelref14_number_ann Tryd.f58 H [x0] r Ho = runnelref14_number x0 H (fun v H' => Gives H.length v H' r Ho) := by kernel_rfl

theorem runnelref14_number_fnH {x0 : AV} {Hin : List Ob} {r : AV} {Ho : List Ob} (h : runnelref14_number x0 Hin (fun v H' => Gives Hin.length v H' r Ho)) : Abs.Fn Tryd.prog runnelref14_number_i Hin [x0] r Ho :=
  fn_intro mixed runnelref14_number_ann (fn := Tryd.f58) (by kernel_rfl) (by kernel_rfl) (by rw [runnelref14_number_eq]; exact h)

theorem runnelref14_number_fn {x0 : AV} {r : AV} {Ho : List Ob} (h : runnelref14_number x0 [] (fun v H' => Gives 0 v H' r Ho)) : Abs.Fn Tryd.prog runnelref14_number_i [] [x0] r Ho := runnelref14_number_fnH (Hin := []) h

/- runnel/runnelref14.counted -/
def runnelref14_counted (x0 : AV) (H : List Ob) (K : AV → List Ob → Prop) : Prop :=
  aBin false false .eql x0 (.p (.str [97, 116])) fun v0 =>
  aMerge false v0 (fun Q1 =>
  aBin false false .eql x0 (.p (.str [116, 117, 112])) fun v2 =>
  (H = H ∧ Q1 v2)) fun v3 =>
  aMerge false v3 (fun Q4 =>
  aBin false false .eql x0 (.p (.str [106, 109, 112])) fun v5 =>
  (H = H ∧ Q4 v5)) fun v6 =>
  aMerge false v6 (fun Q7 =>
  aBin false false .eql x0 (.p (.str [106, 102])) fun v8 =>
  (H = H ∧ Q7 v8)) fun v9 =>
  aMerge false v9 (fun Q10 =>
  aBin false false .eql x0 (.p (.str [101, 109, 105, 116])) fun v11 =>
  (H = H ∧ Q10 v11)) fun v12 =>
  K v12 H

def runnelref14_counted_ann : Nat → List Nat := fun _ => []

theorem runnelref14_counted_eq (x0 : AV) (H : List Ob) (r : AV) (Ho : List Ob) : aBody Tryd.prog runnelref14_counted_ann Tryd.f59 H [x0] r Ho = runnelref14_counted x0 H (fun v H' => Gives H.length v H' r Ho) := by kernel_rfl

theorem runnelref14_counted_fnH {x0 : AV} {Hin : List Ob} {r : AV} {Ho : List Ob} (h : runnelref14_counted x0 Hin (fun v H' => Gives Hin.length v H' r Ho)) : Abs.Fn Tryd.prog runnelref14_counted_i Hin [x0] r Ho :=
  fn_intro mixed runnelref14_counted_ann (fn := Tryd.f59) (by kernel_rfl) (by kernel_rfl) (by rw [runnelref14_counted_eq]; exact h)

theorem runnelref14_counted_fn {x0 : AV} {r : AV} {Ho : List Ob} (h : runnelref14_counted x0 [] (fun v H' => Gives 0 v H' r Ho)) : Abs.Fn Tryd.prog runnelref14_counted_i [] [x0] r Ho := runnelref14_counted_fnH (Hin := []) h

/- runnel/runnelref14.nought -/
def runnelref14_nought (x0 : AV) (H : List Ob) (K : AV → List Ob → Prop) : Prop :=
  aBox x0 H fun v0 h1 =>
  aFieldAddr 0 v0 fun v2 =>
  aLoad false 1 v2 h1 fun v3 =>
  aBin false false .eql v3 (.p (.int .i64 0)) fun v4 =>
  aMerge true v4 (fun Q5 =>
  aFieldAddr 1 v0 fun v6 =>
  aLoad false 1 v6 h1 fun v7 =>
  aBin false false .eql v7 (.p (.int .i64 0)) fun v8 =>
  (h1 = h1 ∧ Q5 v8)) fun v9 =>
  aMerge true v9 (fun Q10 =>
  aFieldAddr 2 v0 fun v11 =>
  aLoad false 1 v11 h1 fun v12 =>
  aUn .not v12 fun v13 =>
  (h1 = h1 ∧ Q10 v13)) fun v14 =>
  aMerge true v14 (fun Q15 =>
  aFieldAddr 3 v0 fun v16 =>
  aLoad false 1 v16 h1 fun v17 =>
  aBin false false .eql v17 (.p (.str [])) fun v18 =>
  (h1 = h1 ∧ Q15 v18)) fun v19 =>
  aMerge true v19 (fun Q20 =>
  aFieldAddr 4 v0 fun v21 =>
  aLoad false 1 v21 h1 fun v22 =>
  aLenS false v22 fun v23 =>
  aBin false false .eql v23 (.p (.int .i64 0)) fun v24 =>
  (h1 = h1 ∧ Q20 v24)) fun v25 =>
  K v25 h1

def runnelref14_nought_ann : Nat → List Nat := fun _ => []

theorem runnelref14_nought_eq (x0 : AV) (H : List Ob) (r : AV) (Ho : List Ob) : aBody Tryd.prog runnelref14_nought_ann Tryd.f60 H [x0] r Ho = runnelref14_nought x0 H (fun v H' => Gives H.length v H' r Ho) := by kernel_rfl

theorem runnelref14_nought_fnH {x0 : AV} {Hin : List Ob} {r : AV} {Ho : List Ob} (h : runnelref14_nought x0 Hin (fun v H' => Gives Hin.length v H' r Ho)) : Abs.Fn Tryd.prog runnelref14_nought_i Hin [x0] r Ho :=
  fn_intro mixed runnelref14_nought_ann (fn := Tryd.f60) (by kernel_rfl) (by kernel_rfl) (by rw [runnelref14_nought_eq]; exact h)

theorem runnelref14_nought_fn {x0 : AV} {r : AV} {Ho : List Ob} (h : runnelref14_nought x0 [] (fun v H' => Gives 0 v H' r Ho)) : Abs.Fn Tryd.prog runnelref14_nought_i [] [x0] r Ho := runnelref14_nought_fnH (Hin := []) h

/- runnel/runnelref14.sameStack -/
def runnelref14_sameStack_L1 (q1s0 q1s1 y0 : AV) (H : List Ob) (B1 : List AV → List Ob → Prop) (K : AV → List Ob → Prop) : Prop :=
  aLen false false q1s0 fun v3 =>
  aBin false false .lss y0 v3 fun v4 =>
  aGuard v4
  (aIndexAddr 2 q1s0 y0 fun v5 =>
  aLoad true 2 v5 H fun v6 =>
  aIndexAddr 2 q1s1 y0 fun v7 =>
  aLoad true 2 v7 H fun v8 =>
  aCallT Tryd.prog (.p (.func runnelref6_SameType_i [])) [v6, v8] fun v9 =>
  aUn .not v9 fun v10 =>
  aGuard v10
  (K (.p (.bool false)) H)
  (aBin false false .add y0 (.p (.int .i64 1)) fun v11 =>
  B1 [v11] H))
  (K (.p (.bool true)) H)

def runnelref14_sameStack (x0 x1 : AV) (H : List Ob) (K : AV → List Ob → Prop) : Prop :=
  aLen false false x0 fun v0 =>
  aLen false false x1 fun v1 =>
  aBin false false .neq v0 v1 fun v2 =>
  aGuard v2
  (K (.p (.bool false)) H)
  (aLoopN 1 [(.p (.int .i64 0))] H fun xs H B1 => runnelref14_sameStack_L1 x0 x1 (xs.getD 0 .top) H B1 K)

def runnelref14_sameStack_ann : Nat → List Nat := fun k => match k with | 4 => [5] | _ => []

theorem runnelref14_sameStack_eq (x0 x1 : AV) (H : List Ob) (r : AV) (Ho : List Ob) : aBody Tryd.prog runnelref14_sameStack_ann Tryd.f64 H [x0, x1] r Ho = runnelref14_sameStack x0 x1 H (fun v H' => Gives H.length v H' r Ho) := by kernel_rfl

theorem runnelref14_sameStack_fnH {x0 x1 : AV} {Hin : List Ob} {r : AV} {Ho : List Ob} (h : runnelref14_sameStack x0 x1 Hin (fun v H' => Gives Hin.length v H' r Ho)) : Abs.Fn Tryd.prog runnelref14_sameStack_i Hin [x0, x1] r Ho :=
  fn_intro mixed runnelref14_sameStack_ann (fn := Tryd.f64) (by kernel_rfl) (by kernel_rfl) (by rw [runnelref14_sameStack_eq]; exact h)

theorem runnelref14_sameStack_fn {x0 x1 : AV} {r : AV} {Ho : List Ob} (h : runnelref14_sameStack x0 x1 [] (fun v H' => Gives 0 v H' r Ho)) : Abs.Fn Tryd.prog runnelref14_sameStack_i [] [x0, x1] r Ho := runnelref14_sameStack_fnH (Hin := []) h

/- runnel/runnelref14.Ops -/
def runnelref14_Ops (H : List Ob) (K : AV → List Ob → Prop) : Prop :=
  aBuildSlice 1 [(.p (.str [112, 117, 115, 104])), (.p (.str [120])), (.p (.str [97, 116])), (.p (.str [116, 117, 112])), (.p (.str [110, 101, 103])), (.p (.str [110, 111, 116])), (.p (.str [108, 101, 110])), (.p (.str [97, 100, 100])), (.p (.str [115, 117, 98])), (.p (.str [109, 117, 108])), (.p (.str [100, 105, 118])), (.p (.str [114, 101, 109])), (.p (.str [101, 113])), (.p (.str [108, 116])), (.p (.str [99, 97, 116])), (.p (.str [106, 109, 112])), (.p (.str [106, 102])), (.p (.str [101, 109, 105, 116])), (.p (.str [114, 101, 116]))] fun v0 =>
  K v0 H

def runnelref14_Ops_ann : Nat → List Nat := fun _ => []

theorem runnelref14_Ops_eq (H : List Ob) (r : AV) (Ho : List Ob) : aBody Tryd.prog runnelref14_Ops_ann Tryd.f73 H [] r Ho = runnelref14_Ops H (fun v H' => Gives H.length v H' r Ho) := by kernel_rfl

theorem runnelref14_Ops_fnH {Hin : List Ob} {r : AV} {Ho : List Ob} (h : runnelref14_Ops Hin (fun v H' => Gives Hin.length v H' r Ho)) : Abs.Fn Tryd.prog runnelref14_Ops_i Hin [] r Ho :=
  fn_intro mixed runnelref14_Ops_ann (fn := Tryd.f73) (by kernel_rfl) (by kernel_rfl) (by rw [runnelref14_Ops_eq]; exact h)

theorem runnelref14_Ops_fn {r : AV} {Ho : List Ob} (h : runnelref14_Ops [] (fun v H' => Gives 0 v H' r Ho)) : Abs.Fn Tryd.prog runnelref14_Ops_i [] [] r Ho := runnelref14_Ops_fnH (Hin := []) h

end Go.Proofs.YtcdkdmjedkhpiaaDoor
end

section
/- Made by program (Gen.lean): functions of the dump, over trees. -/
set_option maxRecDepth 4000
set_option linter.unusedVariables false
namespace Go.Proofs.YtcdkdmjedkhpiaaDoor
open Go Go.Abs

/- runnel/runnelref14.Verify -/
def runnelref14_Verify_L1 (q1s0 q1s3 q1s4 q1s9 y0 : AV) (H : List Ob) (B1 : List AV → List Ob → Prop) (K : AV → List Ob → Prop) : Prop :=
  aLen false false q1s0 fun v36 =>
  aBin false false .lss y0 v36 fun v37 =>
  aGuard v37
  (aNilCheck q1s9 fun v38 =>
  aFieldAddr 1 v38 fun v39 =>
  aLoad false 1 v39 H fun v40 =>
  aIndexAddr 1 v40 y0 fun v41 =>
  aLoad false 1 v41 H fun v42 =>
  aUn .not v42 fun v43 =>
  aGuard v43
  (aBin false false .add y0 (.p (.int .i64 1)) fun v44 =>
  B1 [v44] H)
  (aLoad true 2 q1s3 H fun v45 =>
  aCall Tryd.prog (.p (.func runnelref14_Look_step_i [])) [q1s9, q1s0, y0, v45] H fun v46 h47 =>
  aBin false false .neq v46 (.p (.int .i64 0)) fun v48 =>
  aGuard v48
  (aBuild [(.p (.int .i64 0)), (.full [])] [] fun v49 =>
  aStore 2 q1s4 v49 h47 fun _ h51 =>
  aLoad true 2 q1s4 h51 fun v52 =>
  K (.tup [v52, y0, v46]) h51)
  (aBin false false .add y0 (.p (.int .i64 1)) fun v53 =>
  B1 [v53] h47)))
  (aNilCheck q1s9 fun v54 =>
  aFieldAddr 2 v54 fun v55 =>
  aLoad true 2 v55 H fun v56 =>
  aStore 2 q1s4 v56 H fun _ h58 =>
  aLoad true 2 q1s4 h58 fun v59 =>
  K (.tup [v59, (.p (.int .i64 0)), (.p (.int .i64 0))]) h58)

def runnelref14_Verify_L2 (q2s0 q2s3 q2s4 q2s9 y0 : AV) (H : List Ob) (B2 : List AV → List Ob → Prop) (K : AV → List Ob → Prop) : Prop :=
  aLen false false q2s0 fun v73 =>
  aBin false false .lss y0 v73 fun v74 =>
  aGuard v74
  (aNilCheck q2s9 fun v75 =>
  aFieldAddr 1 v75 fun v76 =>
  aLoad false 1 v76 H fun v77 =>
  aIndexAddr 1 v77 y0 fun v78 =>
  aLoad false 1 v78 H fun v79 =>
  aUn .not v79 fun v80 =>
  aGuard v80
  (aBin false false .add y0 (.p (.int .i64 1)) fun v81 =>
  B2 [v81] H)
  (aLoad true 2 q2s3 H fun v82 =>
  aCall Tryd.prog (.p (.func runnelref14_Look_step_i [])) [q2s9, q2s0, y0, v82] H fun v83 h84 =>
  aBin false false .neq v83 (.p (.int .i64 0)) fun v85 =>
  aGuard v85
  (aBuild [(.p (.int .i64 0)), (.full [])] [] fun v86 =>
  aStore 2 q2s4 v86 h84 fun _ h88 =>
  aLoad true 2 q2s4 h88 fun v89 =>
  K (.tup [v89, y0, v83]) h88)
  (aBin false false .add y0 (.p (.int .i64 1)) fun v90 =>
  B2 [v90] h84)))
  (aNilCheck q2s9 fun v91 =>
  aFieldAddr 2 v91 fun v92 =>
  aLoad true 2 v92 H fun v93 =>
  aStore 2 q2s4 v93 H fun _ h95 =>
  aLoad true 2 q2s4 h95 fun v96 =>
  K (.tup [v96, (.p (.int .i64 0)), (.p (.int .i64 0))]) h95)

def runnelref14_Verify (x0 x1 : AV) (H : List Ob) (K : AV → List Ob → Prop) : Prop :=
  aBox x1 H fun v0 h1 =>
  aAlloc [(.p (.int .i64 0)), (.full [])] h1 fun v2 h3 =>
  aCall Tryd.prog (.p (.func runnelref14_Check_i [])) [x0] h3 fun v4 h5 =>
  aExtract v4 0 fun v6 =>
  aExtract v4 1 fun v7 =>
  aBin false false .neq v7 (.p (.int .i64 0)) fun v8 =>
  aGuard v8
  (aBuild [(.p (.int .i64 0)), (.full [])] [] fun v9 =>
  aStore 2 v2 v9 h5 fun _ h11 =>
  aLoad true 2 v2 h11 fun v12 =>
  K (.tup [v12, v6, v7]) h11)
  (aLoad true 2 v0 h5 fun v13 =>
  aCall Tryd.prog (.p (.func runnelref6_CheckType_i [])) [v13] h5 fun v14 h15 =>
  aBin false false .neq v14 (.p (.int .i64 0)) fun v16 =>
  aGuard v16
  (aBuild [(.p (.int .i64 0)), (.full [])] [] fun v17 =>
  aStore 2 v2 v17 h15 fun _ h19 =>
  aLoad true 2 v2 h19 fun v20 =>
  K (.tup [v20, (.p (.int .i64 0)), (.p (.int .i64 5))]) h19)
  (aLen true false x0 fun v21 =>
  aLen true false x0 fun v22 =>
  (aMake 1 [(.full [])] v21 v21 h15 fun v23 h24 =>
  aMake 1 [(.p (.bool false))] v22 v22 h24 fun v25 h26 =>
  aBuild [(.full []), (.full []), (.p (.int .i64 0)), (.full [])] [(0, 1, v23), (1, 1, v25)] fun v27 =>
  aBox v27 h26 fun v28 h29 =>
  aNilCheck v28 fun v30 =>
  aFieldAddr 1 v30 fun v31 =>
  aLoad false 1 v31 h29 fun v32 =>
  aIndexAddr 1 v32 (.p (.int .i64 0)) fun v33 =>
  aStore 1 v33 (.p (.bool true)) h29 fun _ h35 =>
  aLoopN 1 [(.p (.int .i64 0))] h35 fun xs H B1 => runnelref14_Verify_L1 x0 v0 v2 v28 (xs.getD 0 .top) H B1 K) ∧
  (aMake 1 [(.p (.bool false))] v22 v22 h15 fun v60 h61 =>
  aMake 1 [(.full [])] v21 v21 h61 fun v62 h63 =>
  aBuild [(.full []), (.full []), (.p (.int .i64 0)), (.full [])] [(0, 1, v62), (1, 1, v60)] fun v64 =>
  aBox v64 h63 fun v65 h66 =>
  aNilCheck v65 fun v67 =>
  aFieldAddr 1 v67 fun v68 =>
  aLoad false 1 v68 h66 fun v69 =>
  aIndexAddr 1 v69 (.p (.int .i64 0)) fun v70 =>
  aStore 1 v70 (.p (.bool true)) h66 fun _ h72 =>
  aLoopN 1 [(.p (.int .i64 0))] h72 fun xs H B2 => runnelref14_Verify_L2 x0 v0 v2 v65 (xs.getD 0 .top) H B2 K)))

def runnelref14_Verify_ann : Nat → List Nat := fun k => match k with | 9 => [10] | 3000006 => [1000] | _ => []

theorem runnelref14_Verify_eq (x0 x1 : AV) (H : List Ob) (r : AV) (Ho : List Ob) : aBody Tryd.prog runnelref14_Verify_ann Tryd.f11 H [x0, x1] r Ho = runnelref14_Verify x0 x1 H (fun v H' => Gives H.length v H' r Ho) := by kernel_rfl

theorem runnelref14_Verify_fnH {x0 x1 : AV} {Hin : List Ob} {r : AV} {Ho : List Ob} (h : runnelref14_Verify x0 x1 Hin (fun v H' => Gives Hin.length v H' r Ho)) : Abs.Fn Tryd.prog runnelref14_Verify_i Hin [x0, x1] r Ho :=
  fn_intro mixed runnelref14_Verify_ann (fn := Tryd.f11) (by kernel_rfl) (by kernel_rfl) (by rw [runnelref14_Verify_eq]; exact h)

theorem runnelref14_Verify_fn {x0 x1 : AV} {r : AV} {Ho : List Ob} (h : runnelref14_Verify x0 x1 [] (fun v H' => Gives 0 v H' r Ho)) : Abs.Fn Tryd.prog runnelref14_Verify_i [] [x0, x1] r Ho := runnelref14_Verify_fnH (Hin := []) h

end Go.Proofs.YtcdkdmjedkhpiaaDoor
end

section
/- Made by program (Gen.lean): functions of the dump, over trees. -/
set_option maxRecDepth 4000
set_option linter.unusedVariables false
namespace Go.Proofs.YtcdkdmjedkhpiaaDoor
open Go Go.Abs

/- runnel/runnellaw13.VerAny -/
def runnellaw13_VerAny (x0 x1 : AV) (H : List Ob) (K : AV → List Ob → Prop) : Prop :=
  aBox x1 H fun v0 h1 =>
  aCall Tryd.prog (.p (.func runnellaw13_known_i [])) [] h1 fun v2 h3 =>
  aUn .not v2 fun v4 =>
  aGuard v4
  (K (.p (.bool false)) h3)
  (aCall Tryd.prog (.p (.func runnellaw11_Few_i [])) [x0] h3 fun v5 h6 =>
  aUn .not v5 fun v7 =>
  aMerge false v7 (fun Q8 =>
  aLoad true 2 v0 h6 fun v9 =>
  aCall Tryd.prog (.p (.func runnellaw1_Few_i [])) [v9] h6 fun v10 h11 =>
  aUn .not v10 fun v12 =>
  (h11 = h6 ∧ Q8 v12)) fun v13 =>
  aGuard v13
  (K (.p (.bool true)) h6)
  (aLoad true 2 v0 h6 fun v14 =>
  aCall Tryd.prog (.p (.func ver_Check_i [])) [x0, v14] h6 fun v15 h16 =>
  aExtract v15 0 fun v17 =>
  aExtract v15 1 fun v18 =>
  aExtract v15 2 fun v19 =>
  aAlloc [(.p (.int .i64 0)), (.full [])] h16 fun v20 h21 =>
  aStore 2 v20 v17 h21 fun _ h23 =>
  aAlloc [(.p (.int .i64 0)), (.full [])] h23 fun v24 h25 =>
  aCallT Tryd.prog (.p (.func runnellaw11_Of_i [])) [x0] fun v26 =>
  aLoad true 2 v0 h25 fun v27 =>
  aCallT Tryd.prog (.p (.func runnellaw1_Of_i [])) [v27] fun v28 =>
  aCallT Tryd.prog (.p (.func runnelref14_Verify_i [])) [v26, v28] fun v29 =>
  aExtract v29 0 fun v30 =>
  aExtract v29 1 fun v31 =>
  aExtract v29 2 fun v32 =>
  aStore 2 v24 v30 h25 fun _ h34 =>
  aBin false false .eql v19 v32 fun v35 =>
  aGuard v35
  (aBin false false .eql v18 v31 fun v36 =>
  aGuard v36
  (aLoad true 2 v20 h34 fun v37 =>
  aCallT Tryd.prog (.p (.func runnellaw1_Of_i [])) [v37] fun v38 =>
  aLoad true 2 v24 h34 fun v39 =>
  aCallT Tryd.prog (.p (.func runnelref6_SameType_i [])) [v38, v39] fun v40 =>
  K v40 h34)
  (K (.p (.bool false)) h34))
  (K (.p (.bool false)) h34)))

def runnellaw13_VerAny_ann : Nat → List Nat := fun _ => []

theorem runnellaw13_VerAny_eq (x0 x1 : AV) (H : List Ob) (r : AV) (Ho : List Ob) : aBody Tryd.prog runnellaw13_VerAny_ann Tryd.f3 H [x0, x1] r Ho = runnellaw13_VerAny x0 x1 H (fun v H' => Gives H.length v H' r Ho) := by kernel_rfl

theorem runnellaw13_VerAny_fnH {x0 x1 : AV} {Hin : List Ob} {r : AV} {Ho : List Ob} (h : runnellaw13_VerAny x0 x1 Hin (fun v H' => Gives Hin.length v H' r Ho)) : Abs.Fn Tryd.prog runnellaw13_VerAny_i Hin [x0, x1] r Ho :=
  fn_intro mixed runnellaw13_VerAny_ann (fn := Tryd.f3) (by kernel_rfl) (by kernel_rfl) (by rw [runnellaw13_VerAny_eq]; exact h)

theorem runnellaw13_VerAny_fn {x0 x1 : AV} {r : AV} {Ho : List Ob} (h : runnellaw13_VerAny x0 x1 [] (fun v H' => Gives 0 v H' r Ho)) : Abs.Fn Tryd.prog runnellaw13_VerAny_i [] [x0, x1] r Ho := runnellaw13_VerAny_fnH (Hin := []) h

/- runnel/runnellaw13.VerStack -/
def runnellaw13_VerStack_L2 (q2s5 q2s8 y0 y1 : AV) (H : List Ob) (B2 : List AV → List Ob → Prop) (K : AV → List Ob → Prop) : Prop :=
  aBin false false .lss y1 q2s8 fun v11 =>
  aGuard v11
  (aBuild [(.p (.str [])), (.p (.int .i64 0)), (.p (.int .i64 0)), (.p (.bool false)), (.p (.str [])), (.full []), (.p (.int .i64 0))] [(0, 1, (.p (.str [101, 109, 105, 116]))), (6, 1, (.p (.int .i64 1)))] fun v12 =>
  aBuildSlice 7 [v12] fun v13 =>
  aAppend false 7 88 y0 v13 H fun v14 h15 =>
  aBin false false .add y1 (.p (.int .i64 1)) fun v16 =>
  B2 [v14, v16] h15)
  (aBuild [(.p (.str [])), (.p (.int .i64 0)), (.p (.int .i64 0)), (.p (.bool false)), (.p (.str [])), (.full []), (.p (.int .i64 0))] [(0, 1, (.p (.str [114, 101, 116])))] fun v17 =>
  aBuildSlice 7 [v17] fun v18 =>
  aAppend false 7 88 y0 v18 H fun v19 h20 =>
  aBuild [(.p (.int .i64 0)), (.full [])] [(0, 1, (.p (.int .i64 1)))] fun v21 =>
  aCall Tryd.prog (.p (.func ver_Check_i [])) [v19, v21] h20 fun v22 h23 =>
  aExtract v22 0 fun v24 =>
  aExtract v22 1 fun v25 =>
  aExtract v22 2 fun v26 =>
  aAlloc [(.p (.int .i64 0)), (.full [])] h23 fun v27 h28 =>
  aStore 2 v27 v24 h28 fun _ h30 =>
  aBin false false .gtr q2s5 (.p (.int .i64 128)) fun v31 =>
  aGuard v31
  (aBin false false .eql v26 (.p (.int .i64 12)) fun v32 =>
  aMerge true v32 (fun Q33 =>
  aBin false false .eql v25 (.p (.int .i64 128)) fun v34 =>
  (h30 = h30 ∧ Q33 v34)) fun v35 =>
  K v35 h30)
  (aBin false false .gtr q2s8 q2s5 fun v36 =>
  aGuard v36
  (aBin false false .eql v26 (.p (.int .i64 12)) fun v37 =>
  aMerge true v37 (fun Q38 =>
  aBin false false .add q2s5 q2s5 fun v39 =>
  aBin false false .eql v25 v39 fun v40 =>
  (h30 = h30 ∧ Q38 v40)) fun v41 =>
  K v41 h30)
  (aBin false false .lss q2s8 q2s5 fun v42 =>
  aGuard v42
  (aBin false false .eql v26 (.p (.int .i64 12)) fun v43 =>
  aMerge true v43 (fun Q44 =>
  aLenS false v19 fun v45 =>
  aBin false false .sub v45 (.p (.int .i64 1)) fun v46 =>
  aBin false false .eql v25 v46 fun v47 =>
  (h30 = h30 ∧ Q44 v47)) fun v48 =>
  K v48 h30)
  (aBin false false .eql v26 (.p (.int .i64 0)) fun v49 =>
  K v49 h30))))

def runnellaw13_VerStack_L1 (q1s1 q1s5 y0 y1 : AV) (H : List Ob) (B1 : List AV → List Ob → Prop) (K : AV → List Ob → Prop) : Prop :=
  aBin false false .lss y1 q1s5 fun v4 =>
  aGuard v4
  (aBuild [(.p (.str [])), (.p (.int .i64 0)), (.p (.int .i64 0)), (.p (.bool false)), (.p (.str [])), (.full []), (.p (.int .i64 0))] [(0, 1, (.p (.str [120])))] fun v5 =>
  aBuildSlice 7 [v5] fun v6 =>
  aAppend false 7 88 y0 v6 H fun v7 h8 =>
  aBin false false .add y1 (.p (.int .i64 1)) fun v9 =>
  B1 [v7, v9] h8)
  (aConvInt .i64 q1s1 fun v10 =>
  aLoopN 2 [y0, (.p (.int .i64 0))] H fun xs H B2 => runnellaw13_VerStack_L2 q1s5 v10 (xs.getD 0 .top) (xs.getD 1 .top) H B2 K)

def runnellaw13_VerStack (x0 x1 : AV) (H : List Ob) (K : AV → List Ob → Prop) : Prop :=
  aCall Tryd.prog (.p (.func runnellaw13_known_i [])) [] H fun v0 h1 =>
  aUn .not v0 fun v2 =>
  aGuard v2
  (K (.p (.bool false)) h1)
  (aConvInt .i64 x0 fun v3 =>
  aLoopN 2 [(.full []), (.p (.int .i64 0))] h1 fun xs H B1 => runnellaw13_VerStack_L1 x1 v3 (xs.getD 0 .top) (xs.getD 1 .top) H B1 K)

def runnellaw13_VerStack_ann : Nat → List Nat := fun k => match k with | 6 => [6, 7] | 11 => [6, 9] | _ => []

theorem runnellaw13_VerStack_eq (x0 x1 : AV) (H : List Ob) (r : AV) (Ho : List Ob) : aBody Tryd.prog runnellaw13_VerStack_ann Tryd.f4 H [x0, x1] r Ho = runnellaw13_VerStack x0 x1 H (fun v H' => Gives H.length v H' r Ho) := by kernel_rfl

theorem runnellaw13_VerStack_fnH {x0 x1 : AV} {Hin : List Ob} {r : AV} {Ho : List Ob} (h : runnellaw13_VerStack x0 x1 Hin (fun v H' => Gives Hin.length v H' r Ho)) : Abs.Fn Tryd.prog runnellaw13_VerStack_i Hin [x0, x1] r Ho :=
  fn_intro mixed runnellaw13_VerStack_ann (fn := Tryd.f4) (by kernel_rfl) (by kernel_rfl) (by rw [runnellaw13_VerStack_eq]; exact h)

theorem runnellaw13_VerStack_fn {x0 x1 : AV} {r : AV} {Ho : List Ob} (h : runnellaw13_VerStack x0 x1 [] (fun v H' => Gives 0 v H' r Ho)) : Abs.Fn Tryd.prog runnellaw13_VerStack_i [] [x0, x1] r Ho := runnellaw13_VerStack_fnH (Hin := []) h

/- runnel/runnellaw13.VerMeets -/
def runnellaw13_VerMeets (x0 x1 : AV) (H : List Ob) (K : AV → List Ob → Prop) : Prop :=
  aBox x0 H fun v0 h1 =>
  aBox x1 h1 fun v2 h3 =>
  aCall Tryd.prog (.p (.func runnellaw13_known_i [])) [] h3 fun v4 h5 =>
  aUn .not v4 fun v6 =>
  aGuard v6
  (K (.p (.bool false)) h5)
  (aLoad true 5 v0 h5 fun v7 =>
  aBuild [(.p (.str [])), (.p (.int .i64 0)), (.p (.int .i64 0)), (.p (.bool false)), (.p (.str [])), (.full []), (.p (.int .i64 0))] [(1, 5, v7)] fun v8 =>
  aLoad true 5 v2 h5 fun v9 =>
  aBuild [(.p (.str [])), (.p (.int .i64 0)), (.p (.int .i64 0)), (.p (.bool false)), (.p (.str [])), (.full []), (.p (.int .i64 0))] [(1, 5, v9)] fun v10 =>
  aBuildSlice 7 [v8, v10] fun v11 =>
  aCall Tryd.prog (.p (.func runnellaw11_Few_i [])) [v11] h5 fun v12 h13 =>
  aUn .not v12 fun v14 =>
  aMerge false v14 (fun Q15 =>
  aLoad true 5 v0 h13 fun v16 =>
  aCall Tryd.prog (.p (.func val_Check_i [])) [v16] h13 fun v17 h18 =>
  aBin false false .neq v17 (.p (.int .i64 0)) fun v19 =>
  (h18 = h13 ∧ Q15 v19)) fun v20 =>
  aMerge false v20 (fun Q21 =>
  aLoad true 5 v2 h13 fun v22 =>
  aCall Tryd.prog (.p (.func val_Check_i [])) [v22] h13 fun v23 h24 =>
  aBin false false .neq v23 (.p (.int .i64 0)) fun v25 =>
  (h24 = h13 ∧ Q21 v25)) fun v26 =>
  aGuard v26
  (K (.p (.bool true)) h13)
  (aBuild [(.p (.str [])), (.p (.int .i64 0)), (.p (.int .i64 0)), (.p (.bool false)), (.p (.str [])), (.full []), (.p (.int .i64 0))] [(0, 1, (.p (.str [120])))] fun v27 =>
  aBuild [(.p (.str [])), (.p (.int .i64 0)), (.p (.int .i64 0)), (.p (.bool false)), (.p (.str [])), (.full []), (.p (.int .i64 0))] [(0, 1, (.p (.str [106, 102]))), (6, 1, (.p (.int .i64 4)))] fun v28 =>
  aLoad true 5 v0 h13 fun v29 =>
  aBuild [(.p (.str [])), (.p (.int .i64 0)), (.p (.int .i64 0)), (.p (.bool false)), (.p (.str [])), (.full []), (.p (.int .i64 0))] [(0, 1, (.p (.str [112, 117, 115, 104]))), (1, 5, v29)] fun v30 =>
  aBuild [(.p (.str [])), (.p (.int .i64 0)), (.p (.int .i64 0)), (.p (.bool false)), (.p (.str [])), (.full []), (.p (.int .i64 0))] [(0, 1, (.p (.str [106, 109, 112]))), (6, 1, (.p (.int .i64 5)))] fun v31 =>
  aLoad true 5 v2 h13 fun v32 =>
  aBuild [(.p (.str [])), (.p (.int .i64 0)), (.p (.int .i64 0)), (.p (.bool false)), (.p (.str [])), (.full []), (.p (.int .i64 0))] [(0, 1, (.p (.str [112, 117, 115, 104]))), (1, 5, v32)] fun v33 =>
  aBuild [(.p (.str [])), (.p (.int .i64 0)), (.p (.int .i64 0)), (.p (.bool false)), (.p (.str [])), (.full []), (.p (.int .i64 0))] [(0, 1, (.p (.str [101, 109, 105, 116]))), (6, 1, (.p (.int .i64 1)))] fun v34 =>
  aBuild [(.p (.str [])), (.p (.int .i64 0)), (.p (.int .i64 0)), (.p (.bool false)), (.p (.str [])), (.full []), (.p (.int .i64 0))] [(0, 1, (.p (.str [114, 101, 116])))] fun v35 =>
  aBuildSlice 7 [v27, v28, v30, v31, v33, v34, v35] fun v36 =>
  aBuild [(.p (.int .i64 0)), (.full [])] [(0, 1, (.p (.int .i64 2)))] fun v37 =>
  aCall Tryd.prog (.p (.func ver_Check_i [])) [v36, v37] h13 fun v38 h39 =>
  aExtract v38 0 fun v40 =>
  aExtract v38 1 fun v41 =>
  aExtract v38 2 fun v42 =>
  aAlloc [(.p (.int .i64 0)), (.full [])] h39 fun v43 h44 =>
  aStore 2 v43 v40 h44 fun _ h46 =>
  aLoad true 5 v0 h46 fun v47 =>
  aCallT Tryd.prog (.p (.func val_TypeOf_i [])) [v47] fun v48 =>
  aLoad true 5 v2 h46 fun v49 =>
  aCallT Tryd.prog (.p (.func val_TypeOf_i [])) [v49] fun v50 =>
  aCallT Tryd.prog (.p (.func runnellaw4_SameT_i [])) [v48, v50] fun v51 =>
  aGuard v51
  (aBin false false .eql v42 (.p (.int .i64 0)) fun v52 =>
  aGuard v52
  (aLoad true 2 v43 h46 fun v53 =>
  aLoad true 5 v0 h46 fun v54 =>
  aCallT Tryd.prog (.p (.func val_TypeOf_i [])) [v54] fun v55 =>
  aCallT Tryd.prog (.p (.func runnellaw4_SameT_i [])) [v53, v55] fun v56 =>
  K v56 h46)
  (K (.p (.bool false)) h46))
  (aBin false false .eql v42 (.p (.int .i64 14)) fun v57 =>
  aMerge true v57 (fun Q58 =>
  aBin false false .eql v41 (.p (.int .i64 4)) fun v59 =>
  (h46 = h46 ∧ Q58 v59)) fun v60 =>
  K v60 h46)))

def runnellaw13_VerMeets_ann : Nat → List Nat := fun _ => []

theorem runnellaw13_VerMeets_eq (x0 x1 : AV) (H : List Ob) (r : AV) (Ho : List Ob) : aBody Tryd.prog runnellaw13_VerMeets_ann Tryd.f5 H [x0, x1] r Ho = runnellaw13_VerMeets x0 x1 H (fun v H' => Gives H.length v H' r Ho) := by kernel_rfl

theorem runnellaw13_VerMeets_fnH {x0 x1 : AV} {Hin : List Ob} {r : AV} {Ho : List Ob} (h : runnellaw13_VerMeets x0 x1 Hin (fun v H' => Gives Hin.length v H' r Ho)) : Abs.Fn Tryd.prog runnellaw13_VerMeets_i Hin [x0, x1] r Ho :=
  fn_intro mixed runnellaw13_VerMeets_ann (fn := Tryd.f5) (by kernel_rfl) (by kernel_rfl) (by rw [runnellaw13_VerMeets_eq]; exact h)

theorem runnellaw13_VerMeets_fn {x0 x1 : AV} {r : AV} {Ho : List Ob} (h : runnellaw13_VerMeets x0 x1 [] (fun v H' => Gives 0 v H' r Ho)) : Abs.Fn Tryd.prog runnellaw13_VerMeets_i [] [x0, x1] r Ho := runnellaw13_VerMeets_fnH (Hin := []) h

/- runnel/runnellaw13.VerEmits -/
def runnellaw13_VerEmits_L1 (q1s3 q1s4 q1s8 y0 y1 : AV) (H : List Ob) (B1 : List AV → List Ob → Prop) (K : AV → List Ob → Prop) : Prop :=
  aBin false false .lss y1 q1s8 fun v29 =>
  aGuard v29
  (aLoad true 5 q1s3 H fun v30 =>
  aBuild [(.p (.str [])), (.p (.int .i64 0)), (.p (.int .i64 0)), (.p (.bool false)), (.p (.str [])), (.full []), (.p (.int .i64 0))] [(0, 1, (.p (.str [112, 117, 115, 104]))), (1, 5, v30)] fun v31 =>
  aBuild [(.p (.str [])), (.p (.int .i64 0)), (.p (.int .i64 0)), (.p (.bool false)), (.p (.str [])), (.full []), (.p (.int .i64 0))] [(0, 1, (.p (.str [101, 109, 105, 116]))), (6, 1, (.p (.int .i64 1)))] fun v32 =>
  aBuildSlice 7 [v31, v32] fun v33 =>
  aAppend false 7 88 y0 v33 H fun v34 h35 =>
  aBin false false .add y1 (.p (.int .i64 1)) fun v36 =>
  B1 [v34, v36] h35)
  (aLoad true 5 q1s4 H fun v37 =>
  aBuild [(.p (.str [])), (.p (.int .i64 0)), (.p (.int .i64 0)), (.p (.bool false)), (.p (.str [])), (.full []), (.p (.int .i64 0))] [(0, 1, (.p (.str [112, 117, 115, 104]))), (1, 5, v37)] fun v38 =>
  aBuild [(.p (.str [])), (.p (.int .i64 0)), (.p (.int .i64 0)), (.p (.bool false)), (.p (.str [])), (.full []), (.p (.int .i64 0))] [(0, 1, (.p (.str [101, 109, 105, 116]))), (6, 1, (.p (.int .i64 1)))] fun v39 =>
  aBuild [(.p (.str [])), (.p (.int .i64 0)), (.p (.int .i64 0)), (.p (.bool false)), (.p (.str [])), (.full []), (.p (.int .i64 0))] [(0, 1, (.p (.str [114, 101, 116])))] fun v40 =>
  aBuildSlice 7 [v38, v39, v40] fun v41 =>
  aAppend false 7 88 y0 v41 H fun v42 h43 =>
  aBuild [(.p (.int .i64 0)), (.full [])] [(0, 1, (.p (.int .i64 1)))] fun v44 =>
  aCall Tryd.prog (.p (.func ver_Check_i [])) [v42, v44] h43 fun v45 h46 =>
  aExtract v45 0 fun v47 =>
  aExtract v45 1 fun v48 =>
  aExtract v45 2 fun v49 =>
  aAlloc [(.p (.int .i64 0)), (.full [])] h46 fun v50 h51 =>
  aStore 2 v50 v47 h51 fun _ h53 =>
  aBuild [(.p (.str [])), (.p (.int .i64 0)), (.p (.int .i64 0)), (.p (.bool false)), (.p (.str [])), (.full []), (.p (.int .i64 0))] [(0, 1, (.p (.str [101, 109, 105, 116])))] fun v54 =>
  aBuild [(.p (.str [])), (.p (.int .i64 0)), (.p (.int .i64 0)), (.p (.bool false)), (.p (.str [])), (.full []), (.p (.int .i64 0))] [(0, 1, (.p (.str [114, 101, 116])))] fun v55 =>
  aBuildSlice 7 [v54, v55] fun v56 =>
  aBuild [(.p (.int .i64 0)), (.full [])] [(0, 1, (.p (.int .i64 1)))] fun v57 =>
  aCall Tryd.prog (.p (.func ver_Check_i [])) [v56, v57] h53 fun v58 h59 =>
  aExtract v58 0 fun v60 =>
  aExtract v58 1 fun _ =>
  aExtract v58 2 fun v62 =>
  aAlloc [(.p (.int .i64 0)), (.full [])] h59 fun v63 h64 =>
  aStore 2 v63 v60 h64 fun _ h66 =>
  aBin false false .neq v62 (.p (.int .i64 0)) fun v67 =>
  aMerge false v67 (fun Q68 =>
  aFieldAddr 0 v63 fun v69 =>
  aLoad false 1 v69 h66 fun v70 =>
  aBin false false .neq v70 (.p (.int .i64 0)) fun v71 =>
  (h66 = h66 ∧ Q68 v71)) fun v72 =>
  aGuard v72
  (K (.p (.bool false)) h66)
  (aBin false false .gtr q1s8 (.p (.int .i64 0)) fun v73 =>
  aMerge true v73 (fun Q74 =>
  aFieldAddr 0 q1s3 fun v75 =>
  aLoad false 1 v75 h66 fun v76 =>
  aFieldAddr 0 q1s4 fun v77 =>
  aLoad false 1 v77 h66 fun v78 =>
  aBin false false .neq v76 v78 fun v79 =>
  (h66 = h66 ∧ Q74 v79)) fun v80 =>
  aGuard v80
  (aBin false false .eql v49 (.p (.int .i64 5)) fun v81 =>
  aMerge true v81 (fun Q82 =>
  aBin false false .mul (.p (.int .i64 2)) q1s8 fun v83 =>
  aBin false false .add v83 (.p (.int .i64 1)) fun v84 =>
  aBin false false .eql v48 v84 fun v85 =>
  (h66 = h66 ∧ Q82 v85)) fun v86 =>
  aMerge true v86 (fun Q87 =>
  aFieldAddr 0 v50 fun v88 =>
  aLoad false 1 v88 h66 fun v89 =>
  aBin false false .eql v89 (.p (.int .i64 0)) fun v90 =>
  (h66 = h66 ∧ Q87 v90)) fun v91 =>
  K v91 h66)
  (aBin false false .eql v49 (.p (.int .i64 0)) fun v92 =>
  aMerge true v92 (fun Q93 =>
  aFieldAddr 0 v50 fun v94 =>
  aLoad false 1 v94 h66 fun v95 =>
  aFieldAddr 0 q1s4 fun v96 =>
  aLoad false 1 v96 h66 fun v97 =>
  aBin false false .eql v95 v97 fun v98 =>
  (h66 = h66 ∧ Q93 v98)) fun v99 =>
  K v99 h66)))

def runnellaw13_VerEmits (x0 x1 x2 : AV) (H : List Ob) (K : AV → List Ob → Prop) : Prop :=
  aBox x0 H fun v0 h1 =>
  aBox x1 h1 fun v2 h3 =>
  aCall Tryd.prog (.p (.func runnellaw13_known_i [])) [] h3 fun v4 h5 =>
  aUn .not v4 fun v6 =>
  aGuard v6
  (K (.p (.bool false)) h5)
  (aFieldAddr 4 v0 fun v7 =>
  aLoad false 1 v7 h5 fun v8 =>
  aLen false false v8 fun v9 =>
  aFieldAddr 4 v2 fun v10 =>
  aLoad false 1 v10 h5 fun v11 =>
  aLen false false v11 fun v12 =>
  aBin false false .add v9 v12 fun v13 =>
  aBin false false .gtr v13 (.p (.int .i64 0)) fun v14 =>
  aMerge false v14 (fun Q15 =>
  aLoad true 5 v0 h5 fun v16 =>
  aCall Tryd.prog (.p (.func val_Check_i [])) [v16] h5 fun v17 h18 =>
  aBin false false .neq v17 (.p (.int .i64 0)) fun v19 =>
  (h18 = h5 ∧ Q15 v19)) fun v20 =>
  aMerge false v20 (fun Q21 =>
  aLoad true 5 v2 h5 fun v22 =>
  aCall Tryd.prog (.p (.func val_Check_i [])) [v22] h5 fun v23 h24 =>
  aBin false false .neq v23 (.p (.int .i64 0)) fun v25 =>
  (h24 = h5 ∧ Q21 v25)) fun v26 =>
  aGuard v26
  (K (.p (.bool true)) h5)
  (aBin false false .rem x2 (.p (.int .u8 4)) fun v27 =>
  aConvInt .i64 v27 fun v28 =>
  aLoopN 2 [(.full []), (.p (.int .i64 0))] h5 fun xs H B1 => runnellaw13_VerEmits_L1 v0 v2 v28 (xs.getD 0 .top) (xs.getD 1 .top) H B1 K))

def runnellaw13_VerEmits_ann : Nat → List Nat := fun k => match k with | 8 => [7, 9] | _ => []

theorem runnellaw13_VerEmits_eq (x0 x1 x2 : AV) (H : List Ob) (r : AV) (Ho : List Ob) : aBody Tryd.prog runnellaw13_VerEmits_ann Tryd.f6 H [x0, x1, x2] r Ho = runnellaw13_VerEmits x0 x1 x2 H (fun v H' => Gives H.length v H' r Ho) := by kernel_rfl

theorem runnellaw13_VerEmits_fnH {x0 x1 x2 : AV} {Hin : List Ob} {r : AV} {Ho : List Ob} (h : runnellaw13_VerEmits x0 x1 x2 Hin (fun v H' => Gives Hin.length v H' r Ho)) : Abs.Fn Tryd.prog runnellaw13_VerEmits_i Hin [x0, x1, x2] r Ho :=
  fn_intro mixed runnellaw13_VerEmits_ann (fn := Tryd.f6) (by kernel_rfl) (by kernel_rfl) (by rw [runnellaw13_VerEmits_eq]; exact h)

theorem runnellaw13_VerEmits_fn {x0 x1 x2 : AV} {r : AV} {Ho : List Ob} (h : runnellaw13_VerEmits x0 x1 x2 [] (fun v H' => Gives 0 v H' r Ho)) : Abs.Fn Tryd.prog runnellaw13_VerEmits_i [] [x0, x1, x2] r Ho := runnellaw13_VerEmits_fnH (Hin := []) h

/- runnel/runnellaw13.known -/
def runnellaw13_known (H : List Ob) (K : AV → List Ob → Prop) : Prop :=
  aBuild [(.p (.int .i64 0)), (.full [])] [(0, 1, (.p (.int .i64 1)))] fun v0 =>
  aAlloc [(.p (.int .i64 0)), (.full [])] H fun v1 h2 =>
  aStore 2 v1 v0 h2 fun _ h4 =>
  aAlloc [(.p (.int .i64 0)), (.full [])] h4 fun v5 h6 =>
  aBuild [(.p (.str [])), (.p (.int .i64 0)), (.p (.int .i64 0)), (.p (.bool false)), (.p (.str [])), (.full []), (.p (.int .i64 0))] [(0, 1, (.p (.str [120])))] fun v7 =>
  aCallT Tryd.prog (.p (.func val_Int_i [])) [(.p (.int .i64 1))] fun v8 =>
  aBuild [(.p (.str [])), (.p (.int .i64 0)), (.p (.int .i64 0)), (.p (.bool false)), (.p (.str [])), (.full []), (.p (.int .i64 0))] [(0, 1, (.p (.str [112, 117, 115, 104]))), (1, 5, v8)] fun v9 =>
  aBuild [(.p (.str [])), (.p (.int .i64 0)), (.p (.int .i64 0)), (.p (.bool false)), (.p (.str [])), (.full []), (.p (.int .i64 0))] [(0, 1, (.p (.str [108, 116])))] fun v10 =>
  aBuild [(.p (.str [])), (.p (.int .i64 0)), (.p (.int .i64 0)), (.p (.bool false)), (.p (.str [])), (.full []), (.p (.int .i64 0))] [(0, 1, (.p (.str [101, 109, 105, 116]))), (6, 1, (.p (.int .i64 1)))] fun v11 =>
  aBuild [(.p (.str [])), (.p (.int .i64 0)), (.p (.int .i64 0)), (.p (.bool false)), (.p (.str [])), (.full []), (.p (.int .i64 0))] [(0, 1, (.p (.str [114, 101, 116])))] fun v12 =>
  aBuildSlice 7 [v7, v9, v10, v11, v12] fun v13 =>
  aLoad true 2 v1 h6 fun v14 =>
  aCallT Tryd.prog (.p (.func ver_Check_i [])) [v13, v14] fun v15 =>
  aExtract v15 0 fun v16 =>
  aExtract v15 1 fun _ =>
  aExtract v15 2 fun v18 =>
  aStore 2 v5 v16 h6 fun _ h20 =>
  aBuild [(.p (.str [])), (.p (.int .i64 0)), (.p (.int .i64 0)), (.p (.bool false)), (.p (.str [])), (.full []), (.p (.int .i64 0))] [(0, 1, (.p (.str [120])))] fun v21 =>
  aBuild [(.p (.str [])), (.p (.int .i64 0)), (.p (.int .i64 0)), (.p (.bool false)), (.p (.str [])), (.full []), (.p (.int .i64 0))] [(0, 1, (.p (.str [97, 100, 100])))] fun v22 =>
  aBuild [(.p (.str [])), (.p (.int .i64 0)), (.p (.int .i64 0)), (.p (.bool false)), (.p (.str [])), (.full []), (.p (.int .i64 0))] [(0, 1, (.p (.str [114, 101, 116])))] fun v23 =>
  aBuildSlice 7 [v21, v22, v23] fun v24 =>
  aLoad true 2 v1 h20 fun v25 =>
  aCall Tryd.prog (.p (.func ver_Check_i [])) [v24, v25] h20 fun v26 h27 =>
  aExtract v26 0 fun v28 =>
  aExtract v26 1 fun v29 =>
  aExtract v26 2 fun v30 =>
  aAlloc [(.p (.int .i64 0)), (.full [])] h27 fun v31 h32 =>
  aStore 2 v31 v28 h32 fun _ h34 =>
  aBuild [(.p (.str [])), (.p (.int .i64 0)), (.p (.int .i64 0)), (.p (.bool false)), (.p (.str [])), (.full []), (.p (.int .i64 0))] [(0, 1, (.p (.str [120])))] fun v35 =>
  aBuild [(.p (.str [])), (.p (.int .i64 0)), (.p (.int .i64 0)), (.p (.bool false)), (.p (.str [])), (.full []), (.p (.int .i64 0))] [(0, 1, (.p (.str [114, 101, 116])))] fun v36 =>
  aBuildSlice 7 [v35, v36] fun v37 =>
  aLoad true 2 v1 h34 fun v38 =>
  aCall Tryd.prog (.p (.func ver_Check_i [])) [v37, v38] h34 fun v39 h40 =>
  aExtract v39 0 fun v41 =>
  aExtract v39 1 fun v42 =>
  aExtract v39 2 fun v43 =>
  aAlloc [(.p (.int .i64 0)), (.full [])] h40 fun v44 h45 =>
  aStore 2 v44 v41 h45 fun _ h47 =>
  aBin false false .eql v18 (.p (.int .i64 0)) fun v48 =>
  aMerge true v48 (fun Q49 =>
  aFieldAddr 0 v5 fun v50 =>
  aLoad false 1 v50 h47 fun v51 =>
  aBin false false .eql v51 (.p (.int .i64 2)) fun v52 =>
  (h47 = h47 ∧ Q49 v52)) fun v53 =>
  aMerge true v53 (fun Q54 =>
  aBin false false .eql v30 (.p (.int .i64 12)) fun v55 =>
  (h47 = h47 ∧ Q54 v55)) fun v56 =>
  aMerge true v56 (fun Q57 =>
  aBin false false .eql v29 (.p (.int .i64 1)) fun v58 =>
  (h47 = h47 ∧ Q57 v58)) fun v59 =>
  aMerge true v59 (fun Q60 =>
  aBin false false .eql v43 (.p (.int .i64 12)) fun v61 =>
  (h47 = h47 ∧ Q60 v61)) fun v62 =>
  aMerge true v62 (fun Q63 =>
  aBin false false .eql v42 (.p (.int .i64 1)) fun v64 =>
  (h47 = h47 ∧ Q63 v64)) fun v65 =>
  K v65 h47

def runnellaw13_known_ann : Nat → List Nat := fun _ => []

theorem runnellaw13_known_eq (H : List Ob) (r : AV) (Ho : List Ob) : aBody Tryd.prog runnellaw13_known_ann Tryd.f7 H [] r Ho = runnellaw13_known H (fun v H' => Gives H.length v H' r Ho) := by kernel_rfl

theorem runnellaw13_known_fnH {Hin : List Ob} {r : AV} {Ho : List Ob} (h : runnellaw13_known Hin (fun v H' => Gives Hin.length v H' r Ho)) : Abs.Fn Tryd.prog runnellaw13_known_i Hin [] r Ho :=
  fn_intro mixed runnellaw13_known_ann (fn := Tryd.f7) (by kernel_rfl) (by kernel_rfl) (by rw [runnellaw13_known_eq]; exact h)

theorem runnellaw13_known_fn {r : AV} {Ho : List Ob} (h : runnellaw13_known [] (fun v H' => Gives 0 v H' r Ho)) : Abs.Fn Tryd.prog runnellaw13_known_i [] [] r Ho := runnellaw13_known_fnH (Hin := []) h

end Go.Proofs.YtcdkdmjedkhpiaaDoor
end
