/- Made by program (Gen.lean): functions of the dump, over trees. -/
import Derived.Test.YtjendohiohhciaaS1

section
/- Made by program (Gen.lean): functions of the dump, over trees. -/
set_option maxRecDepth 4000
set_option linter.unusedVariables false
namespace Go.Proofs.Ytjendohiohhciaa
open Go Go.Abs

/- runnel/vm.Run -/
def vm_Run_J1 (j1s6 j1s7 j1s8 j1s37 : AV) (H : List Ob) (B1 : List AV → List Ob → Prop) (K : AV → List Ob → Prop) : Prop :=
  aGuard j1s37
  (aFieldAddr 6 j1s8 fun v20 =>
  aLoad false 1 v20 H fun v21 =>
  aBin false false .sub v21 (.p (.int .i64 1)) fun v22 =>
  aBin false false .add v22 (.p (.int .i64 1)) fun v23 =>
  B1 [v23] H)
  (aFieldAddr 0 j1s8 fun v24 =>
  aLoad false 1 v24 H fun v25 =>
  aBin false false .eql v25 (.p (.str [106, 102])) fun v26 =>
  aGuard v26
  (aBin false false .add j1s7 (.p (.int .i64 1)) fun v27 =>
  B1 [v27] H)
  (aLoad true 7 j1s8 H fun v28 =>
  aCall Try.prog (.p (.func vm_machine_does_i [])) [j1s6, v28] H fun v29 h30 =>
  aBin false false .neq v29 (.p (.int .i64 0)) fun v31 =>
  aGuard v31
  (K (.tup [(.full []), v29]) h30)
  (aBin false false .add j1s7 (.p (.int .i64 1)) fun v32 =>
  B1 [v32] h30)))

def vm_Run_L1 (q1s0 q1s6 y0 : AV) (H : List Ob) (B1 : List AV → List Ob → Prop) (K : AV → List Ob → Prop) : Prop :=
  aLen false false q1s0 fun v6 =>
  aBin false false .lss y0 v6 fun v7 =>
  aGuard v7
  (aIndexAddr 7 q1s0 y0 fun v8 =>
  aLoad true 7 v8 H fun v9 =>
  aAlloc [(.p (.str [])), (.p (.int .i64 0)), (.p (.int .i64 0)), (.p (.bool false)), (.p (.str [])), (.full []), (.p (.int .i64 0))] H fun v10 h11 =>
  aStore 7 v10 v9 h11 fun _ h13 =>
  aFieldAddr 0 v10 fun v14 =>
  aLoad false 1 v14 h13 fun v15 =>
  aBin false false .eql v15 (.p (.str [114, 101, 116])) fun v16 =>
  aGuard v16
  (aNilCheck q1s6 fun v17 =>
  aFieldAddr 6 v17 fun v18 =>
  aLoad false 1 v18 h13 fun v19 =>
  K (.tup [v19, (.p (.int .i64 0))]) h13)
  (aFieldAddr 0 v10 fun v33 =>
  aLoad false 1 v33 h13 fun v34 =>
  aBin false false .eql v34 (.p (.str [106, 109, 112])) fun v35 =>
  aGuard v35
  (vm_Run_J1 q1s6 y0 v10 (.p (.bool true)) h13 B1 K)
  (aFieldAddr 0 v10 fun v36 =>
  aLoad false 1 v36 h13 fun v37 =>
  aBin false false .eql v37 (.p (.str [106, 102])) fun v38 =>
  aGuard v38
  (aNilCheck q1s6 fun v39 =>
  aFieldAddr 5 v39 fun v40 =>
  aCall Try.prog (.p (.func vm_stack_val_Value_pop_i [])) [v40, (.p (.int .i64 1))] h13 fun v41 h42 =>
  aIndexAddr 5 v41 (.p (.int .i64 0)) fun v43 =>
  aFieldAddr 2 v43 fun v44 =>
  aLoad false 1 v44 h42 fun v45 =>
  aUn .not v45 fun v46 =>
  vm_Run_J1 q1s6 y0 v10 v46 h42 B1 K)
  (vm_Run_J1 q1s6 y0 v10 (.p (.bool false)) h13 B1 K))))
  (aNilCheck q1s6 fun v47 =>
  aFieldAddr 6 v47 fun v48 =>
  aLoad false 1 v48 H fun v49 =>
  K (.tup [v49, (.p (.int .i64 0))]) H)

def vm_Run (x0 x1 : AV) (H : List Ob) (K : AV → List Ob → Prop) : Prop :=
  aBox x1 H fun v0 h1 =>
  aLoad true 5 v0 h1 fun v2 =>
  aBuild [(.p (.int .i64 0)), (.p (.int .i64 0)), (.p (.bool false)), (.p (.str [])), (.full []), (.full []), (.full [])] [(0, 5, v2)] fun v3 =>
  aBox v3 h1 fun v4 h5 =>
  aLoopN 1 [(.p (.int .i64 0))] h5 fun xs H B1 => vm_Run_L1 x0 v4 (xs.getD 0 .top) H B1 K

def vm_Run_ann : Nat → List Nat := fun k => match k with | 3 => [7] | 3000012 => [1000] | _ => []

theorem vm_Run_eq (x0 x1 : AV) (H : List Ob) (r : AV) (Ho : List Ob) : aBody Try.prog vm_Run_ann Try.f35 H [x0, x1] r Ho = vm_Run x0 x1 H (fun v H' => Gives H.length v H' r Ho) := by kernel_rfl

theorem vm_Run_fnH {x0 x1 : AV} {Hin : List Ob} {r : AV} {Ho : List Ob} (h : vm_Run x0 x1 Hin (fun v H' => Gives Hin.length v H' r Ho)) : Abs.Fn Try.prog vm_Run_i Hin [x0, x1] r Ho :=
  fn_intro mixed vm_Run_ann (fn := Try.f35) (by kernel_rfl) (by kernel_rfl) (by rw [vm_Run_eq]; exact h)

theorem vm_Run_fn {x0 x1 : AV} {r : AV} {Ho : List Ob} (h : vm_Run x0 x1 [] (fun v H' => Gives 0 v H' r Ho)) : Abs.Fn Try.prog vm_Run_i [] [x0, x1] r Ho := vm_Run_fnH (Hin := []) h

/- runnel/runnellaw14.made -/
def runnellaw14_made (x0 : AV) (H : List Ob) (K : AV → List Ob → Prop) : Prop :=
  aBox x0 H fun v0 h1 =>
  aLoad true 15 v0 h1 fun v2 =>
  aCall Try.prog (.p (.func runnellaw7_Of_i [])) [v2] h1 fun v3 h4 =>
  aCall Try.prog (.p (.func runnelref14_Gen_i [])) [v3] h4 fun v5 h6 =>
  aCall Try.prog (.p (.func runnellaw11_To_i [])) [v5] h6 fun v7 h8 =>
  K v7 h8

def runnellaw14_made_ann : Nat → List Nat := fun _ => []

theorem runnellaw14_made_eq (x0 : AV) (H : List Ob) (r : AV) (Ho : List Ob) : aBody Try.prog runnellaw14_made_ann Try.f38 H [x0] r Ho = runnellaw14_made x0 H (fun v H' => Gives H.length v H' r Ho) := by kernel_rfl

theorem runnellaw14_made_fnH {x0 : AV} {Hin : List Ob} {r : AV} {Ho : List Ob} (h : runnellaw14_made x0 Hin (fun v H' => Gives Hin.length v H' r Ho)) : Abs.Fn Try.prog runnellaw14_made_i Hin [x0] r Ho :=
  fn_intro mixed runnellaw14_made_ann (fn := Try.f38) (by kernel_rfl) (by kernel_rfl) (by rw [runnellaw14_made_eq]; exact h)

theorem runnellaw14_made_fn {x0 : AV} {r : AV} {Ho : List Ob} (h : runnellaw14_made x0 [] (fun v H' => Gives 0 v H' r Ho)) : Abs.Fn Try.prog runnellaw14_made_i [] [x0] r Ho := runnellaw14_made_fnH (Hin := []) h

/- (*runnel/vm.stack[runnel/val.Value]).pop -/
def vm_stack_val_Value_pop (x0 x1 : AV) (H : List Ob) (K : AV → List Ob → Prop) : Prop :=
  aNilCheck x0 fun v0 =>
  aLoad false 1 v0 H fun v1 =>
  aLen false false v1 fun v2 =>
  aBin false false .sub v2 x1 fun v3 =>
  aNilCheck x0 fun v4 =>
  aLoad false 1 v4 H fun v5 =>
  aSlice false 5 v5 (some v3) none none fun v6 =>
  aCall Try.prog (.p (.func slices_Clone_vm_stack_val_Value_val_Value_i [])) [v6] H fun v7 h8 =>
  aNilCheck x0 fun v9 =>
  aLoad false 1 v9 h8 fun v10 =>
  aSlice false 5 v10 none (some v3) none fun v11 =>
  aNilCheck x0 fun v12 =>
  aStore 1 v12 v11 h8 fun _ h14 =>
  K v7 h14

def vm_stack_val_Value_pop_ann : Nat → List Nat := fun _ => []

theorem vm_stack_val_Value_pop_eq (x0 x1 : AV) (H : List Ob) (r : AV) (Ho : List Ob) : aBody Try.prog vm_stack_val_Value_pop_ann Try.f69 H [x0, x1] r Ho = vm_stack_val_Value_pop x0 x1 H (fun v H' => Gives H.length v H' r Ho) := by kernel_rfl

theorem vm_stack_val_Value_pop_fnH {x0 x1 : AV} {Hin : List Ob} {r : AV} {Ho : List Ob} (h : vm_stack_val_Value_pop x0 x1 Hin (fun v H' => Gives Hin.length v H' r Ho)) : Abs.Fn Try.prog vm_stack_val_Value_pop_i Hin [x0, x1] r Ho :=
  fn_intro mixed vm_stack_val_Value_pop_ann (fn := Try.f69) (by kernel_rfl) (by kernel_rfl) (by rw [vm_stack_val_Value_pop_eq]; exact h)

theorem vm_stack_val_Value_pop_fn {x0 x1 : AV} {r : AV} {Ho : List Ob} (h : vm_stack_val_Value_pop x0 x1 [] (fun v H' => Gives 0 v H' r Ho)) : Abs.Fn Try.prog vm_stack_val_Value_pop_i [] [x0, x1] r Ho := vm_stack_val_Value_pop_fnH (Hin := []) h

/- (*runnel/vm.machine).does -/
def vm_machine_does (x0 x1 : AV) (H : List Ob) (K : AV → List Ob → Prop) : Prop :=
  aBox x1 H fun v0 h1 =>
  aFieldAddr 0 v0 fun v2 =>
  aLoad false 1 v2 h1 fun v3 =>
  aBin false false .eql v3 (.p (.str [112, 117, 115, 104])) fun v4 =>
  aGuard v4
  (aNilCheck x0 fun v5 =>
  aFieldAddr 5 v5 fun v6 =>
  aFieldAddr 1 v0 fun v7 =>
  aLoad true 5 v7 h1 fun v8 =>
  aCall Try.prog (.p (.func vm_stack_val_Value_push_i [])) [v6, v8] h1 fun _ h10 =>
  K (.p (.int .i64 0)) h10)
  (aBin false false .eql v3 (.p (.str [120])) fun v11 =>
  aGuard v11
  (aNilCheck x0 fun v12 =>
  aFieldAddr 5 v12 fun v13 =>
  aNilCheck x0 fun v14 =>
  aFieldAddr 0 v14 fun v15 =>
  aLoad true 5 v15 h1 fun v16 =>
  aCall Try.prog (.p (.func vm_stack_val_Value_push_i [])) [v13, v16] h1 fun _ h18 =>
  K (.p (.int .i64 0)) h18)
  (aBin false false .eql v3 (.p (.str [97, 116])) fun v19 =>
  aGuard v19
  (aNilCheck x0 fun v20 =>
  aFieldAddr 5 v20 fun v21 =>
  aNilCheck x0 fun v22 =>
  aFieldAddr 5 v22 fun v23 =>
  aFieldAddr 6 v0 fun v24 =>
  (aCall Try.prog (.p (.func vm_stack_val_Value_pop_i [])) [v23, (.p (.int .i64 1))] h1 fun v25 h26 =>
  aIndexAddr 5 v25 (.p (.int .i64 0)) fun v27 =>
  aFieldAddr 4 v27 fun v28 =>
  (aLoad false 1 v28 h26 fun v29 =>
  aLoad false 1 v24 h26 fun v30 =>
  aIndexAddr 5 v29 v30 fun v31 =>
  aLoad true 5 v31 h26 fun v32 =>
  aCall Try.prog (.p (.func vm_stack_val_Value_push_i [])) [v21, v32] h26 fun _ h34 =>
  K (.p (.int .i64 0)) h34) ∧
  (aLoad false 1 v24 h26 fun v35 =>
  aLoad false 1 v28 h26 fun v36 =>
  aIndexAddr 5 v36 v35 fun v37 =>
  aLoad true 5 v37 h26 fun v38 =>
  aCall Try.prog (.p (.func vm_stack_val_Value_push_i [])) [v21, v38] h26 fun _ h40 =>
  K (.p (.int .i64 0)) h40)) ∧
  (aLoad false 1 v24 h1 fun v41 =>
  aCall Try.prog (.p (.func vm_stack_val_Value_pop_i [])) [v23, (.p (.int .i64 1))] h1 fun v42 h43 =>
  aIndexAddr 5 v42 (.p (.int .i64 0)) fun v44 =>
  aFieldAddr 4 v44 fun v45 =>
  aLoad false 1 v45 h43 fun v46 =>
  aIndexAddr 5 v46 v41 fun v47 =>
  aLoad true 5 v47 h43 fun v48 =>
  aCall Try.prog (.p (.func vm_stack_val_Value_push_i [])) [v21, v48] h43 fun _ h50 =>
  K (.p (.int .i64 0)) h50))
  (aBin false false .eql v3 (.p (.str [116, 117, 112])) fun v51 =>
  aGuard v51
  (aNilCheck x0 fun v52 =>
  aFieldAddr 5 v52 fun v53 =>
  aNilCheck x0 fun v54 =>
  aFieldAddr 5 v54 fun v55 =>
  aFieldAddr 6 v0 fun v56 =>
  aLoad false 1 v56 h1 fun v57 =>
  aCall Try.prog (.p (.func vm_stack_val_Value_pop_i [])) [v55, v57] h1 fun v58 h59 =>
  aCall Try.prog (.p (.func val_Tup_i [])) [v58] h59 fun v60 h61 =>
  aCall Try.prog (.p (.func vm_stack_val_Value_push_i [])) [v53, v60] h61 fun _ h63 =>
  K (.p (.int .i64 0)) h63)
  (aBin false false .eql v3 (.p (.str [101, 109, 105, 116])) fun v64 =>
  aGuard v64
  (aNilCheck x0 fun v65 =>
  aFieldAddr 6 v65 fun v66 =>
  aNilCheck x0 fun v67 =>
  aFieldAddr 5 v67 fun v68 =>
  aFieldAddr 6 v0 fun v69 =>
  (aLoad false 1 v66 h1 fun v70 =>
  aLoad false 1 v69 h1 fun v71 =>
  aCall Try.prog (.p (.func vm_stack_val_Value_pop_i [])) [v68, v71] h1 fun v72 h73 =>
  aAppend false 5 64 v70 v72 h73 fun v74 h75 =>
  aNilCheck x0 fun v76 =>
  aFieldAddr 6 v76 fun v77 =>
  aStore 1 v77 v74 h75 fun _ h79 =>
  K (.p (.int .i64 0)) h79) ∧
  (aLoad false 1 v69 h1 fun v80 =>
  (aLoad false 1 v66 h1 fun v81 =>
  aCall Try.prog (.p (.func vm_stack_val_Value_pop_i [])) [v68, v80] h1 fun v82 h83 =>
  aAppend false 5 64 v81 v82 h83 fun v84 h85 =>
  aNilCheck x0 fun v86 =>
  aFieldAddr 6 v86 fun v87 =>
  aStore 1 v87 v84 h85 fun _ h89 =>
  K (.p (.int .i64 0)) h89) ∧
  (aCall Try.prog (.p (.func vm_stack_val_Value_pop_i [])) [v68, v80] h1 fun v90 h91 =>
  aLoad false 1 v66 h91 fun v92 =>
  aAppend false 5 64 v92 v90 h91 fun v93 h94 =>
  aNilCheck x0 fun v95 =>
  aFieldAddr 6 v95 fun v96 =>
  aStore 1 v96 v93 h94 fun _ h98 =>
  K (.p (.int .i64 0)) h98)))
  (aBin false false .eql v3 (.p (.str [110, 101, 103])) fun v99 =>
  aMerge false v99 (fun Q100 =>
  aBin false false .eql v3 (.p (.str [110, 111, 116])) fun v101 =>
  aMerge false v101 (fun Q102 =>
  aBin false false .eql v3 (.p (.str [108, 101, 110])) fun v103 =>
  (h1 = h1 ∧ Q102 v103)) fun v104 =>
  (h1 = h1 ∧ Q100 v104)) fun v105 =>
  aGuard v105
  (aFieldAddr 0 v0 fun v106 =>
  aNilCheck x0 fun v107 =>
  aFieldAddr 5 v107 fun v108 =>
  (aLoad false 1 v106 h1 fun v109 =>
  (aCall Try.prog (.p (.func vm_stack_val_Value_pop_i [])) [v108, (.p (.int .i64 1))] h1 fun v110 h111 =>
  aIndexAddr 5 v110 (.p (.int .i64 0)) fun v112 =>
  (aLoad true 5 v112 h111 fun v113 =>
  (aCall Try.prog (.p (.func eval_One_i [])) [v109, v113] h111 fun v114 h115 =>
  aExtract v114 0 fun v116 =>
  aExtract v114 1 fun _ =>
  aAlloc [(.p (.int .i64 0)), (.p (.int .i64 0)), (.p (.bool false)), (.p (.str [])), (.full [])] h115 fun v118 h119 =>
  aStore 5 v118 v116 h119 fun _ h121 =>
  aNilCheck x0 fun v122 =>
  aFieldAddr 5 v122 fun v123 =>
  aLoad true 5 v118 h121 fun v124 =>
  aCall Try.prog (.p (.func vm_stack_val_Value_push_i [])) [v123, v124] h121 fun _ h126 =>
  K (.p (.int .i64 0)) h126) ∧
  (aAlloc [(.p (.int .i64 0)), (.p (.int .i64 0)), (.p (.bool false)), (.p (.str [])), (.full [])] h111 fun v127 h128 =>
  aCall Try.prog (.p (.func eval_One_i [])) [v109, v113] h128 fun v129 h130 =>
  aExtract v129 0 fun v131 =>
  aExtract v129 1 fun _ =>
  aStore 5 v127 v131 h130 fun _ h134 =>
  aNilCheck x0 fun v135 =>
  aFieldAddr 5 v135 fun v136 =>
  aLoad true 5 v127 h134 fun v137 =>
  aCall Try.prog (.p (.func vm_stack_val_Value_push_i [])) [v136, v137] h134 fun _ h139 =>
  K (.p (.int .i64 0)) h139)) ∧
  (aAlloc [(.p (.int .i64 0)), (.p (.int .i64 0)), (.p (.bool false)), (.p (.str [])), (.full [])] h111 fun v140 h141 =>
  aLoad true 5 v112 h141 fun v142 =>
  aCall Try.prog (.p (.func eval_One_i [])) [v109, v142] h141 fun v143 h144 =>
  aExtract v143 0 fun v145 =>
  aExtract v143 1 fun _ =>
  aStore 5 v140 v145 h144 fun _ h148 =>
  aNilCheck x0 fun v149 =>
  aFieldAddr 5 v149 fun v150 =>
  aLoad true 5 v140 h148 fun v151 =>
  aCall Try.prog (.p (.func vm_stack_val_Value_push_i [])) [v150, v151] h148 fun _ h153 =>
  K (.p (.int .i64 0)) h153)) ∧
  (aAlloc [(.p (.int .i64 0)), (.p (.int .i64 0)), (.p (.bool false)), (.p (.str [])), (.full [])] h1 fun v154 h155 =>
  aCall Try.prog (.p (.func vm_stack_val_Value_pop_i [])) [v108, (.p (.int .i64 1))] h155 fun v156 h157 =>
  aIndexAddr 5 v156 (.p (.int .i64 0)) fun v158 =>
  aLoad true 5 v158 h157 fun v159 =>
  aCall Try.prog (.p (.func eval_One_i [])) [v109, v159] h157 fun v160 h161 =>
  aExtract v160 0 fun v162 =>
  aExtract v160 1 fun _ =>
  aStore 5 v154 v162 h161 fun _ h165 =>
  aNilCheck x0 fun v166 =>
  aFieldAddr 5 v166 fun v167 =>
  aLoad true 5 v154 h165 fun v168 =>
  aCall Try.prog (.p (.func vm_stack_val_Value_push_i [])) [v167, v168] h165 fun _ h170 =>
  K (.p (.int .i64 0)) h170)) ∧
  (aCall Try.prog (.p (.func vm_stack_val_Value_pop_i [])) [v108, (.p (.int .i64 1))] h1 fun v171 h172 =>
  aIndexAddr 5 v171 (.p (.int .i64 0)) fun v173 =>
  (aLoad false 1 v106 h172 fun v174 =>
  (aLoad true 5 v173 h172 fun v175 =>
  (aCall Try.prog (.p (.func eval_One_i [])) [v174, v175] h172 fun v176 h177 =>
  aExtract v176 0 fun v178 =>
  aExtract v176 1 fun _ =>
  aAlloc [(.p (.int .i64 0)), (.p (.int .i64 0)), (.p (.bool false)), (.p (.str [])), (.full [])] h177 fun v180 h181 =>
  aStore 5 v180 v178 h181 fun _ h183 =>
  aNilCheck x0 fun v184 =>
  aFieldAddr 5 v184 fun v185 =>
  aLoad true 5 v180 h183 fun v186 =>
  aCall Try.prog (.p (.func vm_stack_val_Value_push_i [])) [v185, v186] h183 fun _ h188 =>
  K (.p (.int .i64 0)) h188) ∧
  (aAlloc [(.p (.int .i64 0)), (.p (.int .i64 0)), (.p (.bool false)), (.p (.str [])), (.full [])] h172 fun v189 h190 =>
  aCall Try.prog (.p (.func eval_One_i [])) [v174, v175] h190 fun v191 h192 =>
  aExtract v191 0 fun v193 =>
  aExtract v191 1 fun _ =>
  aStore 5 v189 v193 h192 fun _ h196 =>
  aNilCheck x0 fun v197 =>
  aFieldAddr 5 v197 fun v198 =>
  aLoad true 5 v189 h196 fun v199 =>
  aCall Try.prog (.p (.func vm_stack_val_Value_push_i [])) [v198, v199] h196 fun _ h201 =>
  K (.p (.int .i64 0)) h201)) ∧
  (aAlloc [(.p (.int .i64 0)), (.p (.int .i64 0)), (.p (.bool false)), (.p (.str [])), (.full [])] h172 fun v202 h203 =>
  aLoad true 5 v173 h203 fun v204 =>
  aCall Try.prog (.p (.func eval_One_i [])) [v174, v204] h203 fun v205 h206 =>
  aExtract v205 0 fun v207 =>
  aExtract v205 1 fun _ =>
  aStore 5 v202 v207 h206 fun _ h210 =>
  aNilCheck x0 fun v211 =>
  aFieldAddr 5 v211 fun v212 =>
  aLoad true 5 v202 h210 fun v213 =>
  aCall Try.prog (.p (.func vm_stack_val_Value_push_i [])) [v212, v213] h210 fun _ h215 =>
  K (.p (.int .i64 0)) h215)) ∧
  (aLoad true 5 v173 h172 fun v216 =>
  (aLoad false 1 v106 h172 fun v217 =>
  (aCall Try.prog (.p (.func eval_One_i [])) [v217, v216] h172 fun v218 h219 =>
  aExtract v218 0 fun v220 =>
  aExtract v218 1 fun _ =>
  aAlloc [(.p (.int .i64 0)), (.p (.int .i64 0)), (.p (.bool false)), (.p (.str [])), (.full [])] h219 fun v222 h223 =>
  aStore 5 v222 v220 h223 fun _ h225 =>
  aNilCheck x0 fun v226 =>
  aFieldAddr 5 v226 fun v227 =>
  aLoad true 5 v222 h225 fun v228 =>
  aCall Try.prog (.p (.func vm_stack_val_Value_push_i [])) [v227, v228] h225 fun _ h230 =>
  K (.p (.int .i64 0)) h230) ∧
  (aAlloc [(.p (.int .i64 0)), (.p (.int .i64 0)), (.p (.bool false)), (.p (.str [])), (.full [])] h172 fun v231 h232 =>
  aCall Try.prog (.p (.func eval_One_i [])) [v217, v216] h232 fun v233 h234 =>
  aExtract v233 0 fun v235 =>
  aExtract v233 1 fun _ =>
  aStore 5 v231 v235 h234 fun _ h238 =>
  aNilCheck x0 fun v239 =>
  aFieldAddr 5 v239 fun v240 =>
  aLoad true 5 v231 h238 fun v241 =>
  aCall Try.prog (.p (.func vm_stack_val_Value_push_i [])) [v240, v241] h238 fun _ h243 =>
  K (.p (.int .i64 0)) h243)) ∧
  (aAlloc [(.p (.int .i64 0)), (.p (.int .i64 0)), (.p (.bool false)), (.p (.str [])), (.full [])] h172 fun v244 h245 =>
  aLoad false 1 v106 h245 fun v246 =>
  aCall Try.prog (.p (.func eval_One_i [])) [v246, v216] h245 fun v247 h248 =>
  aExtract v247 0 fun v249 =>
  aExtract v247 1 fun _ =>
  aStore 5 v244 v249 h248 fun _ h252 =>
  aNilCheck x0 fun v253 =>
  aFieldAddr 5 v253 fun v254 =>
  aLoad true 5 v244 h252 fun v255 =>
  aCall Try.prog (.p (.func vm_stack_val_Value_push_i [])) [v254, v255] h252 fun _ h257 =>
  K (.p (.int .i64 0)) h257)) ∧
  (aAlloc [(.p (.int .i64 0)), (.p (.int .i64 0)), (.p (.bool false)), (.p (.str [])), (.full [])] h172 fun v258 h259 =>
  (aLoad false 1 v106 h259 fun v260 =>
  aLoad true 5 v173 h259 fun v261 =>
  aCall Try.prog (.p (.func eval_One_i [])) [v260, v261] h259 fun v262 h263 =>
  aExtract v262 0 fun v264 =>
  aExtract v262 1 fun _ =>
  aStore 5 v258 v264 h263 fun _ h267 =>
  aNilCheck x0 fun v268 =>
  aFieldAddr 5 v268 fun v269 =>
  aLoad true 5 v258 h267 fun v270 =>
  aCall Try.prog (.p (.func vm_stack_val_Value_push_i [])) [v269, v270] h267 fun _ h272 =>
  K (.p (.int .i64 0)) h272) ∧
  (aLoad true 5 v173 h259 fun v273 =>
  aLoad false 1 v106 h259 fun v274 =>
  aCall Try.prog (.p (.func eval_One_i [])) [v274, v273] h259 fun v275 h276 =>
  aExtract v275 0 fun v277 =>
  aExtract v275 1 fun _ =>
  aStore 5 v258 v277 h276 fun _ h280 =>
  aNilCheck x0 fun v281 =>
  aFieldAddr 5 v281 fun v282 =>
  aLoad true 5 v258 h280 fun v283 =>
  aCall Try.prog (.p (.func vm_stack_val_Value_push_i [])) [v282, v283] h280 fun _ h285 =>
  K (.p (.int .i64 0)) h285))) ∧
  (aAlloc [(.p (.int .i64 0)), (.p (.int .i64 0)), (.p (.bool false)), (.p (.str [])), (.full [])] h1 fun v286 h287 =>
  (aLoad false 1 v106 h287 fun v288 =>
  aCall Try.prog (.p (.func vm_stack_val_Value_pop_i [])) [v108, (.p (.int .i64 1))] h287 fun v289 h290 =>
  aIndexAddr 5 v289 (.p (.int .i64 0)) fun v291 =>
  aLoad true 5 v291 h290 fun v292 =>
  aCall Try.prog (.p (.func eval_One_i [])) [v288, v292] h290 fun v293 h294 =>
  aExtract v293 0 fun v295 =>
  aExtract v293 1 fun _ =>
  aStore 5 v286 v295 h294 fun _ h298 =>
  aNilCheck x0 fun v299 =>
  aFieldAddr 5 v299 fun v300 =>
  aLoad true 5 v286 h298 fun v301 =>
  aCall Try.prog (.p (.func vm_stack_val_Value_push_i [])) [v300, v301] h298 fun _ h303 =>
  K (.p (.int .i64 0)) h303) ∧
  (aCall Try.prog (.p (.func vm_stack_val_Value_pop_i [])) [v108, (.p (.int .i64 1))] h287 fun v304 h305 =>
  aIndexAddr 5 v304 (.p (.int .i64 0)) fun v306 =>
  (aLoad false 1 v106 h305 fun v307 =>
  aLoad true 5 v306 h305 fun v308 =>
  aCall Try.prog (.p (.func eval_One_i [])) [v307, v308] h305 fun v309 h310 =>
  aExtract v309 0 fun v311 =>
  aExtract v309 1 fun _ =>
  aStore 5 v286 v311 h310 fun _ h314 =>
  aNilCheck x0 fun v315 =>
  aFieldAddr 5 v315 fun v316 =>
  aLoad true 5 v286 h314 fun v317 =>
  aCall Try.prog (.p (.func vm_stack_val_Value_push_i [])) [v316, v317] h314 fun _ h319 =>
  K (.p (.int .i64 0)) h319) ∧
  (aLoad true 5 v306 h305 fun v320 =>
  aLoad false 1 v106 h305 fun v321 =>
  aCall Try.prog (.p (.func eval_One_i [])) [v321, v320] h305 fun v322 h323 =>
  aExtract v322 0 fun v324 =>
  aExtract v322 1 fun _ =>
  aStore 5 v286 v324 h323 fun _ h327 =>
  aNilCheck x0 fun v328 =>
  aFieldAddr 5 v328 fun v329 =>
  aLoad true 5 v286 h327 fun v330 =>
  aCall Try.prog (.p (.func vm_stack_val_Value_push_i [])) [v329, v330] h327 fun _ h332 =>
  K (.p (.int .i64 0)) h332))))
  (aNilCheck x0 fun v333 =>
  aFieldAddr 5 v333 fun v334 =>
  aCall Try.prog (.p (.func vm_stack_val_Value_pop_i [])) [v334, (.p (.int .i64 2))] h1 fun v335 h336 =>
  aAlloc [(.p (.int .i64 0)), (.p (.int .i64 0)), (.p (.bool false)), (.p (.str [])), (.full [])] h336 fun v337 h338 =>
  aFieldAddr 0 v0 fun v339 =>
  aLoad false 1 v339 h338 fun v340 =>
  aIndexAddr 5 v335 (.p (.int .i64 0)) fun v341 =>
  aLoad true 5 v341 h338 fun v342 =>
  aIndexAddr 5 v335 (.p (.int .i64 1)) fun v343 =>
  aLoad true 5 v343 h338 fun v344 =>
  aCallT Try.prog (.p (.func eval_Both_i [])) [v340, v342, v344] fun v345 =>
  aExtract v345 0 fun v346 =>
  aExtract v345 1 fun v347 =>
  aExtract v345 2 fun _ =>
  aStore 5 v337 v346 h338 fun _ h350 =>
  aBin false false .neq v347 (.p (.int .i64 0)) fun v351 =>
  aGuard v351
  (K v347 h350)
  (aNilCheck x0 fun v352 =>
  aFieldAddr 5 v352 fun v353 =>
  aLoad true 5 v337 h350 fun v354 =>
  aCall Try.prog (.p (.func vm_stack_val_Value_push_i [])) [v353, v354] h350 fun _ h356 =>
  K (.p (.int .i64 0)) h356)))))))

def vm_machine_does_ann : Nat → List Nat := fun k => match k with | 1000019 => [1] | 1000018 => [1] | 3000008 => [1] | 3000010 => [1] | 3000012 => [1000] | 3000014 => [1000] | 3000016 => [1000] | 3000020 => [1000] | 3000021 => [1] | 3000006 => [1] | _ => []

theorem vm_machine_does_eq (x0 x1 : AV) (H : List Ob) (r : AV) (Ho : List Ob) : aBody Try.prog vm_machine_does_ann Try.f70 H [x0, x1] r Ho = vm_machine_does x0 x1 H (fun v H' => Gives H.length v H' r Ho) := by kernel_rfl

theorem vm_machine_does_fnH {x0 x1 : AV} {Hin : List Ob} {r : AV} {Ho : List Ob} (h : vm_machine_does x0 x1 Hin (fun v H' => Gives Hin.length v H' r Ho)) : Abs.Fn Try.prog vm_machine_does_i Hin [x0, x1] r Ho :=
  fn_intro mixed vm_machine_does_ann (fn := Try.f70) (by kernel_rfl) (by kernel_rfl) (by rw [vm_machine_does_eq]; exact h)

theorem vm_machine_does_fn {x0 x1 : AV} {r : AV} {Ho : List Ob} (h : vm_machine_does x0 x1 [] (fun v H' => Gives 0 v H' r Ho)) : Abs.Fn Try.prog vm_machine_does_i [] [x0, x1] r Ho := vm_machine_does_fnH (Hin := []) h

/- (*runnel/vm.stack[runnel/val.Value]).push -/
def vm_stack_val_Value_push (x0 x1 : AV) (H : List Ob) (K : AV → List Ob → Prop) : Prop :=
  aBox x1 H fun v0 h1 =>
  aNilCheck x0 fun v2 =>
  (aLoad false 1 v2 h1 fun v3 =>
  aLen true false v3 fun v4 =>
  (aLoad true 5 v0 h1 fun v5 =>
  aBuildSlice 5 [(.agg [(.p (.int .i64 0)), (.p (.int .i64 0)), (.p (.bool false)), (.p (.str [])), (.full [])])] fun v6 =>
  aAppend false 5 64 v3 v6 h1 fun v7 h8 =>
  aIndexAddr 5 v7 v4 fun v9 =>
  aNilCheck x0 fun v10 =>
  (aStore 5 v9 v5 h8 fun _ h12 =>
  aStore 1 v10 v7 h12 fun _ h14 =>
  K (.tup []) h14) ∧
  (aStore 1 v10 v7 h8 fun _ h16 =>
  aStore 5 v9 v5 h16 fun _ h18 =>
  K (.tup []) h18)) ∧
  (aBuildSlice 5 [(.agg [(.p (.int .i64 0)), (.p (.int .i64 0)), (.p (.bool false)), (.p (.str [])), (.full [])])] fun v19 =>
  aLoad true 5 v0 h1 fun v20 =>
  aAppend false 5 64 v3 v19 h1 fun v21 h22 =>
  aIndexAddr 5 v21 v4 fun v23 =>
  aNilCheck x0 fun v24 =>
  (aStore 5 v23 v20 h22 fun _ h26 =>
  aStore 1 v24 v21 h26 fun _ h28 =>
  K (.tup []) h28) ∧
  (aStore 1 v24 v21 h22 fun _ h30 =>
  aStore 5 v23 v20 h30 fun _ h32 =>
  K (.tup []) h32))) ∧
  (aLoad true 5 v0 h1 fun v33 =>
  (aLoad false 1 v2 h1 fun v34 =>
  aLen true false v34 fun v35 =>
  aBuildSlice 5 [(.agg [(.p (.int .i64 0)), (.p (.int .i64 0)), (.p (.bool false)), (.p (.str [])), (.full [])])] fun v36 =>
  aAppend false 5 64 v34 v36 h1 fun v37 h38 =>
  aIndexAddr 5 v37 v35 fun v39 =>
  aNilCheck x0 fun v40 =>
  (aStore 5 v39 v33 h38 fun _ h42 =>
  aStore 1 v40 v37 h42 fun _ h44 =>
  K (.tup []) h44) ∧
  (aStore 1 v40 v37 h38 fun _ h46 =>
  aStore 5 v39 v33 h46 fun _ h48 =>
  K (.tup []) h48)) ∧
  (aBuildSlice 5 [(.agg [(.p (.int .i64 0)), (.p (.int .i64 0)), (.p (.bool false)), (.p (.str [])), (.full [])])] fun v49 =>
  aLoad false 1 v2 h1 fun v50 =>
  aLen true false v50 fun v51 =>
  aAppend false 5 64 v50 v49 h1 fun v52 h53 =>
  aIndexAddr 5 v52 v51 fun v54 =>
  aNilCheck x0 fun v55 =>
  (aStore 5 v54 v33 h53 fun _ h57 =>
  aStore 1 v55 v52 h57 fun _ h59 =>
  K (.tup []) h59) ∧
  (aStore 1 v55 v52 h53 fun _ h61 =>
  aStore 5 v54 v33 h61 fun _ h63 =>
  K (.tup []) h63))) ∧
  (aBuildSlice 5 [(.agg [(.p (.int .i64 0)), (.p (.int .i64 0)), (.p (.bool false)), (.p (.str [])), (.full [])])] fun v64 =>
  (aLoad false 1 v2 h1 fun v65 =>
  aLen true false v65 fun v66 =>
  aLoad true 5 v0 h1 fun v67 =>
  aAppend false 5 64 v65 v64 h1 fun v68 h69 =>
  aIndexAddr 5 v68 v66 fun v70 =>
  aNilCheck x0 fun v71 =>
  (aStore 5 v70 v67 h69 fun _ h73 =>
  aStore 1 v71 v68 h73 fun _ h75 =>
  K (.tup []) h75) ∧
  (aStore 1 v71 v68 h69 fun _ h77 =>
  aStore 5 v70 v67 h77 fun _ h79 =>
  K (.tup []) h79)) ∧
  (aLoad true 5 v0 h1 fun v80 =>
  aLoad false 1 v2 h1 fun v81 =>
  aLen true false v81 fun v82 =>
  aAppend false 5 64 v81 v64 h1 fun v83 h84 =>
  aIndexAddr 5 v83 v82 fun v85 =>
  aNilCheck x0 fun v86 =>
  (aStore 5 v85 v80 h84 fun _ h88 =>
  aStore 1 v86 v83 h88 fun _ h90 =>
  K (.tup []) h90) ∧
  (aStore 1 v86 v83 h84 fun _ h92 =>
  aStore 5 v85 v80 h92 fun _ h94 =>
  K (.tup []) h94)))

def vm_stack_val_Value_push_ann : Nat → List Nat := fun k => match k with | 3000001 => [1000] | _ => []

theorem vm_stack_val_Value_push_eq (x0 x1 : AV) (H : List Ob) (r : AV) (Ho : List Ob) : aBody Try.prog vm_stack_val_Value_push_ann Try.f98 H [x0, x1] r Ho = vm_stack_val_Value_push x0 x1 H (fun v H' => Gives H.length v H' r Ho) := by kernel_rfl

theorem vm_stack_val_Value_push_fnH {x0 x1 : AV} {Hin : List Ob} {r : AV} {Ho : List Ob} (h : vm_stack_val_Value_push x0 x1 Hin (fun v H' => Gives Hin.length v H' r Ho)) : Abs.Fn Try.prog vm_stack_val_Value_push_i Hin [x0, x1] r Ho :=
  fn_intro mixed vm_stack_val_Value_push_ann (fn := Try.f98) (by kernel_rfl) (by kernel_rfl) (by rw [vm_stack_val_Value_push_eq]; exact h)

theorem vm_stack_val_Value_push_fn {x0 x1 : AV} {r : AV} {Ho : List Ob} (h : vm_stack_val_Value_push x0 x1 [] (fun v H' => Gives 0 v H' r Ho)) : Abs.Fn Try.prog vm_stack_val_Value_push_i [] [x0, x1] r Ho := vm_stack_val_Value_push_fnH (Hin := []) h

end Go.Proofs.Ytjendohiohhciaa
end

section
/- Made by program (Gen.lean): functions of the dump, over trees. -/
set_option maxRecDepth 4000
set_option linter.unusedVariables false
namespace Go.Proofs.Ytjendohiohhciaa
open Go Go.Abs

/- runnel/vm.Chain -/
def vm_Chain (x0 x1 : AV) (H : List Ob) (K : AV → List Ob → Prop) : Prop :=
  aBox x0 H fun v0 h1 =>
  aBox x1 h1 fun v2 h3 =>
  aAlloc [(.full [])] h3 fun v4 h5 =>
  aAlloc [(.full [])] h5 fun v6 h7 =>
  aAlloc [(.p (.raw .nilFunc))] h7 fun v8 h9 =>
  aMakeFunc vm_Chain_1_i [v0, v4, v6, v8] h9 fun v10 h11 =>
  aStore 1 v8 v10 h11 fun _ h13 =>
  aLoad false 1 v8 h13 fun v14 =>
  aLoad true 5 v2 h13 fun v15 =>
  aCall Try.prog v14 [(.p (.int .i64 0)), v15] h13 fun _ h17 =>
  aLoad false 1 v4 h17 fun v18 =>
  aLoad false 1 v6 h17 fun v19 =>
  K (.tup [v18, v19]) h17

def vm_Chain_ann : Nat → List Nat := fun _ => []

theorem vm_Chain_eq (x0 x1 : AV) (H : List Ob) (r : AV) (Ho : List Ob) : aBody Try.prog vm_Chain_ann Try.f40 H [x0, x1] r Ho = vm_Chain x0 x1 H (fun v H' => Gives H.length v H' r Ho) := by kernel_rfl

theorem vm_Chain_fnH {x0 x1 : AV} {Hin : List Ob} {r : AV} {Ho : List Ob} (h : vm_Chain x0 x1 Hin (fun v H' => Gives Hin.length v H' r Ho)) : Abs.Fn Try.prog vm_Chain_i Hin [x0, x1] r Ho :=
  fn_intro mixed vm_Chain_ann (fn := Try.f40) (by kernel_rfl) (by kernel_rfl) (by rw [vm_Chain_eq]; exact h)

theorem vm_Chain_fn {x0 x1 : AV} {r : AV} {Ho : List Ob} (h : vm_Chain x0 x1 [] (fun v H' => Gives 0 v H' r Ho)) : Abs.Fn Try.prog vm_Chain_i [] [x0, x1] r Ho := vm_Chain_fnH (Hin := []) h

/- runnel/vm.Chain$1 -/
def vm_Chain_1_L1 (q1s0 q1s5 q1s39 q1s40 y0 : AV) (H : List Ob) (B1 : List AV → List Ob → Prop) (K : AV → List Ob → Prop) : Prop :=
  aBin false false .lss y0 q1s40 fun v99 =>
  aGuard v99
  (aIndexAddr 5 q1s39 y0 fun v100 =>
  aLoad true 5 v100 H fun v101 =>
  aAlloc [(.p (.int .i64 0)), (.p (.int .i64 0)), (.p (.bool false)), (.p (.str [])), (.full [])] H fun v102 h103 =>
  aStore 5 v102 v101 h103 fun _ h105 =>
  aLoad false 1 q1s5 h105 fun v106 =>
  aBin false false .add q1s0 (.p (.int .i64 1)) fun v107 =>
  aLoad true 5 v102 h105 fun v108 =>
  aCall Try.prog v106 [v107, v108] h105 fun _ h110 =>
  aBin false false .add y0 (.p (.int .i64 1)) fun v111 =>
  B1 [v111] h110)
  (K (.tup []) H)

def vm_Chain_1_J1 (j1s0 j1s5 j1s8 : AV) (H : List Ob) (K : AV → List Ob → Prop) : Prop :=
  aLen false false j1s8 fun v98 =>
  aLoopN 1 [(.p (.int .i64 0))] H fun xs H B1 => vm_Chain_1_L1 j1s0 j1s5 j1s8 v98 (xs.getD 0 .top) H B1 K

def vm_Chain_1 (x0 x1 x2 x3 x4 x5 : AV) (H : List Ob) (K : AV → List Ob → Prop) : Prop :=
  aBox x1 H fun v0 h1 =>
  aLoad false 1 x2 h1 fun v2 =>
  aLen false false v2 fun v3 =>
  aBin false false .eql x0 v3 fun v4 =>
  aGuard v4
  ((aLoad false 1 x3 h1 fun v5 =>
  aLen true false v5 fun v6 =>
  (aLoad true 5 v0 h1 fun v7 =>
  aBuildSlice 5 [(.agg [(.p (.int .i64 0)), (.p (.int .i64 0)), (.p (.bool false)), (.p (.str [])), (.full [])])] fun v8 =>
  aAppend false 5 64 v5 v8 h1 fun v9 h10 =>
  aIndexAddr 5 v9 v6 fun v11 =>
  (aStore 5 v11 v7 h10 fun _ h13 =>
  aStore 1 x3 v9 h13 fun _ h15 =>
  K (.tup []) h15) ∧
  (aStore 1 x3 v9 h10 fun _ h17 =>
  aStore 5 v11 v7 h17 fun _ h19 =>
  K (.tup []) h19)) ∧
  (aBuildSlice 5 [(.agg [(.p (.int .i64 0)), (.p (.int .i64 0)), (.p (.bool false)), (.p (.str [])), (.full [])])] fun v20 =>
  aLoad true 5 v0 h1 fun v21 =>
  aAppend false 5 64 v5 v20 h1 fun v22 h23 =>
  aIndexAddr 5 v22 v6 fun v24 =>
  (aStore 5 v24 v21 h23 fun _ h26 =>
  aStore 1 x3 v22 h26 fun _ h28 =>
  K (.tup []) h28) ∧
  (aStore 1 x3 v22 h23 fun _ h30 =>
  aStore 5 v24 v21 h30 fun _ h32 =>
  K (.tup []) h32))) ∧
  (aLoad true 5 v0 h1 fun v33 =>
  (aLoad false 1 x3 h1 fun v34 =>
  aLen true false v34 fun v35 =>
  aBuildSlice 5 [(.agg [(.p (.int .i64 0)), (.p (.int .i64 0)), (.p (.bool false)), (.p (.str [])), (.full [])])] fun v36 =>
  aAppend false 5 64 v34 v36 h1 fun v37 h38 =>
  aIndexAddr 5 v37 v35 fun v39 =>
  (aStore 5 v39 v33 h38 fun _ h41 =>
  aStore 1 x3 v37 h41 fun _ h43 =>
  K (.tup []) h43) ∧
  (aStore 1 x3 v37 h38 fun _ h45 =>
  aStore 5 v39 v33 h45 fun _ h47 =>
  K (.tup []) h47)) ∧
  (aBuildSlice 5 [(.agg [(.p (.int .i64 0)), (.p (.int .i64 0)), (.p (.bool false)), (.p (.str [])), (.full [])])] fun v48 =>
  aLoad false 1 x3 h1 fun v49 =>
  aLen true false v49 fun v50 =>
  aAppend false 5 64 v49 v48 h1 fun v51 h52 =>
  aIndexAddr 5 v51 v50 fun v53 =>
  (aStore 5 v53 v33 h52 fun _ h55 =>
  aStore 1 x3 v51 h55 fun _ h57 =>
  K (.tup []) h57) ∧
  (aStore 1 x3 v51 h52 fun _ h59 =>
  aStore 5 v53 v33 h59 fun _ h61 =>
  K (.tup []) h61))) ∧
  (aBuildSlice 5 [(.agg [(.p (.int .i64 0)), (.p (.int .i64 0)), (.p (.bool false)), (.p (.str [])), (.full [])])] fun v62 =>
  (aLoad false 1 x3 h1 fun v63 =>
  aLen true false v63 fun v64 =>
  aLoad true 5 v0 h1 fun v65 =>
  aAppend false 5 64 v63 v62 h1 fun v66 h67 =>
  aIndexAddr 5 v66 v64 fun v68 =>
  (aStore 5 v68 v65 h67 fun _ h70 =>
  aStore 1 x3 v66 h70 fun _ h72 =>
  K (.tup []) h72) ∧
  (aStore 1 x3 v66 h67 fun _ h74 =>
  aStore 5 v68 v65 h74 fun _ h76 =>
  K (.tup []) h76)) ∧
  (aLoad true 5 v0 h1 fun v77 =>
  aLoad false 1 x3 h1 fun v78 =>
  aLen true false v78 fun v79 =>
  aAppend false 5 64 v78 v62 h1 fun v80 h81 =>
  aIndexAddr 5 v80 v79 fun v82 =>
  (aStore 5 v82 v77 h81 fun _ h84 =>
  aStore 1 x3 v80 h84 fun _ h86 =>
  K (.tup []) h86) ∧
  (aStore 1 x3 v80 h81 fun _ h88 =>
  aStore 5 v82 v77 h88 fun _ h90 =>
  K (.tup []) h90))))
  (aLoad false 1 x2 h1 fun v91 =>
  aIndexAddr 1 v91 x0 fun v92 =>
  aLoad false 1 v92 h1 fun v93 =>
  aLoad true 5 v0 h1 fun v94 =>
  aCallT Try.prog (.p (.func vm_Run_i [])) [v93, v94] fun v95 =>
  aExtract v95 0 fun v96 =>
  aExtract v95 1 fun v97 =>
  aBin false false .neq v97 (.p (.int .i64 0)) fun v112 =>
  aGuard v112
  (aLoad false 1 x4 h1 fun v113 =>
  aLoad true 5 v0 h1 fun v114 =>
  aBuild [(.p (.int .i64 0)), (.p (.int .i64 0)), (.p (.int .i64 0)), (.p (.bool false)), (.p (.str [])), (.full [])] [(0, 1, x0), (1, 5, v114)] fun v115 =>
  aBuildSlice 6 [v115] fun v116 =>
  aAppend false 6 72 v113 v116 h1 fun v117 h118 =>
  aStore 1 x4 v117 h118 fun _ h120 =>
  vm_Chain_1_J1 x0 x5 v96 h120 K)
  (vm_Chain_1_J1 x0 x5 v96 h1 K))

def vm_Chain_1_ann : Nat → List Nat := fun k => match k with | 7 => [41] | 3000002 => [1000] | _ => []

theorem vm_Chain_1_eq (x0 x1 x2 x3 x4 x5 : AV) (H : List Ob) (r : AV) (Ho : List Ob) : aBody Try.prog vm_Chain_1_ann Try.f74 H [x0, x1, x2, x3, x4, x5] r Ho = vm_Chain_1 x0 x1 x2 x3 x4 x5 H (fun v H' => Gives H.length v H' r Ho) := by kernel_rfl

theorem vm_Chain_1_fnH {x0 x1 x2 x3 x4 x5 : AV} {Hin : List Ob} {r : AV} {Ho : List Ob} (h : vm_Chain_1 x0 x1 x2 x3 x4 x5 Hin (fun v H' => Gives Hin.length v H' r Ho)) : Abs.Fn Try.prog vm_Chain_1_i Hin [x0, x1, x2, x3, x4, x5] r Ho :=
  fn_intro mixed vm_Chain_1_ann (fn := Try.f74) (by kernel_rfl) (by kernel_rfl) (by rw [vm_Chain_1_eq]; exact h)

theorem vm_Chain_1_fn {x0 x1 x2 x3 x4 x5 : AV} {r : AV} {Ho : List Ob} (h : vm_Chain_1 x0 x1 x2 x3 x4 x5 [] (fun v H' => Gives 0 v H' r Ho)) : Abs.Fn Try.prog vm_Chain_1_i [] [x0, x1, x2, x3, x4, x5] r Ho := vm_Chain_1_fnH (Hin := []) h

end Go.Proofs.Ytjendohiohhciaa
end

section
/- Made by program (Gen.lean): functions of the dump, over trees. -/
set_option maxRecDepth 4000
set_option linter.unusedVariables false
namespace Go.Proofs.Ytjendohiohhciaa
open Go Go.Abs

/- runnel/runnelref10.Out -/
def runnelref10_Out_L2 (q2s1 q2s2 q2s4 q2s7 y0 y1 : AV) (H : List Ob) (B2 : List AV → List Ob → Prop) (K : AV → List Ob → Prop) : Prop :=
  aFieldAddr 4 q2s2 fun v84 =>
  aLoad false 1 v84 H fun v85 =>
  aLen false false v85 fun v86 =>
  aBin false false .lss y1 v86 fun v87 =>
  aGuard v87
  (aAlloc [(.p (.int .i64 0)), (.full [])] H fun v88 h89 =>
  aFieldAddr 4 q2s2 fun v90 =>
  aLoad false 1 v90 h89 fun v91 =>
  aIndexAddr 8 v91 y1 fun v92 =>
  aLoad true 8 v92 h89 fun v93 =>
  aIndexAddr 2 q2s1 (.p (.int .i64 0)) fun v94 =>
  aLoad true 2 v94 h89 fun v95 =>
  aCallT Try.prog (.p (.func runnelref6_CheckExpr_i [])) [v93, v95] fun v96 =>
  aExtract v96 0 fun v97 =>
  aExtract v96 1 fun v98 =>
  aStore 2 v88 v97 h89 fun _ h100 =>
  aBin false false .neq v98 (.p (.int .i64 0)) fun v101 =>
  aGuard v101
  (aBuild [(.p (.int .i64 0)), (.full [])] [] fun v102 =>
  aStore 2 q2s4 v102 h100 fun _ h104 =>
  aLoad true 2 q2s4 h104 fun v105 =>
  K (.tup [v105, v98]) h104)
  (aLoad true 2 v88 h100 fun v106 =>
  aBuildSlice 2 [v106] fun v107 =>
  aAppend false 2 32 y0 v107 h100 fun v108 h109 =>
  aBin false false .add y1 (.p (.int .i64 1)) fun v110 =>
  B2 [v108, v110] h109))
  (aLoad true 15 q2s2 H fun v111 =>
  aLoad true 2 q2s7 H fun v112 =>
  aCall Try.prog (.p (.func runnelref10_made_i [])) [v111, q2s1, v112, y0] H fun v113 h114 =>
  aExtract v113 0 fun v115 =>
  aExtract v113 1 fun v116 =>
  aStore 2 q2s4 v115 h114 fun _ h118 =>
  aLoad true 2 q2s4 h118 fun v119 =>
  K (.tup [v119, v116]) h118)

def runnelref10_Out_J1 (j1s1 j1s2 j1s4 j1s7 : AV) (H : List Ob) (K : AV → List Ob → Prop) : Prop :=
  aLoopN 2 [(.full []), (.p (.int .i64 0))] H fun xs H B2 => runnelref10_Out_L2 j1s1 j1s2 j1s4 j1s7 (xs.getD 0 .top) (xs.getD 1 .top) H B2 K

def runnelref10_Out_L1 (q1s1 q1s2 q1s4 y0 : AV) (H : List Ob) (B1 : List AV → List Ob → Prop) (K : AV → List Ob → Prop) : Prop :=
  aLen false false q1s1 fun v50 =>
  aBin false false .lss y0 v50 fun v51 =>
  aGuard v51
  (aIndexAddr 2 q1s1 y0 fun v52 =>
  aLoad true 2 v52 H fun v53 =>
  aCall Try.prog (.p (.func runnelref6_CheckType_i [])) [v53] H fun v54 h55 =>
  aBin false false .neq v54 (.p (.int .i64 0)) fun v56 =>
  aGuard v56
  (aBuild [(.p (.int .i64 0)), (.full [])] [] fun v57 =>
  aStore 2 q1s4 v57 h55 fun _ h59 =>
  aLoad true 2 q1s4 h59 fun v60 =>
  K (.tup [v60, (.p (.int .i64 5))]) h59)
  (aBin false false .add y0 (.p (.int .i64 1)) fun v61 =>
  B1 [v61] h55))
  (aFieldAddr 0 q1s2 fun v62 =>
  aLoad false 1 v62 H fun v63 =>
  aBin false false .eql v63 (.p (.int .i64 1)) fun v64 =>
  aGuard v64
  (aFieldAddr 2 q1s2 fun v65 =>
  aLoad true 2 v65 H fun v66 =>
  aCall Try.prog (.p (.func runnelref6_CheckType_i [])) [v66] H fun v67 h68 =>
  aBin false false .neq v67 (.p (.int .i64 0)) fun v69 =>
  aGuard v69
  (aBuild [(.p (.int .i64 0)), (.full [])] [] fun v70 =>
  aStore 2 q1s4 v70 h68 fun _ h72 =>
  aLoad true 2 q1s4 h72 fun v73 =>
  K (.tup [v73, (.p (.int .i64 5))]) h72)
  (aFieldAddr 2 q1s2 fun v74 =>
  aLoad true 2 v74 h68 fun v75 =>
  aStore 2 q1s4 v75 h68 fun _ h77 =>
  aLoad true 2 q1s4 h77 fun v78 =>
  K (.tup [v78, (.p (.int .i64 0))]) h77))
  (aBuild [(.p (.int .i64 0)), (.full [])] [] fun v79 =>
  aAlloc [(.p (.int .i64 0)), (.full [])] H fun v80 h81 =>
  aStore 2 v80 v79 h81 fun _ h83 =>
  aLoad true 15 q1s2 h83 fun v120 =>
  aCall Try.prog (.p (.func runnelref10_Keyed_i [])) [v120] h83 fun v121 h122 =>
  aGuard v121
  (aAlloc [(.p (.int .i64 0)), (.full [])] h122 fun v123 h124 =>
  aFieldAddr 5 q1s2 fun v125 =>
  aLoad true 8 v125 h124 fun v126 =>
  aIndexAddr 2 q1s1 (.p (.int .i64 0)) fun v127 =>
  aLoad true 2 v127 h124 fun v128 =>
  aCallT Try.prog (.p (.func runnelref6_CheckExpr_i [])) [v126, v128] fun v129 =>
  aExtract v129 0 fun v130 =>
  aExtract v129 1 fun v131 =>
  aStore 2 v123 v130 h124 fun _ h133 =>
  aBin false false .neq v131 (.p (.int .i64 0)) fun v134 =>
  aGuard v134
  (aBuild [(.p (.int .i64 0)), (.full [])] [] fun v135 =>
  aStore 2 q1s4 v135 h133 fun _ h137 =>
  aLoad true 2 q1s4 h137 fun v138 =>
  K (.tup [v138, v131]) h137)
  (aLoad true 2 v123 h133 fun v139 =>
  aStore 2 v80 v139 h133 fun _ h141 =>
  runnelref10_Out_J1 q1s1 q1s2 q1s4 v80 h141 K))
  (runnelref10_Out_J1 q1s1 q1s2 q1s4 v80 h122 K)))

def runnelref10_Out (x0 x1 : AV) (H : List Ob) (K : AV → List Ob → Prop) : Prop :=
  aBox x0 H fun v0 h1 =>
  aAlloc [(.p (.int .i64 0)), (.full [])] h1 fun v2 h3 =>
  aFieldAddr 0 v0 fun v4 =>
  aLoad false 1 v4 h3 fun v5 =>
  aBin false false .lss v5 (.p (.int .i64 1)) fun v6 =>
  aMerge false v6 (fun Q7 =>
  aFieldAddr 0 v0 fun v8 =>
  aLoad false 1 v8 h3 fun v9 =>
  aBin false false .gtr v9 (.p (.int .i64 9)) fun v10 =>
  (h3 = h3 ∧ Q7 v10)) fun v11 =>
  aGuard v11
  (aBuild [(.p (.int .i64 0)), (.full [])] [] fun v12 =>
  aStore 2 v2 v12 h3 fun _ h14 =>
  aLoad true 2 v2 h14 fun v15 =>
  K (.tup [v15, (.p (.int .i64 6))]) h14)
  (aFieldAddr 0 v0 fun v16 =>
  aLoad false 1 v16 h3 fun v17 =>
  aBin false false .eql v17 (.p (.int .i64 1)) fun v18 =>
  aMerge false v18 (fun Q19 =>
  aFieldAddr 0 v0 fun v20 =>
  aLoad false 1 v20 h3 fun v21 =>
  aBin false false .eql v21 (.p (.int .i64 9)) fun v22 =>
  (h3 = h3 ∧ Q19 v22)) fun v23 =>
  aMerge true v23 (fun Q24 =>
  aFieldAddr 1 v0 fun v25 =>
  aLoad false 1 v25 h3 fun v26 =>
  aCall Try.prog (.p (.func runnelref10_Good_i [])) [v26] h3 fun v27 h28 =>
  aUn .not v27 fun v29 =>
  (h28 = h3 ∧ Q24 v29)) fun v30 =>
  aGuard v30
  (aBuild [(.p (.int .i64 0)), (.full [])] [] fun v31 =>
  aStore 2 v2 v31 h3 fun _ h33 =>
  aLoad true 2 v2 h33 fun v34 =>
  K (.tup [v34, (.p (.int .i64 6))]) h33)
  (aLoad true 15 v0 h3 fun v35 =>
  aCall Try.prog (.p (.func runnelref10_fields_i [])) [v35] h3 fun v36 h37 =>
  aMerge false v36 (fun Q38 =>
  aFieldAddr 0 v0 fun v39 =>
  aLoad false 1 v39 h37 fun v40 =>
  aLenS false x1 fun v41 =>
  aCall Try.prog (.p (.func runnelref10_ins_i [])) [v40, v41] h37 fun v42 h43 =>
  aUn .not v42 fun v44 =>
  (h43 = h37 ∧ Q38 v44)) fun v45 =>
  aGuard v45
  (aBuild [(.p (.int .i64 0)), (.full [])] [] fun v46 =>
  aStore 2 v2 v46 h37 fun _ h48 =>
  aLoad true 2 v2 h48 fun v49 =>
  K (.tup [v49, (.p (.int .i64 1))]) h48)
  (aLoopN 1 [(.p (.int .i64 0))] h37 fun xs H B1 => runnelref10_Out_L1 x1 v0 v2 (xs.getD 0 .top) H B1 K)))

def runnelref10_Out_ann : Nat → List Nat := fun k => match k with | 8 => [6] | 24 => [10, 11] | _ => []

theorem runnelref10_Out_eq (x0 x1 : AV) (H : List Ob) (r : AV) (Ho : List Ob) : aBody Try.prog runnelref10_Out_ann Try.f14 H [x0, x1] r Ho = runnelref10_Out x0 x1 H (fun v H' => Gives H.length v H' r Ho) := by kernel_rfl

theorem runnelref10_Out_fnH {x0 x1 : AV} {Hin : List Ob} {r : AV} {Ho : List Ob} (h : runnelref10_Out x0 x1 Hin (fun v H' => Gives Hin.length v H' r Ho)) : Abs.Fn Try.prog runnelref10_Out_i Hin [x0, x1] r Ho :=
  fn_intro mixed runnelref10_Out_ann (fn := Try.f14) (by kernel_rfl) (by kernel_rfl) (by rw [runnelref10_Out_eq]; exact h)

theorem runnelref10_Out_fn {x0 x1 : AV} {r : AV} {Ho : List Ob} (h : runnelref10_Out x0 x1 [] (fun v H' => Gives 0 v H' r Ho)) : Abs.Fn Try.prog runnelref10_Out_i [] [x0, x1] r Ho := runnelref10_Out_fnH (Hin := []) h

/- runnel/runnelref10.Keyed -/
def runnelref10_Keyed (x0 : AV) (H : List Ob) (K : AV → List Ob → Prop) : Prop :=
  aBox x0 H fun v0 h1 =>
  aFieldAddr 0 v0 fun v2 =>
  aLoad false 1 v2 h1 fun v3 =>
  aBin false false .eql v3 (.p (.int .i64 5)) fun v4 =>
  aMerge false v4 (fun Q5 =>
  aFieldAddr 0 v0 fun v6 =>
  aLoad false 1 v6 h1 fun v7 =>
  aBin false false .eql v7 (.p (.int .i64 6)) fun v8 =>
  (h1 = h1 ∧ Q5 v8)) fun v9 =>
  aMerge false v9 (fun Q10 =>
  aFieldAddr 0 v0 fun v11 =>
  aLoad false 1 v11 h1 fun v12 =>
  aBin false false .eql v12 (.p (.int .i64 7)) fun v13 =>
  (h1 = h1 ∧ Q10 v13)) fun v14 =>
  K v14 h1

def runnelref10_Keyed_ann : Nat → List Nat := fun _ => []

theorem runnelref10_Keyed_eq (x0 : AV) (H : List Ob) (r : AV) (Ho : List Ob) : aBody Try.prog runnelref10_Keyed_ann Try.f18 H [x0] r Ho = runnelref10_Keyed x0 H (fun v H' => Gives H.length v H' r Ho) := by kernel_rfl

theorem runnelref10_Keyed_fnH {x0 : AV} {Hin : List Ob} {r : AV} {Ho : List Ob} (h : runnelref10_Keyed x0 Hin (fun v H' => Gives Hin.length v H' r Ho)) : Abs.Fn Try.prog runnelref10_Keyed_i Hin [x0] r Ho :=
  fn_intro mixed runnelref10_Keyed_ann (fn := Try.f18) (by kernel_rfl) (by kernel_rfl) (by rw [runnelref10_Keyed_eq]; exact h)

theorem runnelref10_Keyed_fn {x0 : AV} {r : AV} {Ho : List Ob} (h : runnelref10_Keyed x0 [] (fun v H' => Gives 0 v H' r Ho)) : Abs.Fn Try.prog runnelref10_Keyed_i [] [x0] r Ho := runnelref10_Keyed_fnH (Hin := []) h

/- runnel/runnelref10.Good -/
def runnelref10_Good_L1 (q1s0 y0 : AV) (H : List Ob) (B1 : List AV → List Ob → Prop) (K : AV → List Ob → Prop) : Prop :=
  aLen false true q1s0 fun v14 =>
  aBin false false .lss y0 v14 fun v15 =>
  aGuard v15
  (aIndex q1s0 y0 fun v16 =>
  aBin false false .lss v16 (.p (.int .u8 97)) fun v17 =>
  aMerge false v17 (fun Q18 =>
  aIndex q1s0 y0 fun v19 =>
  aBin false false .gtr v19 (.p (.int .u8 122)) fun v20 =>
  (H = H ∧ Q18 v20)) fun v21 =>
  aMerge true v21 (fun Q22 =>
  aIndex q1s0 y0 fun v23 =>
  aBin false false .lss v23 (.p (.int .u8 48)) fun v24 =>
  aMerge false v24 (fun Q25 =>
  aIndex q1s0 y0 fun v26 =>
  aBin false false .gtr v26 (.p (.int .u8 57)) fun v27 =>
  (H = H ∧ Q25 v27)) fun v28 =>
  (H = H ∧ Q22 v28)) fun v29 =>
  aMerge true v29 (fun Q30 =>
  aIndex q1s0 y0 fun v31 =>
  aBin false false .neq v31 (.p (.int .u8 95)) fun v32 =>
  (H = H ∧ Q30 v32)) fun v33 =>
  aGuard v33
  (K (.p (.bool false)) H)
  (aBin false false .add y0 (.p (.int .i64 1)) fun v34 =>
  B1 [v34] H))
  (K (.p (.bool true)) H)

def runnelref10_Good (x0 : AV) (H : List Ob) (K : AV → List Ob → Prop) : Prop :=
  aLen false true x0 fun v0 =>
  aBin false false .lss v0 (.p (.int .i64 1)) fun v1 =>
  aMerge false v1 (fun Q2 =>
  aLenS true x0 fun v3 =>
  aBin false false .gtr v3 (.p (.int .i64 16)) fun v4 =>
  (H = H ∧ Q2 v4)) fun v5 =>
  aMerge false v5 (fun Q6 =>
  aIndex x0 (.p (.int .i64 0)) fun v7 =>
  aBin false false .lss v7 (.p (.int .u8 97)) fun v8 =>
  (H = H ∧ Q6 v8)) fun v9 =>
  aMerge false v9 (fun Q10 =>
  aIndex x0 (.p (.int .i64 0)) fun v11 =>
  aBin false false .gtr v11 (.p (.int .u8 122)) fun v12 =>
  (H = H ∧ Q10 v12)) fun v13 =>
  aGuard v13
  (K (.p (.bool false)) H)
  (aLoopN 1 [(.p (.int .i64 0))] H fun xs H B1 => runnelref10_Good_L1 x0 (xs.getD 0 .top) H B1 K)

def runnelref10_Good_ann : Nat → List Nat := fun k => match k with | 4 => [3] | _ => []

theorem runnelref10_Good_eq (x0 : AV) (H : List Ob) (r : AV) (Ho : List Ob) : aBody Try.prog runnelref10_Good_ann Try.f49 H [x0] r Ho = runnelref10_Good x0 H (fun v H' => Gives H.length v H' r Ho) := by kernel_rfl

theorem runnelref10_Good_fnH {x0 : AV} {Hin : List Ob} {r : AV} {Ho : List Ob} (h : runnelref10_Good x0 Hin (fun v H' => Gives Hin.length v H' r Ho)) : Abs.Fn Try.prog runnelref10_Good_i Hin [x0] r Ho :=
  fn_intro mixed runnelref10_Good_ann (fn := Try.f49) (by kernel_rfl) (by kernel_rfl) (by rw [runnelref10_Good_eq]; exact h)

theorem runnelref10_Good_fn {x0 : AV} {r : AV} {Ho : List Ob} (h : runnelref10_Good x0 [] (fun v H' => Gives 0 v H' r Ho)) : Abs.Fn Try.prog runnelref10_Good_i [] [x0] r Ho := runnelref10_Good_fnH (Hin := []) h

/- runnel/runnelref10.fields -/
def runnelref10_fields_J1 (j1s1 j1s3 j1s4 j1s5 : AV) (H : List Ob) (K : AV → List Ob → Prop) : Prop :=
  aUn .not j1s3 fun v10 =>
  aMerge true v10 (fun Q11 =>
  aFieldAddr 1 j1s1 fun v12 =>
  aLoad false 1 v12 H fun v13 =>
  aBin false false .neq v13 (.p (.str [])) fun v14 =>
  (H = H ∧ Q11 v14)) fun v15 =>
  aGuard v15
  (K (.p (.bool true)) H)
  (aFieldAddr 0 j1s1 fun v16 =>
  aLoad false 1 v16 H fun v17 =>
  aBin false false .neq v17 (.p (.int .i64 1)) fun v18 =>
  aMerge true v18 (fun Q19 =>
  aFieldAddr 2 j1s1 fun v20 =>
  aFieldAddr 0 v20 fun v21 =>
  aLoad false 1 v21 H fun v22 =>
  aBin false false .neq v22 (.p (.int .i64 0)) fun v23 =>
  aMerge false v23 (fun Q24 =>
  aFieldAddr 2 j1s1 fun v25 =>
  aFieldAddr 1 v25 fun v26 =>
  aLoad false 1 v26 H fun v27 =>
  aLenS false v27 fun v28 =>
  aBin false false .gtr v28 (.p (.int .i64 0)) fun v29 =>
  (H = H ∧ Q24 v29)) fun v30 =>
  (H = H ∧ Q19 v30)) fun v31 =>
  aGuard v31
  (K (.p (.bool true)) H)
  (aFieldAddr 4 j1s1 fun v32 =>
  aLoad false 1 v32 H fun v33 =>
  aLen false false v33 fun v34 =>
  aBin false false .lss v34 j1s4 fun v35 =>
  aMerge false v35 (fun Q36 =>
  aFieldAddr 4 j1s1 fun v37 =>
  aLoad false 1 v37 H fun v38 =>
  aLenS false v38 fun v39 =>
  aBin false false .gtr v39 j1s5 fun v40 =>
  (H = H ∧ Q36 v40)) fun v41 =>
  aGuard v41
  (K (.p (.bool true)) H)
  (aLoad true 15 j1s1 H fun v42 =>
  aCall Try.prog (.p (.func runnelref10_Keyed_i [])) [v42] H fun v43 h44 =>
  aUn .not v43 fun v45 =>
  aMerge true v45 (fun Q46 =>
  aFieldAddr 5 j1s1 fun v47 =>
  aLoad true 8 v47 h44 fun v48 =>
  aCall Try.prog (.p (.func runnelref10_bare_i [])) [v48] h44 fun v49 h50 =>
  aUn .not v49 fun v51 =>
  (h50 = h44 ∧ Q46 v51)) fun v52 =>
  aGuard v52
  (K (.p (.bool true)) h44)
  (aFieldAddr 0 j1s1 fun v53 =>
  aLoad false 1 v53 h44 fun v54 =>
  aBin false false .eql v54 (.p (.int .i64 5)) fun v55 =>
  aMerge true v55 (fun Q56 =>
  aFieldAddr 13 j1s1 fun v57 =>
  aLoad false 1 v57 h44 fun v58 =>
  aBin false false .lss v58 (.p (.int .i64 1)) fun v59 =>
  aMerge false v59 (fun Q60 =>
  aFieldAddr 13 j1s1 fun v61 =>
  aLoad false 1 v61 h44 fun v62 =>
  aBin false false .gtr v62 (.p (.int .i64 4)) fun v63 =>
  (h44 = h44 ∧ Q60 v63)) fun v64 =>
  (h44 = h44 ∧ Q56 v64)) fun v65 =>
  aMerge false v65 (fun Q66 =>
  aFieldAddr 0 j1s1 fun v67 =>
  aLoad false 1 v67 h44 fun v68 =>
  aBin false false .neq v68 (.p (.int .i64 5)) fun v69 =>
  aMerge true v69 (fun Q70 =>
  aFieldAddr 13 j1s1 fun v71 =>
  aLoad false 1 v71 h44 fun v72 =>
  aBin false false .neq v72 (.p (.int .i64 0)) fun v73 =>
  (h44 = h44 ∧ Q70 v73)) fun v74 =>
  (h44 = h44 ∧ Q66 v74)) fun v75 =>
  aGuard v75
  (K (.p (.bool true)) h44)
  (aFieldAddr 0 j1s1 fun v76 =>
  aLoad false 1 v76 h44 fun v77 =>
  aBin false false .eql v77 (.p (.int .i64 6)) fun v78 =>
  aMerge true v78 (fun Q79 =>
  aFieldAddr 14 j1s1 fun v80 =>
  aLoad false 1 v80 h44 fun v81 =>
  aBin false false .lss v81 (.p (.int .i64 1)) fun v82 =>
  aMerge false v82 (fun Q83 =>
  aFieldAddr 14 j1s1 fun v84 =>
  aLoad false 1 v84 h44 fun v85 =>
  aBin false false .gtr v85 (.p (.int .i64 1000)) fun v86 =>
  (h44 = h44 ∧ Q83 v86)) fun v87 =>
  (h44 = h44 ∧ Q79 v87)) fun v88 =>
  aMerge false v88 (fun Q89 =>
  aFieldAddr 0 j1s1 fun v90 =>
  aLoad false 1 v90 h44 fun v91 =>
  aBin false false .neq v91 (.p (.int .i64 6)) fun v92 =>
  aMerge true v92 (fun Q93 =>
  aFieldAddr 14 j1s1 fun v94 =>
  aLoad false 1 v94 h44 fun v95 =>
  aBin false false .neq v95 (.p (.int .i64 0)) fun v96 =>
  (h44 = h44 ∧ Q93 v96)) fun v97 =>
  (h44 = h44 ∧ Q89 v97)) fun v98 =>
  K v98 h44)))))

def runnelref10_fields (x0 : AV) (H : List Ob) (K : AV → List Ob → Prop) : Prop :=
  aBox x0 H fun v0 h1 =>
  aFieldAddr 0 v0 fun v2 =>
  aLoad false 1 v2 h1 fun v3 =>
  aBin false false .eql v3 (.p (.int .i64 1)) fun v4 =>
  aMerge false v4 (fun Q5 =>
  aFieldAddr 0 v0 fun v6 =>
  aLoad false 1 v6 h1 fun v7 =>
  aBin false false .eql v7 (.p (.int .i64 9)) fun v8 =>
  (h1 = h1 ∧ Q5 v8)) fun v9 =>
  aFieldAddr 0 v0 fun v99 =>
  aLoad false 1 v99 h1 fun v100 =>
  aBin false false .eql v100 (.p (.int .i64 2)) fun v101 =>
  aMerge false v101 (fun Q102 =>
  aBin false false .eql v100 (.p (.int .i64 3)) fun v103 =>
  aMerge false v103 (fun Q104 =>
  aBin false false .eql v100 (.p (.int .i64 5)) fun v105 =>
  (h1 = h1 ∧ Q104 v105)) fun v106 =>
  (h1 = h1 ∧ Q102 v106)) fun v107 =>
  aGuard v107
  (runnelref10_fields_J1 v0 v9 (.p (.int .i64 1)) (.p (.int .i64 1)) h1 K)
  (aBin false false .eql v100 (.p (.int .i64 4)) fun v108 =>
  aGuard v108
  (runnelref10_fields_J1 v0 v9 (.p (.int .i64 1)) (.p (.int .i64 4)) h1 K)
  (runnelref10_fields_J1 v0 v9 (.p (.int .i64 0)) (.p (.int .i64 0)) h1 K))

def runnelref10_fields_ann : Nat → List Nat := fun k => match k with | 1000007 => [1] | 1000006 => [1] | _ => []

theorem runnelref10_fields_eq (x0 : AV) (H : List Ob) (r : AV) (Ho : List Ob) : aBody Try.prog runnelref10_fields_ann Try.f50 H [x0] r Ho = runnelref10_fields x0 H (fun v H' => Gives H.length v H' r Ho) := by kernel_rfl

theorem runnelref10_fields_fnH {x0 : AV} {Hin : List Ob} {r : AV} {Ho : List Ob} (h : runnelref10_fields x0 Hin (fun v H' => Gives Hin.length v H' r Ho)) : Abs.Fn Try.prog runnelref10_fields_i Hin [x0] r Ho :=
  fn_intro mixed runnelref10_fields_ann (fn := Try.f50) (by kernel_rfl) (by kernel_rfl) (by rw [runnelref10_fields_eq]; exact h)

theorem runnelref10_fields_fn {x0 : AV} {r : AV} {Ho : List Ob} (h : runnelref10_fields x0 [] (fun v H' => Gives 0 v H' r Ho)) : Abs.Fn Try.prog runnelref10_fields_i [] [x0] r Ho := runnelref10_fields_fnH (Hin := []) h

/- runnel/runnelref10.ins -/
def runnelref10_ins (x0 x1 : AV) (H : List Ob) (K : AV → List Ob → Prop) : Prop :=
  aBin false false .eql x0 (.p (.int .i64 1)) fun v0 =>
  aGuard v0
  (aBin false false .eql x1 (.p (.int .i64 0)) fun v1 =>
  K v1 H)
  (aBin false false .eql x0 (.p (.int .i64 8)) fun v2 =>
  aGuard v2
  (aBin false false .geq x1 (.p (.int .i64 2)) fun v3 =>
  aMerge true v3 (fun Q4 =>
  aBin false false .leq x1 (.p (.int .i64 4)) fun v5 =>
  (H = H ∧ Q4 v5)) fun v6 =>
  K v6 H)
  (aBin false false .eql x1 (.p (.int .i64 1)) fun v7 =>
  K v7 H))

def runnelref10_ins_ann : Nat → List Nat := fun _ => []

theorem runnelref10_ins_eq (x0 x1 : AV) (H : List Ob) (r : AV) (Ho : List Ob) : aBody Try.prog runnelref10_ins_ann Try.f51 H [x0, x1] r Ho = runnelref10_ins x0 x1 H (fun v H' => Gives H.length v H' r Ho) := by kernel_rfl

theorem runnelref10_ins_fnH {x0 x1 : AV} {Hin : List Ob} {r : AV} {Ho : List Ob} (h : runnelref10_ins x0 x1 Hin (fun v H' => Gives Hin.length v H' r Ho)) : Abs.Fn Try.prog runnelref10_ins_i Hin [x0, x1] r Ho :=
  fn_intro mixed runnelref10_ins_ann (fn := Try.f51) (by kernel_rfl) (by kernel_rfl) (by rw [runnelref10_ins_eq]; exact h)

theorem runnelref10_ins_fn {x0 x1 : AV} {r : AV} {Ho : List Ob} (h : runnelref10_ins x0 x1 [] (fun v H' => Gives 0 v H' r Ho)) : Abs.Fn Try.prog runnelref10_ins_i [] [x0, x1] r Ho := runnelref10_ins_fnH (Hin := []) h

/- runnel/runnelref10.made -/
def runnelref10_made_L1 (q1s3 q1s8 y0 : AV) (H : List Ob) (B1 : List AV → List Ob → Prop) (K : AV → List Ob → Prop) : Prop :=
  aLen false false q1s3 fun v29 =>
  aBin false false .lss y0 v29 fun v30 =>
  aGuard v30
  (aIndexAddr 2 q1s3 y0 fun v31 =>
  aLoad true 2 v31 H fun v32 =>
  aIndexAddr 2 q1s3 (.p (.int .i64 0)) fun v33 =>
  aLoad true 2 v33 H fun v34 =>
  aCallT Try.prog (.p (.func runnelref6_SameType_i [])) [v32, v34] fun v35 =>
  aUn .not v35 fun v36 =>
  aGuard v36
  (aBuild [(.p (.int .i64 0)), (.full [])] [] fun v37 =>
  aStore 2 q1s8 v37 H fun _ h39 =>
  aLoad true 2 q1s8 h39 fun v40 =>
  K (.tup [v40, (.p (.int .i64 5))]) h39)
  (aBin false false .add y0 (.p (.int .i64 1)) fun v41 =>
  B1 [v41] H))
  (aIndexAddr 2 q1s3 (.p (.int .i64 0)) fun v42 =>
  aLoad true 2 v42 H fun v43 =>
  aStore 2 q1s8 v43 H fun _ h45 =>
  aLoad true 2 q1s8 h45 fun v46 =>
  K (.tup [v46, (.p (.int .i64 0))]) h45)

def runnelref10_made_L2 (q2s1 q2s8 y0 : AV) (H : List Ob) (B2 : List AV → List Ob → Prop) (K : AV → List Ob → Prop) : Prop :=
  aLen false false q2s1 fun v90 =>
  aBin false false .lss y0 v90 fun v91 =>
  aGuard v91
  (aIndexAddr 2 q2s1 y0 fun v92 =>
  aLoad true 2 v92 H fun v93 =>
  aIndexAddr 2 q2s1 (.p (.int .i64 0)) fun v94 =>
  aLoad true 2 v94 H fun v95 =>
  aCallT Try.prog (.p (.func runnelref6_SameType_i [])) [v93, v95] fun v96 =>
  aUn .not v96 fun v97 =>
  aGuard v97
  (aBuild [(.p (.int .i64 0)), (.full [])] [] fun v98 =>
  aStore 2 q2s8 v98 H fun _ h100 =>
  aLoad true 2 q2s8 h100 fun v101 =>
  K (.tup [v101, (.p (.int .i64 5))]) h100)
  (aBin false false .add y0 (.p (.int .i64 1)) fun v102 =>
  B2 [v102] H))
  (aIndexAddr 2 q2s1 (.p (.int .i64 0)) fun v103 =>
  aLoad true 2 v103 H fun v104 =>
  aStore 2 q2s8 v104 H fun _ h106 =>
  aLoad true 2 q2s8 h106 fun v107 =>
  K (.tup [v107, (.p (.int .i64 0))]) h106)

def runnelref10_made (x0 x1 x2 x3 : AV) (H : List Ob) (K : AV → List Ob → Prop) : Prop :=
  aBox x0 H fun v0 h1 =>
  aBox x2 h1 fun v2 h3 =>
  aAlloc [(.p (.int .i64 0)), (.full [])] h3 fun v4 h5 =>
  aFieldAddr 0 v0 fun v6 =>
  aLoad false 1 v6 h5 fun v7 =>
  aBin false false .eql v7 (.p (.int .i64 2)) fun v8 =>
  aGuard v8
  (aIndexAddr 2 x3 (.p (.int .i64 0)) fun v9 =>
  aLoad true 2 v9 h5 fun v10 =>
  aStore 2 v4 v10 h5 fun _ h12 =>
  aLoad true 2 v4 h12 fun v13 =>
  K (.tup [v13, (.p (.int .i64 0))]) h12)
  (aBin false false .eql v7 (.p (.int .i64 3)) fun v14 =>
  aGuard v14
  (aIndexAddr 2 x3 (.p (.int .i64 0)) fun v15 =>
  aFieldAddr 0 v15 fun v16 =>
  aLoad false 1 v16 h5 fun v17 =>
  aBin false false .neq v17 (.p (.int .i64 2)) fun v18 =>
  aGuard v18
  (aBuild [(.p (.int .i64 0)), (.full [])] [] fun v19 =>
  aStore 2 v4 v19 h5 fun _ h21 =>
  aLoad true 2 v4 h21 fun v22 =>
  K (.tup [v22, (.p (.int .i64 5))]) h21)
  (aIndexAddr 2 x1 (.p (.int .i64 0)) fun v23 =>
  aLoad true 2 v23 h5 fun v24 =>
  aStore 2 v4 v24 h5 fun _ h26 =>
  aLoad true 2 v4 h26 fun v27 =>
  K (.tup [v27, (.p (.int .i64 0))]) h26))
  (aBin false false .eql v7 (.p (.int .i64 4)) fun v28 =>
  aGuard v28
  (aLoopN 1 [(.p (.int .i64 1))] h5 fun xs H B1 => runnelref10_made_L1 x3 v4 (xs.getD 0 .top) H B1 K)
  (aBin false false .eql v7 (.p (.int .i64 5)) fun v47 =>
  aMerge false v47 (fun Q48 =>
  aBin false false .eql v7 (.p (.int .i64 6)) fun v49 =>
  (h5 = h5 ∧ Q48 v49)) fun v50 =>
  aGuard v50
  (aFieldAddr 0 v0 fun v51 =>
  aLoad false 1 v51 h5 fun v52 =>
  aBin false false .eql v52 (.p (.int .i64 5)) fun v53 =>
  aMerge true v53 (fun Q54 =>
  aIndexAddr 2 x3 (.p (.int .i64 0)) fun v55 =>
  aFieldAddr 0 v55 fun v56 =>
  aLoad false 1 v56 h5 fun v57 =>
  aBin false false .neq v57 (.p (.int .i64 1)) fun v58 =>
  (h5 = h5 ∧ Q54 v58)) fun v59 =>
  aGuard v59
  (aBuild [(.p (.int .i64 0)), (.full [])] [] fun v60 =>
  aStore 2 v4 v60 h5 fun _ h62 =>
  aLoad true 2 v4 h62 fun v63 =>
  K (.tup [v63, (.p (.int .i64 5))]) h62)
  (aAlloc [(.p (.int .i64 0)), (.full [])] h5 fun v64 h65 =>
  aLoad true 2 v2 h65 fun v66 =>
  aCallT Try.prog (.p (.func runnelref6_Plain_i [])) [(.p (.int .i64 1))] fun v67 =>
  aBuildSlice 2 [v66, v67] fun v68 =>
  aBuild [(.p (.int .i64 0)), (.full [])] [(0, 1, (.p (.int .i64 4))), (1, 1, v68)] fun v69 =>
  aStore 2 v64 v69 h65 fun _ h71 =>
  aLoad true 2 v64 h71 fun v72 =>
  aCall Try.prog (.p (.func runnelref6_CheckType_i [])) [v72] h71 fun v73 h74 =>
  aBin false false .neq v73 (.p (.int .i64 0)) fun v75 =>
  aGuard v75
  (aBuild [(.p (.int .i64 0)), (.full [])] [] fun v76 =>
  aStore 2 v4 v76 h74 fun _ h78 =>
  aLoad true 2 v4 h78 fun v79 =>
  K (.tup [v79, v73]) h78)
  (aLoad true 2 v64 h74 fun v80 =>
  aStore 2 v4 v80 h74 fun _ h82 =>
  aLoad true 2 v4 h82 fun v83 =>
  K (.tup [v83, (.p (.int .i64 0))]) h82)))
  (aBin false false .eql v7 (.p (.int .i64 7)) fun v84 =>
  aGuard v84
  (aLoad true 2 v2 h5 fun v85 =>
  aStore 2 v4 v85 h5 fun _ h87 =>
  aLoad true 2 v4 h87 fun v88 =>
  K (.tup [v88, (.p (.int .i64 0))]) h87)
  (aBin false false .eql v7 (.p (.int .i64 8)) fun v89 =>
  aGuard v89
  (aLoopN 1 [(.p (.int .i64 1))] h5 fun xs H B2 => runnelref10_made_L2 x1 v4 (xs.getD 0 .top) H B2 K)
  (aIndexAddr 2 x1 (.p (.int .i64 0)) fun v108 =>
  aLoad true 2 v108 h5 fun v109 =>
  aStore 2 v4 v109 h5 fun _ h111 =>
  aLoad true 2 v4 h111 fun v112 =>
  K (.tup [v112, (.p (.int .i64 0))]) h111))))))

def runnelref10_made_ann : Nat → List Nat := fun k => match k with | 9 => [10] | 27 => [13] | 1000015 => [1] | _ => []

theorem runnelref10_made_eq (x0 x1 x2 x3 : AV) (H : List Ob) (r : AV) (Ho : List Ob) : aBody Try.prog runnelref10_made_ann Try.f54 H [x0, x1, x2, x3] r Ho = runnelref10_made x0 x1 x2 x3 H (fun v H' => Gives H.length v H' r Ho) := by kernel_rfl

theorem runnelref10_made_fnH {x0 x1 x2 x3 : AV} {Hin : List Ob} {r : AV} {Ho : List Ob} (h : runnelref10_made x0 x1 x2 x3 Hin (fun v H' => Gives Hin.length v H' r Ho)) : Abs.Fn Try.prog runnelref10_made_i Hin [x0, x1, x2, x3] r Ho :=
  fn_intro mixed runnelref10_made_ann (fn := Try.f54) (by kernel_rfl) (by kernel_rfl) (by rw [runnelref10_made_eq]; exact h)

theorem runnelref10_made_fn {x0 x1 x2 x3 : AV} {r : AV} {Ho : List Ob} (h : runnelref10_made x0 x1 x2 x3 [] (fun v H' => Gives 0 v H' r Ho)) : Abs.Fn Try.prog runnelref10_made_i [] [x0, x1, x2, x3] r Ho := runnelref10_made_fnH (Hin := []) h

/- runnel/runnelref10.bare -/
def runnelref10_bare (x0 : AV) (H : List Ob) (K : AV → List Ob → Prop) : Prop :=
  aBox x0 H fun v0 h1 =>
  aFieldAddr 0 v0 fun v2 =>
  aLoad false 1 v2 h1 fun v3 =>
  aBin false false .eql v3 (.p (.str [])) fun v4 =>
  aMerge true v4 (fun Q5 =>
  aFieldAddr 1 v0 fun v6 =>
  aFieldAddr 0 v6 fun v7 =>
  aLoad false 1 v7 h1 fun v8 =>
  aBin false false .eql v8 (.p (.int .i64 0)) fun v9 =>
  (h1 = h1 ∧ Q5 v9)) fun v10 =>
  aMerge true v10 (fun Q11 =>
  aFieldAddr 1 v0 fun v12 =>
  aFieldAddr 1 v12 fun v13 =>
  aLoad false 1 v13 h1 fun v14 =>
  aBin false false .eql v14 (.p (.int .i64 0)) fun v15 =>
  (h1 = h1 ∧ Q11 v15)) fun v16 =>
  aMerge true v16 (fun Q17 =>
  aFieldAddr 1 v0 fun v18 =>
  aFieldAddr 2 v18 fun v19 =>
  aLoad false 1 v19 h1 fun v20 =>
  aUn .not v20 fun v21 =>
  (h1 = h1 ∧ Q17 v21)) fun v22 =>
  aMerge true v22 (fun Q23 =>
  aFieldAddr 1 v0 fun v24 =>
  aFieldAddr 3 v24 fun v25 =>
  aLoad false 1 v25 h1 fun v26 =>
  aBin false false .eql v26 (.p (.str [])) fun v27 =>
  (h1 = h1 ∧ Q23 v27)) fun v28 =>
  aMerge true v28 (fun Q29 =>
  aFieldAddr 1 v0 fun v30 =>
  aFieldAddr 4 v30 fun v31 =>
  aLoad false 1 v31 h1 fun v32 =>
  aLenS false v32 fun v33 =>
  aBin false false .eql v33 (.p (.int .i64 0)) fun v34 =>
  (h1 = h1 ∧ Q29 v34)) fun v35 =>
  aMerge true v35 (fun Q36 =>
  aFieldAddr 6 v0 fun v37 =>
  aLoad false 1 v37 h1 fun v38 =>
  aBin false false .eql v38 (.p (.int .i64 0)) fun v39 =>
  (h1 = h1 ∧ Q36 v39)) fun v40 =>
  aMerge true v40 (fun Q41 =>
  aFieldAddr 7 v0 fun v42 =>
  aLoad false 1 v42 h1 fun v43 =>
  aLenS false v43 fun v44 =>
  aBin false false .eql v44 (.p (.int .i64 0)) fun v45 =>
  (h1 = h1 ∧ Q41 v45)) fun v46 =>
  K v46 h1

def runnelref10_bare_ann : Nat → List Nat := fun _ => []

theorem runnelref10_bare_eq (x0 : AV) (H : List Ob) (r : AV) (Ho : List Ob) : aBody Try.prog runnelref10_bare_ann Try.f84 H [x0] r Ho = runnelref10_bare x0 H (fun v H' => Gives H.length v H' r Ho) := by kernel_rfl

theorem runnelref10_bare_fnH {x0 : AV} {Hin : List Ob} {r : AV} {Ho : List Ob} (h : runnelref10_bare x0 Hin (fun v H' => Gives Hin.length v H' r Ho)) : Abs.Fn Try.prog runnelref10_bare_i Hin [x0] r Ho :=
  fn_intro mixed runnelref10_bare_ann (fn := Try.f84) (by kernel_rfl) (by kernel_rfl) (by rw [runnelref10_bare_eq]; exact h)

theorem runnelref10_bare_fn {x0 : AV} {r : AV} {Ho : List Ob} (h : runnelref10_bare x0 [] (fun v H' => Gives 0 v H' r Ho)) : Abs.Fn Try.prog runnelref10_bare_i [] [x0] r Ho := runnelref10_bare_fnH (Hin := []) h

end Go.Proofs.Ytjendohiohhciaa
end

section
/- Made by program (Gen.lean): functions of the dump, over trees. -/
set_option maxRecDepth 4000
set_option linter.unusedVariables false
namespace Go.Proofs.Ytjendohiohhciaa
open Go Go.Abs

/- runnel/runnellaw7.Few -/
def runnellaw7_Few_L1 (q1s1 y0 : AV) (H : List Ob) (B1 : List AV → List Ob → Prop) (K : AV → List Ob → Prop) : Prop :=
  aFieldAddr 4 q1s1 fun v26 =>
  aLoad false 1 v26 H fun v27 =>
  aLen false false v27 fun v28 =>
  aBin false false .lss y0 v28 fun v29 =>
  aGuard v29
  (aFieldAddr 4 q1s1 fun v30 =>
  aLoad false 1 v30 H fun v31 =>
  aIndexAddr 8 v31 y0 fun v32 =>
  aLoad true 8 v32 H fun v33 =>
  aCall Try.prog (.p (.func runnellaw4_Few_i [])) [v33] H fun v34 h35 =>
  aUn .not v34 fun v36 =>
  aGuard v36
  (K (.p (.bool false)) h35)
  (aBin false false .add y0 (.p (.int .i64 1)) fun v37 =>
  B1 [v37] h35))
  (K (.p (.bool true)) H)

def runnellaw7_Few (x0 : AV) (H : List Ob) (K : AV → List Ob → Prop) : Prop :=
  aBox x0 H fun v0 h1 =>
  aFieldAddr 1 v0 fun v2 =>
  aLoad false 1 v2 h1 fun v3 =>
  aLen false true v3 fun v4 =>
  aBin false false .gtr v4 (.p (.int .i64 50)) fun v5 =>
  aMerge false v5 (fun Q6 =>
  aFieldAddr 2 v0 fun v7 =>
  aLoad true 2 v7 h1 fun v8 =>
  aCall Try.prog (.p (.func runnellaw1_Few_i [])) [v8] h1 fun v9 h10 =>
  aUn .not v9 fun v11 =>
  (h10 = h1 ∧ Q6 v11)) fun v12 =>
  aMerge false v12 (fun Q13 =>
  aFieldAddr 4 v0 fun v14 =>
  aLoad false 1 v14 h1 fun v15 =>
  aLenS false v15 fun v16 =>
  aBin false false .gtr v16 (.p (.int .i64 8)) fun v17 =>
  (h1 = h1 ∧ Q13 v17)) fun v18 =>
  aMerge false v18 (fun Q19 =>
  aFieldAddr 5 v0 fun v20 =>
  aLoad true 8 v20 h1 fun v21 =>
  aCall Try.prog (.p (.func runnellaw4_Few_i [])) [v21] h1 fun v22 h23 =>
  aUn .not v22 fun v24 =>
  (h23 = h1 ∧ Q19 v24)) fun v25 =>
  aGuard v25
  (K (.p (.bool false)) h1)
  (aLoopN 1 [(.p (.int .i64 0))] h1 fun xs H B1 => runnellaw7_Few_L1 v0 (xs.getD 0 .top) H B1 K)

def runnellaw7_Few_ann : Nat → List Nat := fun k => match k with | 4 => [3] | _ => []

theorem runnellaw7_Few_eq (x0 : AV) (H : List Ob) (r : AV) (Ho : List Ob) : aBody Try.prog runnellaw7_Few_ann Try.f10 H [x0] r Ho = runnellaw7_Few x0 H (fun v H' => Gives H.length v H' r Ho) := by kernel_rfl

theorem runnellaw7_Few_fnH {x0 : AV} {Hin : List Ob} {r : AV} {Ho : List Ob} (h : runnellaw7_Few x0 Hin (fun v H' => Gives Hin.length v H' r Ho)) : Abs.Fn Try.prog runnellaw7_Few_i Hin [x0] r Ho :=
  fn_intro mixed runnellaw7_Few_ann (fn := Try.f10) (by kernel_rfl) (by kernel_rfl) (by rw [runnellaw7_Few_eq]; exact h)

theorem runnellaw7_Few_fn {x0 : AV} {r : AV} {Ho : List Ob} (h : runnellaw7_Few x0 [] (fun v H' => Gives 0 v H' r Ho)) : Abs.Fn Try.prog runnellaw7_Few_i [] [x0] r Ho := runnellaw7_Few_fnH (Hin := []) h

/- runnel/runnellaw7.Of -/
def runnellaw7_Of_L1 (q1s1 q1s2 q1s3 y0 : AV) (H : List Ob) (B1 : List AV → List Ob → Prop) (K : AV → List Ob → Prop) : Prop :=
  aFieldAddr 4 q1s1 fun v23 =>
  aLoad false 1 v23 H fun v24 =>
  aLen false false v24 fun v25 =>
  aBin false false .lss y0 v25 fun v26 =>
  aGuard v26
  (aFieldAddr 4 q1s3 fun v27 =>
  aLoad false 1 v27 H fun v28 =>
  aFieldAddr 4 q1s1 fun v29 =>
  aLoad false 1 v29 H fun v30 =>
  aIndexAddr 8 v30 y0 fun v31 =>
  aLoad true 8 v31 H fun v32 =>
  aCallT Try.prog (.p (.func runnellaw4_Of_i [])) [v32] fun v33 =>
  aBuildSlice 8 [v33] fun v34 =>
  aCalm [v28, v34] <|
  aAppend false 8 112 v28 v34 H fun v35 h36 =>
  aFieldAddr 4 q1s3 fun v37 =>
  aStore 1 v37 v35 h36 fun _ h39 =>
  aBin false false .add y0 (.p (.int .i64 1)) fun v40 =>
  B1 [v40] h39)
  (aLoad true 15 q1s3 H fun v41 =>
  aStore 15 q1s2 v41 H fun _ h43 =>
  aLoad true 15 q1s2 h43 fun v44 =>
  K v44 h43)

def runnellaw7_Of (x0 : AV) (H : List Ob) (K : AV → List Ob → Prop) : Prop :=
  aBox x0 H fun v0 h1 =>
  aAlloc [(.p (.int .i64 0)), (.p (.str [])), (.p (.int .i64 0)), (.full []), (.full []), (.p (.str [])), (.p (.int .i64 0)), (.p (.int .i64 0)), (.p (.bool false)), (.p (.str [])), (.full []), (.p (.int .i64 0)), (.full []), (.p (.int .i64 0)), (.p (.int .i64 0))] h1 fun v2 h3 =>
  aAlloc [(.p (.int .i64 0)), (.p (.str [])), (.p (.int .i64 0)), (.full []), (.full []), (.p (.str [])), (.p (.int .i64 0)), (.p (.int .i64 0)), (.p (.bool false)), (.p (.str [])), (.full []), (.p (.int .i64 0)), (.full []), (.p (.int .i64 0)), (.p (.int .i64 0))] h3 fun v4 h5 =>
  aFieldAddr 0 v0 fun v6 =>
  aLoad false 1 v6 h5 fun v7 =>
  aFieldAddr 1 v0 fun v8 =>
  aLoad false 1 v8 h5 fun v9 =>
  aFieldAddr 2 v0 fun v10 =>
  aLoad true 2 v10 h5 fun v11 =>
  aCallT Try.prog (.p (.func runnellaw1_Of_i [])) [v11] fun v12 =>
  aFieldAddr 5 v0 fun v13 =>
  aLoad true 8 v13 h5 fun v14 =>
  aCallT Try.prog (.p (.func runnellaw4_Of_i [])) [v14] fun v15 =>
  aFieldAddr 13 v0 fun v16 =>
  aLoad false 1 v16 h5 fun v17 =>
  aFieldAddr 14 v0 fun v18 =>
  aLoad false 1 v18 h5 fun v19 =>
  aBuild [(.p (.int .i64 0)), (.p (.str [])), (.p (.int .i64 0)), (.full []), (.full []), (.p (.str [])), (.p (.int .i64 0)), (.p (.int .i64 0)), (.p (.bool false)), (.p (.str [])), (.full []), (.p (.int .i64 0)), (.full []), (.p (.int .i64 0)), (.p (.int .i64 0))] [(0, 1, v7), (1, 1, v9), (2, 2, v12), (5, 8, v15), (13, 1, v17), (14, 1, v19)] fun v20 =>
  aStore 15 v4 v20 h5 fun _ h22 =>
  aLoopN 1 [(.p (.int .i64 0))] h22 fun xs H B1 => runnellaw7_Of_L1 v0 v2 v4 (xs.getD 0 .top) H B1 K

def runnellaw7_Of_ann : Nat → List Nat := fun k => match k with | 3 => [4] | _ => []

theorem runnellaw7_Of_eq (x0 : AV) (H : List Ob) (r : AV) (Ho : List Ob) : aBody Try.prog runnellaw7_Of_ann Try.f12 H [x0] r Ho = runnellaw7_Of x0 H (fun v H' => Gives H.length v H' r Ho) := by kernel_rfl

theorem runnellaw7_Of_fnH {x0 : AV} {Hin : List Ob} {r : AV} {Ho : List Ob} (h : runnellaw7_Of x0 Hin (fun v H' => Gives Hin.length v H' r Ho)) : Abs.Fn Try.prog runnellaw7_Of_i Hin [x0] r Ho :=
  fn_intro mixed runnellaw7_Of_ann (fn := Try.f12) (by kernel_rfl) (by kernel_rfl) (by rw [runnellaw7_Of_eq]; exact h)

theorem runnellaw7_Of_fn {x0 : AV} {r : AV} {Ho : List Ob} (h : runnellaw7_Of x0 [] (fun v H' => Gives 0 v H' r Ho)) : Abs.Fn Try.prog runnellaw7_Of_i [] [x0] r Ho := runnellaw7_Of_fnH (Hin := []) h

end Go.Proofs.Ytjendohiohhciaa
end

section
/- Made by program (Gen.lean): functions of the dump, over trees. -/
set_option maxRecDepth 4000
set_option linter.unusedVariables false
namespace Go.Proofs.Ytjendohiohhciaa
open Go Go.Abs

/- runnel/runnellaw11.Same -/
def runnellaw11_Same_L1 (q1s0 q1s1 y0 : AV) (H : List Ob) (B1 : List AV → List Ob → Prop) (K : AV → List Ob → Prop) : Prop :=
  aLen false false q1s0 fun v3 =>
  aBin false false .lss y0 v3 fun v4 =>
  aGuard v4
  (aIndexAddr 7 q1s0 y0 fun v5 =>
  aFieldAddr 0 v5 fun v6 =>
  aLoad false 1 v6 H fun v7 =>
  aIndexAddr 7 q1s1 y0 fun v8 =>
  aFieldAddr 0 v8 fun v9 =>
  aLoad false 1 v9 H fun v10 =>
  aBin false false .neq v7 v10 fun v11 =>
  aGuard v11
  (K (.p (.bool false)) H)
  (aIndexAddr 7 q1s0 y0 fun v12 =>
  aFieldAddr 6 v12 fun v13 =>
  aLoad false 1 v13 H fun v14 =>
  aIndexAddr 7 q1s1 y0 fun v15 =>
  aFieldAddr 6 v15 fun v16 =>
  aLoad false 1 v16 H fun v17 =>
  aBin false false .neq v14 v17 fun v18 =>
  aGuard v18
  (K (.p (.bool false)) H)
  (aIndexAddr 7 q1s0 y0 fun v19 =>
  aFieldAddr 1 v19 fun v20 =>
  aLoad true 5 v20 H fun v21 =>
  aBuildSlice 5 [v21] fun v22 =>
  aIndexAddr 7 q1s1 y0 fun v23 =>
  aFieldAddr 1 v23 fun v24 =>
  aLoad true 5 v24 H fun v25 =>
  aBuildSlice 5 [v25] fun v26 =>
  aCallT Try.prog (.p (.func runnellaw2_SameAll_i [])) [v22, v26] fun v27 =>
  aUn .not v27 fun v28 =>
  aGuard v28
  (K (.p (.bool false)) H)
  (aBin false false .add y0 (.p (.int .i64 1)) fun v29 =>
  B1 [v29] H))))
  (K (.p (.bool true)) H)

def runnellaw11_Same (x0 x1 : AV) (H : List Ob) (K : AV → List Ob → Prop) : Prop :=
  aLen false false x0 fun v0 =>
  aLen false false x1 fun v1 =>
  aBin false false .neq v0 v1 fun v2 =>
  aGuard v2
  (K (.p (.bool false)) H)
  (aLoopN 1 [(.p (.int .i64 0))] H fun xs H B1 => runnellaw11_Same_L1 x0 x1 (xs.getD 0 .top) H B1 K)

def runnellaw11_Same_ann : Nat → List Nat := fun k => match k with | 4 => [5] | _ => []

theorem runnellaw11_Same_eq (x0 x1 : AV) (H : List Ob) (r : AV) (Ho : List Ob) : aBody Try.prog runnellaw11_Same_ann Try.f15 H [x0, x1] r Ho = runnellaw11_Same x0 x1 H (fun v H' => Gives H.length v H' r Ho) := by kernel_rfl

theorem runnellaw11_Same_fnH {x0 x1 : AV} {Hin : List Ob} {r : AV} {Ho : List Ob} (h : runnellaw11_Same x0 x1 Hin (fun v H' => Gives Hin.length v H' r Ho)) : Abs.Fn Try.prog runnellaw11_Same_i Hin [x0, x1] r Ho :=
  fn_intro mixed runnellaw11_Same_ann (fn := Try.f15) (by kernel_rfl) (by kernel_rfl) (by rw [runnellaw11_Same_eq]; exact h)

theorem runnellaw11_Same_fn {x0 x1 : AV} {r : AV} {Ho : List Ob} (h : runnellaw11_Same x0 x1 [] (fun v H' => Gives 0 v H' r Ho)) : Abs.Fn Try.prog runnellaw11_Same_i [] [x0, x1] r Ho := runnellaw11_Same_fnH (Hin := []) h

/- runnel/runnellaw11.Few -/
def runnellaw11_Few_L1 (q1s0 y0 : AV) (H : List Ob) (B1 : List AV → List Ob → Prop) (K : AV → List Ob → Prop) : Prop :=
  aLen false false q1s0 fun v2 =>
  aBin false false .lss y0 v2 fun v3 =>
  aGuard v3
  (aIndexAddr 7 q1s0 y0 fun v4 =>
  aFieldAddr 0 v4 fun v5 =>
  aLoad false 1 v5 H fun v6 =>
  aLen false true v6 fun v7 =>
  aBin false false .gtr v7 (.p (.int .i64 20)) fun v8 =>
  aMerge false v8 (fun Q9 =>
  aIndexAddr 7 q1s0 y0 fun v10 =>
  aFieldAddr 1 v10 fun v11 =>
  aLoad true 5 v11 H fun v12 =>
  aCall Try.prog (.p (.func runnellaw2_Few_i [])) [v12] H fun v13 h14 =>
  aUn .not v13 fun v15 =>
  (h14 = H ∧ Q9 v15)) fun v16 =>
  aGuard v16
  (K (.p (.bool false)) H)
  (aBin false false .add y0 (.p (.int .i64 1)) fun v17 =>
  B1 [v17] H))
  (K (.p (.bool true)) H)

def runnellaw11_Few (x0 : AV) (H : List Ob) (K : AV → List Ob → Prop) : Prop :=
  aLen false false x0 fun v0 =>
  aBin false false .gtr v0 (.p (.int .i64 300)) fun v1 =>
  aGuard v1
  (K (.p (.bool false)) H)
  (aLoopN 1 [(.p (.int .i64 0))] H fun xs H B1 => runnellaw11_Few_L1 x0 (xs.getD 0 .top) H B1 K)

def runnellaw11_Few_ann : Nat → List Nat := fun k => match k with | 4 => [3] | _ => []

theorem runnellaw11_Few_eq (x0 : AV) (H : List Ob) (r : AV) (Ho : List Ob) : aBody Try.prog runnellaw11_Few_ann Try.f29 H [x0] r Ho = runnellaw11_Few x0 H (fun v H' => Gives H.length v H' r Ho) := by kernel_rfl

theorem runnellaw11_Few_fnH {x0 : AV} {Hin : List Ob} {r : AV} {Ho : List Ob} (h : runnellaw11_Few x0 Hin (fun v H' => Gives Hin.length v H' r Ho)) : Abs.Fn Try.prog runnellaw11_Few_i Hin [x0] r Ho :=
  fn_intro mixed runnellaw11_Few_ann (fn := Try.f29) (by kernel_rfl) (by kernel_rfl) (by rw [runnellaw11_Few_eq]; exact h)

theorem runnellaw11_Few_fn {x0 : AV} {r : AV} {Ho : List Ob} (h : runnellaw11_Few x0 [] (fun v H' => Gives 0 v H' r Ho)) : Abs.Fn Try.prog runnellaw11_Few_i [] [x0] r Ho := runnellaw11_Few_fnH (Hin := []) h

/- runnel/runnellaw11.Of -/
def runnellaw11_Of_L1 (q1s0 y0 y1 : AV) (H : List Ob) (B1 : List AV → List Ob → Prop) (K : AV → List Ob → Prop) : Prop :=
  aLen false false q1s0 fun v0 =>
  aBin false false .lss y1 v0 fun v1 =>
  aGuard v1
  (aIndexAddr 7 q1s0 y1 fun v2 =>
  aFieldAddr 0 v2 fun v3 =>
  aLoad false 1 v3 H fun v4 =>
  aIndexAddr 7 q1s0 y1 fun v5 =>
  aFieldAddr 1 v5 fun v6 =>
  aLoad true 5 v6 H fun v7 =>
  aCallT Try.prog (.p (.func runnellaw2_Of_i [])) [v7] fun v8 =>
  aIndexAddr 7 q1s0 y1 fun v9 =>
  aFieldAddr 6 v9 fun v10 =>
  aLoad false 1 v10 H fun v11 =>
  aBuild [(.p (.str [])), (.p (.int .i64 0)), (.p (.int .i64 0)), (.p (.bool false)), (.p (.str [])), (.full []), (.p (.int .i64 0))] [(0, 1, v4), (1, 5, v8), (6, 1, v11)] fun v12 =>
  aBuildSlice 7 [v12] fun v13 =>
  aCalm [y0, v13] <|
  aAppend false 7 88 y0 v13 H fun v14 h15 =>
  aBin false false .add y1 (.p (.int .i64 1)) fun v16 =>
  B1 [v14, v16] h15)
  (K y0 H)

def runnellaw11_Of (x0 : AV) (H : List Ob) (K : AV → List Ob → Prop) : Prop :=
  aLoopN 2 [(.full []), (.p (.int .i64 0))] H fun xs H B1 => runnellaw11_Of_L1 x0 (xs.getD 0 .top) (xs.getD 1 .top) H B1 K

def runnellaw11_Of_ann : Nat → List Nat := fun k => match k with | 3 => [3, 4] | _ => []

theorem runnellaw11_Of_eq (x0 : AV) (H : List Ob) (r : AV) (Ho : List Ob) : aBody Try.prog runnellaw11_Of_ann Try.f31 H [x0] r Ho = runnellaw11_Of x0 H (fun v H' => Gives H.length v H' r Ho) := by kernel_rfl

theorem runnellaw11_Of_fnH {x0 : AV} {Hin : List Ob} {r : AV} {Ho : List Ob} (h : runnellaw11_Of x0 Hin (fun v H' => Gives Hin.length v H' r Ho)) : Abs.Fn Try.prog runnellaw11_Of_i Hin [x0] r Ho :=
  fn_intro mixed runnellaw11_Of_ann (fn := Try.f31) (by kernel_rfl) (by kernel_rfl) (by rw [runnellaw11_Of_eq]; exact h)

theorem runnellaw11_Of_fn {x0 : AV} {r : AV} {Ho : List Ob} (h : runnellaw11_Of x0 [] (fun v H' => Gives 0 v H' r Ho)) : Abs.Fn Try.prog runnellaw11_Of_i [] [x0] r Ho := runnellaw11_Of_fnH (Hin := []) h

/- runnel/runnellaw11.To -/
def runnellaw11_To_L1 (q1s0 y0 y1 : AV) (H : List Ob) (B1 : List AV → List Ob → Prop) (K : AV → List Ob → Prop) : Prop :=
  aLen false false q1s0 fun v0 =>
  aBin false false .lss y1 v0 fun v1 =>
  aGuard v1
  (aIndexAddr 7 q1s0 y1 fun v2 =>
  aFieldAddr 0 v2 fun v3 =>
  aLoad false 1 v3 H fun v4 =>
  aIndexAddr 7 q1s0 y1 fun v5 =>
  aFieldAddr 1 v5 fun v6 =>
  aLoad true 5 v6 H fun v7 =>
  aCallT Try.prog (.p (.func runnellaw2_To_i [])) [v7] fun v8 =>
  aIndexAddr 7 q1s0 y1 fun v9 =>
  aFieldAddr 6 v9 fun v10 =>
  aLoad false 1 v10 H fun v11 =>
  aBuild [(.p (.str [])), (.p (.int .i64 0)), (.p (.int .i64 0)), (.p (.bool false)), (.p (.str [])), (.full []), (.p (.int .i64 0))] [(0, 1, v4), (1, 5, v8), (6, 1, v11)] fun v12 =>
  aBuildSlice 7 [v12] fun v13 =>
  aCalm [y0, v13] <|
  aAppend false 7 88 y0 v13 H fun v14 h15 =>
  aBin false false .add y1 (.p (.int .i64 1)) fun v16 =>
  B1 [v14, v16] h15)
  (K y0 H)

def runnellaw11_To (x0 : AV) (H : List Ob) (K : AV → List Ob → Prop) : Prop :=
  aLoopN 2 [(.full []), (.p (.int .i64 0))] H fun xs H B1 => runnellaw11_To_L1 x0 (xs.getD 0 .top) (xs.getD 1 .top) H B1 K

def runnellaw11_To_ann : Nat → List Nat := fun k => match k with | 3 => [3, 4] | _ => []

theorem runnellaw11_To_eq (x0 : AV) (H : List Ob) (r : AV) (Ho : List Ob) : aBody Try.prog runnellaw11_To_ann Try.f43 H [x0] r Ho = runnellaw11_To x0 H (fun v H' => Gives H.length v H' r Ho) := by kernel_rfl

theorem runnellaw11_To_fnH {x0 : AV} {Hin : List Ob} {r : AV} {Ho : List Ob} (h : runnellaw11_To x0 Hin (fun v H' => Gives Hin.length v H' r Ho)) : Abs.Fn Try.prog runnellaw11_To_i Hin [x0] r Ho :=
  fn_intro mixed runnellaw11_To_ann (fn := Try.f43) (by kernel_rfl) (by kernel_rfl) (by rw [runnellaw11_To_eq]; exact h)

theorem runnellaw11_To_fn {x0 : AV} {r : AV} {Ho : List Ob} (h : runnellaw11_To x0 [] (fun v H' => Gives 0 v H' r Ho)) : Abs.Fn Try.prog runnellaw11_To_i [] [x0] r Ho := runnellaw11_To_fnH (Hin := []) h

end Go.Proofs.Ytjendohiohhciaa
end

section
/- Made by program (Gen.lean): functions of the dump, over trees. -/
set_option maxRecDepth 4000
set_option linter.unusedVariables false
namespace Go.Proofs.Ytjendohiohhciaa
open Go Go.Abs

/- runnel/runnellaw14.VmRun -/
def runnellaw14_VmRun (x0 x1 : AV) (H : List Ob) (K : AV → List Ob → Prop) : Prop :=
  aBox x1 H fun v0 h1 =>
  aCall Try.prog (.p (.func runnellaw14_known_i [])) [] h1 fun v2 h3 =>
  aUn .not v2 fun v4 =>
  aGuard v4
  (K (.p (.bool false)) h3)
  (aCall Try.prog (.p (.func runnellaw11_Few_i [])) [x0] h3 fun v5 h6 =>
  aUn .not v5 fun v7 =>
  aMerge false v7 (fun Q8 =>
  aLoad true 5 v0 h6 fun v9 =>
  aCall Try.prog (.p (.func runnellaw2_Good_i [])) [v9] h6 fun v10 h11 =>
  aUn .not v10 fun v12 =>
  (h11 = h6 ∧ Q8 v12)) fun v13 =>
  aGuard v13
  (K (.p (.bool true)) h6)
  (aCall Try.prog (.p (.func runnellaw11_Of_i [])) [x0] h6 fun v14 h15 =>
  aLoad true 5 v0 h15 fun v16 =>
  aCall Try.prog (.p (.func runnellaw2_Of_i [])) [v16] h15 fun v17 h18 =>
  aCall Try.prog (.p (.func runnelref6_TypeOf_i [])) [v17] h18 fun v19 h20 =>
  aCall Try.prog (.p (.func runnelref14_Verify_i [])) [v14, v19] h20 fun v21 h22 =>
  aExtract v21 0 fun v23 =>
  aExtract v21 1 fun _ =>
  aExtract v21 2 fun v25 =>
  aAlloc [(.p (.int .i64 0)), (.full [])] h22 fun v26 h27 =>
  aStore 2 v26 v23 h27 fun _ h29 =>
  aBin false false .neq v25 (.p (.int .i64 0)) fun v30 =>
  aGuard v30
  (K (.p (.bool true)) h29)
  (aLoad true 5 v0 h29 fun v31 =>
  aCall Try.prog (.p (.func vm_Run_i [])) [x0, v31] h29 fun v32 h33 =>
  aExtract v32 0 fun v34 =>
  aExtract v32 1 fun v35 =>
  aLoad true 5 v0 h33 fun v36 =>
  aCall Try.prog (.p (.func runnellaw2_Of_i [])) [v36] h33 fun v37 h38 =>
  aCall Try.prog (.p (.func runnelref14_Run_i [])) [v14, v37] h38 fun v39 h40 =>
  aExtract v39 0 fun v41 =>
  aExtract v39 1 fun v42 =>
  aBin false false .eql v35 v42 fun v43 =>
  aMerge true v43 (fun Q44 =>
  aCall Try.prog (.p (.func runnellaw2_SameAll_i [])) [v34, v41] h40 fun v45 h46 =>
  (h46 = h40 ∧ Q44 v45)) fun v47 =>
  K v47 h40)))

def runnellaw14_VmRun_ann : Nat → List Nat := fun _ => []

theorem runnellaw14_VmRun_eq (x0 x1 : AV) (H : List Ob) (r : AV) (Ho : List Ob) : aBody Try.prog runnellaw14_VmRun_ann Try.f5 H [x0, x1] r Ho = runnellaw14_VmRun x0 x1 H (fun v H' => Gives H.length v H' r Ho) := by kernel_rfl

theorem runnellaw14_VmRun_fnH {x0 x1 : AV} {Hin : List Ob} {r : AV} {Ho : List Ob} (h : runnellaw14_VmRun x0 x1 Hin (fun v H' => Gives Hin.length v H' r Ho)) : Abs.Fn Try.prog runnellaw14_VmRun_i Hin [x0, x1] r Ho :=
  fn_intro mixed runnellaw14_VmRun_ann (fn := Try.f5) (by kernel_rfl) (by kernel_rfl) (by rw [runnellaw14_VmRun_eq]; exact h)

theorem runnellaw14_VmRun_fn {x0 x1 : AV} {r : AV} {Ho : List Ob} (h : runnellaw14_VmRun x0 x1 [] (fun v H' => Gives 0 v H' r Ho)) : Abs.Fn Try.prog runnellaw14_VmRun_i [] [x0, x1] r Ho := runnellaw14_VmRun_fnH (Hin := []) h

/- runnel/runnellaw14.VmFused -/
def runnellaw14_VmFused_L4 (q4s10 q4s13 y0 : AV) (H : List Ob) (B4 : List AV → List Ob → Prop) (B1 : List AV → List Ob → Prop) (K : AV → List Ob → Prop) : Prop :=
  aLen false false q4s13 fun v91 =>
  aBin false false .lss y0 v91 fun v92 =>
  aGuard v92
  (aIndexAddr 6 q4s13 y0 fun v93 =>
  aFieldAddr 0 v93 fun v94 =>
  aLoad false 1 v94 H fun v95 =>
  aBin false false .neq v95 (.p (.int .i64 2)) fun v96 =>
  aMerge false v96 (fun Q97 =>
  aIndexAddr 6 q4s13 y0 fun v98 =>
  aFieldAddr 1 v98 fun v99 =>
  aFieldAddr 1 v99 fun v100 =>
  aLoad false 1 v100 H fun v101 =>
  aBin false false .neq v101 (.p (.int .i64 0)) fun v102 =>
  (H = H ∧ Q97 v102)) fun v103 =>
  aMerge false v103 (fun Q104 =>
  aIndexAddr 6 q4s13 y0 fun v105 =>
  aFieldAddr 1 v105 fun v106 =>
  aFieldAddr 0 v106 fun v107 =>
  aLoad false 1 v107 H fun v108 =>
  aBin false false .neq v108 (.p (.int .i64 1)) fun v109 =>
  (H = H ∧ Q104 v109)) fun v110 =>
  aGuard v110
  (K (.p (.bool false)) H)
  (aBin false false .add y0 (.p (.int .i64 1)) fun v111 =>
  B4 [v111] H))
  (aBin false false .add q4s10 (.p (.int .i64 1)) fun v112 =>
  B1 [v112] H)

def runnellaw14_VmFused_L3 (q3s10 q3s12 q3s13 q3s14 y0 : AV) (H : List Ob) (B3 : List AV → List Ob → Prop) (B1 : List AV → List Ob → Prop) (K : AV → List Ob → Prop) : Prop :=
  aLen false false q3s12 fun v82 =>
  aBin false false .lss y0 v82 fun v83 =>
  aGuard v83
  (aIndexAddr 5 q3s12 y0 fun v84 =>
  aFieldAddr 1 v84 fun v85 =>
  aLoad false 1 v85 H fun v86 =>
  aIndexAddr 1 q3s14 y0 fun v87 =>
  aLoad false 1 v87 H fun v88 =>
  aBin false false .neq v86 v88 fun v89 =>
  aGuard v89
  (K (.p (.bool false)) H)
  (aBin false false .add y0 (.p (.int .i64 1)) fun v90 =>
  B3 [v90] H))
  (aLoopN 1 [(.p (.int .i64 0))] H fun xs H B4 => runnellaw14_VmFused_L4 q3s10 q3s13 (xs.getD 0 .top) H B4 B1 K)

def runnellaw14_VmFused_L2 (q2s1 q2s2 q2s10 q2s11 q2s12 q2s13 y0 y1 y2 : AV) (H : List Ob) (B2 : List AV → List Ob → Prop) (B1 : List AV → List Ob → Prop) (K : AV → List Ob → Prop) : Prop :=
  aBin false false .lss y2 (.p (.int .i64 2)) fun v60 =>
  aGuard v60
  (aConvInt .i64 q2s1 fun v61 =>
  aBin false false .mul y2 v61 fun v62 =>
  aBin false false .add q2s11 v62 fun v63 =>
  aConvInt .i64 q2s2 fun v64 =>
  aBin false false .geq v63 v64 fun v65 =>
  aGuard v65
  (aBin false false .add y2 (.p (.int .i64 1)) fun v66 =>
  B2 [y0, y1, v66] H)
  (aBin false false .eql v63 (.p (.int .i64 0)) fun v67 =>
  aGuard v67
  (aBin false false .add y1 (.p (.int .i64 1)) fun v68 =>
  aBin false false .add y2 (.p (.int .i64 1)) fun v69 =>
  B2 [y0, v68, v69] H)
  (aBin false false .quo (.p (.int .i64 1000)) v63 fun v70 =>
  aBuildSlice 1 [v70] fun v71 =>
  aAppend false 1 8 y0 v71 H fun v72 h73 =>
  aBin false false .add y2 (.p (.int .i64 1)) fun v74 =>
  B2 [v72, y1, v74] h73)))
  (aLen false false q2s12 fun v75 =>
  aLen false false y0 fun v76 =>
  aBin false false .neq v75 v76 fun v77 =>
  aMerge false v77 (fun Q78 =>
  aLenS false q2s13 fun v79 =>
  aBin false false .neq v79 y1 fun v80 =>
  (H = H ∧ Q78 v80)) fun v81 =>
  aGuard v81
  (K (.p (.bool false)) H)
  (aLoopN 1 [(.p (.int .i64 0))] H fun xs H B3 => runnellaw14_VmFused_L3 q2s10 q2s12 q2s13 y0 (xs.getD 0 .top) H B3 B1 K))

def runnellaw14_VmFused_L1 (q1s0 q1s1 q1s2 q1s7 q1s8 q1s9 y0 : AV) (H : List Ob) (B1 : List AV → List Ob → Prop) (K : AV → List Ob → Prop) : Prop :=
  aLen false false q1s0 fun v48 =>
  aBin false false .lss y0 v48 fun v49 =>
  aGuard v49
  (aIndexAddr 1 q1s0 y0 fun v50 =>
  aLoad false 1 v50 H fun v51 =>
  aConvInt .i64 v51 fun v52 =>
  aBuildSlice 1 [q1s7, q1s8, q1s9] fun v53 =>
  aCall Try.prog (.p (.func val_Int_i [])) [v52] H fun v54 h55 =>
  aCall Try.prog (.p (.func vm_Chain_i [])) [v53, v54] h55 fun v56 h57 =>
  aExtract v56 0 fun v58 =>
  aExtract v56 1 fun v59 =>
  aLoopN 3 [(.full []), (.p (.int .i64 0)), (.p (.int .i64 0))] h57 fun xs H B2 => runnellaw14_VmFused_L2 q1s1 q1s2 y0 v52 v58 v59 (xs.getD 0 .top) (xs.getD 1 .top) (xs.getD 2 .top) H B2 B1 K)
  (K (.p (.bool true)) H)

def runnellaw14_VmFused (x0 x1 x2 : AV) (H : List Ob) (K : AV → List Ob → Prop) : Prop :=
  aCall Try.prog (.p (.func runnellaw14_known_i [])) [] H fun v0 h1 =>
  aUn .not v0 fun v2 =>
  aGuard v2
  (K (.p (.bool false)) h1)
  (aLen false false x0 fun v3 =>
  aBin false false .gtr v3 (.p (.int .i64 40)) fun v4 =>
  aGuard v4
  (K (.p (.bool true)) h1)
  (aCall Try.prog (.p (.func runnellaw4_X_i [])) [] h1 fun v5 h6 =>
  aCall Try.prog (.p (.func runnellaw4_X_i [])) [] h6 fun v7 h8 =>
  aConvInt .i64 x1 fun v9 =>
  aCall Try.prog (.p (.func val_Int_i [])) [v9] h8 fun v10 h11 =>
  aCall Try.prog (.p (.func runnellaw4_Lit_i [])) [v10] h11 fun v12 h13 =>
  aBuildSlice 8 [v7, v12] fun v14 =>
  aCall Try.prog (.p (.func runnellaw4_Op_i [])) [(.p (.str [97, 100, 100])), v14] h13 fun v15 h16 =>
  aBuildSlice 8 [v5, v15] fun v17 =>
  aBuild [(.p (.int .i64 0)), (.p (.str [])), (.p (.int .i64 0)), (.full []), (.full []), (.p (.str [])), (.p (.int .i64 0)), (.p (.int .i64 0)), (.p (.bool false)), (.p (.str [])), (.full []), (.p (.int .i64 0)), (.full []), (.p (.int .i64 0)), (.p (.int .i64 0))] [(0, 1, (.p (.int .i64 4))), (4, 1, v17)] fun v18 =>
  aCall Try.prog (.p (.func runnellaw14_made_i [])) [v18] h16 fun v19 h20 =>
  aCall Try.prog (.p (.func runnellaw4_X_i [])) [] h20 fun v21 h22 =>
  aConvInt .i64 x2 fun v23 =>
  aCall Try.prog (.p (.func val_Int_i [])) [v23] h22 fun v24 h25 =>
  aCall Try.prog (.p (.func runnellaw4_Lit_i [])) [v24] h25 fun v26 h27 =>
  aBuildSlice 8 [v21, v26] fun v28 =>
  aCall Try.prog (.p (.func runnellaw4_Op_i [])) [(.p (.str [108, 116])), v28] h27 fun v29 h30 =>
  aBuildSlice 8 [v29] fun v31 =>
  aBuild [(.p (.int .i64 0)), (.p (.str [])), (.p (.int .i64 0)), (.full []), (.full []), (.p (.str [])), (.p (.int .i64 0)), (.p (.int .i64 0)), (.p (.bool false)), (.p (.str [])), (.full []), (.p (.int .i64 0)), (.full []), (.p (.int .i64 0)), (.p (.int .i64 0))] [(0, 1, (.p (.int .i64 3))), (4, 1, v31)] fun v32 =>
  aCall Try.prog (.p (.func runnellaw14_made_i [])) [v32] h30 fun v33 h34 =>
  aCall Try.prog (.p (.func val_Int_i [])) [(.p (.int .i64 1000))] h34 fun v35 h36 =>
  aCall Try.prog (.p (.func runnellaw4_Lit_i [])) [v35] h36 fun v37 h38 =>
  aCall Try.prog (.p (.func runnellaw4_X_i [])) [] h38 fun v39 h40 =>
  aBuildSlice 8 [v37, v39] fun v41 =>
  aCall Try.prog (.p (.func runnellaw4_Op_i [])) [(.p (.str [100, 105, 118])), v41] h40 fun v42 h43 =>
  aBuildSlice 8 [v42] fun v44 =>
  aBuild [(.p (.int .i64 0)), (.p (.str [])), (.p (.int .i64 0)), (.full []), (.full []), (.p (.str [])), (.p (.int .i64 0)), (.p (.int .i64 0)), (.p (.bool false)), (.p (.str [])), (.full []), (.p (.int .i64 0)), (.full []), (.p (.int .i64 0)), (.p (.int .i64 0))] [(0, 1, (.p (.int .i64 2))), (4, 1, v44)] fun v45 =>
  aCall Try.prog (.p (.func runnellaw14_made_i [])) [v45] h43 fun v46 h47 =>
  aLoopN 1 [(.p (.int .i64 0))] h47 fun xs H B1 => runnellaw14_VmFused_L1 x0 x1 x2 v19 v33 v46 (xs.getD 0 .top) H B1 K))

def runnellaw14_VmFused_ann : Nat → List Nat := fun k => match k with | 9 => [10] | 16 => [14, 15, 16] | 26 => [18] | 31 => [19] | _ => []

theorem runnellaw14_VmFused_eq (x0 x1 x2 : AV) (H : List Ob) (r : AV) (Ho : List Ob) : aBody Try.prog runnellaw14_VmFused_ann Try.f6 H [x0, x1, x2] r Ho = runnellaw14_VmFused x0 x1 x2 H (fun v H' => Gives H.length v H' r Ho) := by kernel_rfl

theorem runnellaw14_VmFused_fnH {x0 x1 x2 : AV} {Hin : List Ob} {r : AV} {Ho : List Ob} (h : runnellaw14_VmFused x0 x1 x2 Hin (fun v H' => Gives Hin.length v H' r Ho)) : Abs.Fn Try.prog runnellaw14_VmFused_i Hin [x0, x1, x2] r Ho :=
  fn_intro mixed runnellaw14_VmFused_ann (fn := Try.f6) (by kernel_rfl) (by kernel_rfl) (by rw [runnellaw14_VmFused_eq]; exact h)

theorem runnellaw14_VmFused_fn {x0 x1 x2 : AV} {r : AV} {Ho : List Ob} (h : runnellaw14_VmFused x0 x1 x2 [] (fun v H' => Gives 0 v H' r Ho)) : Abs.Fn Try.prog runnellaw14_VmFused_i [] [x0, x1, x2] r Ho := runnellaw14_VmFused_fnH (Hin := []) h

/- runnel/runnellaw14.VmPlain -/
def runnellaw14_VmPlain_L2 (q2s0 q2s7 q2s8 y0 y1 y2 : AV) (H : List Ob) (B2 : List AV → List Ob → Prop) (B1 : List AV → List Ob → Prop) (K : AV → List Ob → Prop) : Prop :=
  aBin false false .lss y2 q2s8 fun v20 =>
  aGuard v20
  (aIndexAddr 5 q2s0 y1 fun v21 =>
  aFieldAddr 4 v21 fun v22 =>
  aLoad false 1 v22 H fun v23 =>
  aLen true false v23 fun v24 =>
  aBin false false .gtr v24 (.p (.int .i64 0)) fun v25 =>
  aGuard v25
  (K (.p (.bool true)) H)
  (aIndexAddr 5 q2s0 y1 fun v26 =>
  aLoad true 5 v26 H fun v27 =>
  aCallT Try.prog (.p (.func val_Check_i [])) [v27] fun v28 =>
  aBin false false .neq v28 (.p (.int .i64 0)) fun v29 =>
  aGuard v29
  (K (.p (.bool true)) H)
  (aIndexAddr 5 q2s0 y1 fun v30 =>
  aFieldAddr 0 v30 fun v31 =>
  aLoad false 1 v31 H fun v32 =>
  aIndexAddr 5 q2s0 (.p (.int .i64 0)) fun v33 =>
  aFieldAddr 0 v33 fun v34 =>
  aLoad false 1 v34 H fun v35 =>
  aBin false false .neq v32 v35 fun v36 =>
  aGuard v36
  (K (.p (.bool true)) H)
  (aIndexAddr 5 q2s0 y1 fun v37 =>
  aLoad true 5 v37 H fun v38 =>
  aBuild [(.p (.str [])), (.p (.int .i64 0)), (.p (.int .i64 0)), (.p (.bool false)), (.p (.str [])), (.full []), (.p (.int .i64 0))] [(0, 1, (.p (.str [112, 117, 115, 104]))), (1, 5, v38)] fun v39 =>
  aBuildSlice 7 [v39] fun v40 =>
  aAppend false 7 88 y0 v40 H fun v41 h42 =>
  aBin false false .add y1 (.p (.int .i64 1)) fun v43 =>
  aBin false false .add y2 (.p (.int .i64 1)) fun v44 =>
  B2 [v41, v43, v44] h42))))
  (aBuild [(.p (.str [])), (.p (.int .i64 0)), (.p (.int .i64 0)), (.p (.bool false)), (.p (.str [])), (.full []), (.p (.int .i64 0))] [(0, 1, (.p (.str [101, 109, 105, 116]))), (6, 1, q2s8)] fun v45 =>
  aBuildSlice 7 [v45] fun v46 =>
  aAppend false 7 88 y0 v46 H fun v47 h48 =>
  aBin false false .add q2s7 (.p (.int .i64 1)) fun v49 =>
  B1 [v47, y1, v49] h48)

def runnellaw14_VmPlain_J1 (j1s0 j1s5 j1s6 j1s7 j1s8 : AV) (H : List Ob) (B1 : List AV → List Ob → Prop) (K : AV → List Ob → Prop) : Prop :=
  aLoopN 3 [j1s5, j1s6, (.p (.int .i64 0))] H fun xs H B2 => runnellaw14_VmPlain_L2 j1s0 j1s7 j1s8 (xs.getD 0 .top) (xs.getD 1 .top) (xs.getD 2 .top) H B2 B1 K

def runnellaw14_VmPlain_L3 (q3s0 q3s6 q3s10 y0 : AV) (H : List Ob) (B3 : List AV → List Ob → Prop) (K : AV → List Ob → Prop) : Prop :=
  aBin false false .lss y0 q3s6 fun v70 =>
  aGuard v70
  (aIndexAddr 5 q3s10 y0 fun v71 =>
  aLoad true 5 v71 H fun v72 =>
  aIndexAddr 5 q3s0 y0 fun v73 =>
  aLoad true 5 v73 H fun v74 =>
  aCallT Try.prog (.p (.func val_Same_i [])) [v72, v74] fun v75 =>
  aUn .not v75 fun v76 =>
  aGuard v76
  (K (.p (.bool false)) H)
  (aBin false false .add y0 (.p (.int .i64 1)) fun v77 =>
  B3 [v77] H))
  (K (.p (.bool true)) H)

def runnellaw14_VmPlain_L1 (q1s0 q1s1 y0 y1 y2 : AV) (H : List Ob) (B1 : List AV → List Ob → Prop) (K : AV → List Ob → Prop) : Prop :=
  aLen false false q1s1 fun v9 =>
  aBin false false .lss y2 v9 fun v10 =>
  aMerge true v10 (fun Q11 =>
  aLenS false q1s0 fun v12 =>
  aBin false false .lss y1 v12 fun v13 =>
  (H = H ∧ Q11 v13)) fun v14 =>
  aGuard v14
  (aIndexAddr 1 q1s1 y2 fun v15 =>
  aLoad false 1 v15 H fun v16 =>
  aBin false false .rem v16 (.p (.int .u8 4)) fun v17 =>
  aConvInt .i64 v17 fun v18 =>
  aBin false false .add (.p (.int .i64 1)) v18 fun v19 =>
  aLen false false q1s0 fun v50 =>
  aBin false false .sub v50 y1 fun v51 =>
  aBin false false .gtr v19 v51 fun v52 =>
  aGuard v52
  (aLen false false q1s0 fun v53 =>
  aBin false false .sub v53 y1 fun v54 =>
  runnellaw14_VmPlain_J1 q1s0 y0 y1 y2 v54 H B1 K)
  (runnellaw14_VmPlain_J1 q1s0 y0 y1 y2 v19 H B1 K))
  (aBuild [(.p (.str [])), (.p (.int .i64 0)), (.p (.int .i64 0)), (.p (.bool false)), (.p (.str [])), (.full []), (.p (.int .i64 0))] [(0, 1, (.p (.str [114, 101, 116])))] fun v55 =>
  aBuildSlice 7 [v55] fun v56 =>
  aAppend false 7 88 y0 v56 H fun v57 h58 =>
  aCall Try.prog (.p (.func val_Int_i [])) [(.p (.int .i64 0))] h58 fun v59 h60 =>
  aCall Try.prog (.p (.func vm_Run_i [])) [v57, v59] h60 fun v61 h62 =>
  aExtract v61 0 fun v63 =>
  aExtract v61 1 fun v64 =>
  aBin false false .neq v64 (.p (.int .i64 0)) fun v65 =>
  aMerge false v65 (fun Q66 =>
  aLenS false v63 fun v67 =>
  aBin false false .neq v67 y1 fun v68 =>
  (h62 = h62 ∧ Q66 v68)) fun v69 =>
  aGuard v69
  (K (.p (.bool false)) h62)
  (aLoopN 1 [(.p (.int .i64 0))] h62 fun xs H B3 => runnellaw14_VmPlain_L3 q1s0 y1 v63 (xs.getD 0 .top) H B3 K))

def runnellaw14_VmPlain (x0 x1 : AV) (H : List Ob) (K : AV → List Ob → Prop) : Prop :=
  aCall Try.prog (.p (.func runnellaw14_known_i [])) [] H fun v0 h1 =>
  aUn .not v0 fun v2 =>
  aGuard v2
  (K (.p (.bool false)) h1)
  (aLen false false x0 fun v3 =>
  aBin false false .gtr v3 (.p (.int .i64 30)) fun v4 =>
  aMerge false v4 (fun Q5 =>
  aLenS false x1 fun v6 =>
  aBin false false .gtr v6 (.p (.int .i64 40)) fun v7 =>
  (h1 = h1 ∧ Q5 v7)) fun v8 =>
  aGuard v8
  (K (.p (.bool true)) h1)
  (aLoopN 3 [(.full []), (.p (.int .i64 0)), (.p (.int .i64 0))] h1 fun xs H B1 => runnellaw14_VmPlain_L1 x0 x1 (xs.getD 0 .top) (xs.getD 1 .top) (xs.getD 2 .top) H B1 K))

def runnellaw14_VmPlain_ann : Nat → List Nat := fun k => match k with | 8 => [5, 6, 7] | 14 => [5, 6, 9] | 26 => [12] | _ => []

theorem runnellaw14_VmPlain_eq (x0 x1 : AV) (H : List Ob) (r : AV) (Ho : List Ob) : aBody Try.prog runnellaw14_VmPlain_ann Try.f7 H [x0, x1] r Ho = runnellaw14_VmPlain x0 x1 H (fun v H' => Gives H.length v H' r Ho) := by kernel_rfl

theorem runnellaw14_VmPlain_fnH {x0 x1 : AV} {Hin : List Ob} {r : AV} {Ho : List Ob} (h : runnellaw14_VmPlain x0 x1 Hin (fun v H' => Gives Hin.length v H' r Ho)) : Abs.Fn Try.prog runnellaw14_VmPlain_i Hin [x0, x1] r Ho :=
  fn_intro mixed runnellaw14_VmPlain_ann (fn := Try.f7) (by kernel_rfl) (by kernel_rfl) (by rw [runnellaw14_VmPlain_eq]; exact h)

theorem runnellaw14_VmPlain_fn {x0 x1 : AV} {r : AV} {Ho : List Ob} (h : runnellaw14_VmPlain x0 x1 [] (fun v H' => Gives 0 v H' r Ho)) : Abs.Fn Try.prog runnellaw14_VmPlain_i [] [x0, x1] r Ho := runnellaw14_VmPlain_fnH (Hin := []) h

/- runnel/runnellaw14.known -/
def runnellaw14_known (H : List Ob) (K : AV → List Ob → Prop) : Prop :=
  aBuild [(.p (.str [])), (.p (.int .i64 0)), (.p (.int .i64 0)), (.p (.bool false)), (.p (.str [])), (.full []), (.p (.int .i64 0))] [(0, 1, (.p (.str [120])))] fun v0 =>
  aBuild [(.p (.str [])), (.p (.int .i64 0)), (.p (.int .i64 0)), (.p (.bool false)), (.p (.str [])), (.full []), (.p (.int .i64 0))] [(0, 1, (.p (.str [120])))] fun v1 =>
  aBuild [(.p (.str [])), (.p (.int .i64 0)), (.p (.int .i64 0)), (.p (.bool false)), (.p (.str [])), (.full []), (.p (.int .i64 0))] [(0, 1, (.p (.str [101, 109, 105, 116]))), (6, 1, (.p (.int .i64 2)))] fun v2 =>
  aBuild [(.p (.str [])), (.p (.int .i64 0)), (.p (.int .i64 0)), (.p (.bool false)), (.p (.str [])), (.full []), (.p (.int .i64 0))] [(0, 1, (.p (.str [114, 101, 116])))] fun v3 =>
  aBuildSlice 7 [v0, v1, v2, v3] fun v4 =>
  aCall Try.prog (.p (.func val_Int_i [])) [(.p (.int .i64 6))] H fun v5 h6 =>
  aBuild [(.p (.str [])), (.p (.int .i64 0)), (.p (.int .i64 0)), (.p (.bool false)), (.p (.str [])), (.full []), (.p (.int .i64 0))] [(0, 1, (.p (.str [112, 117, 115, 104]))), (1, 5, v5)] fun v7 =>
  aBuild [(.p (.str [])), (.p (.int .i64 0)), (.p (.int .i64 0)), (.p (.bool false)), (.p (.str [])), (.full []), (.p (.int .i64 0))] [(0, 1, (.p (.str [120])))] fun v8 =>
  aBuild [(.p (.str [])), (.p (.int .i64 0)), (.p (.int .i64 0)), (.p (.bool false)), (.p (.str [])), (.full []), (.p (.int .i64 0))] [(0, 1, (.p (.str [100, 105, 118])))] fun v9 =>
  aBuild [(.p (.str [])), (.p (.int .i64 0)), (.p (.int .i64 0)), (.p (.bool false)), (.p (.str [])), (.full []), (.p (.int .i64 0))] [(0, 1, (.p (.str [101, 109, 105, 116]))), (6, 1, (.p (.int .i64 1)))] fun v10 =>
  aBuild [(.p (.str [])), (.p (.int .i64 0)), (.p (.int .i64 0)), (.p (.bool false)), (.p (.str [])), (.full []), (.p (.int .i64 0))] [(0, 1, (.p (.str [114, 101, 116])))] fun v11 =>
  aBuildSlice 7 [v7, v8, v9, v10, v11] fun v12 =>
  aCall Try.prog (.p (.func val_Int_i [])) [(.p (.int .i64 3))] h6 fun v13 h14 =>
  aCall Try.prog (.p (.func vm_Run_i [])) [v4, v13] h14 fun v15 h16 =>
  aExtract v15 0 fun v17 =>
  aExtract v15 1 fun v18 =>
  aBuildSlice 1 [v4, v12] fun v19 =>
  aCall Try.prog (.p (.func val_Int_i [])) [(.p (.int .i64 3))] h16 fun v20 h21 =>
  aCall Try.prog (.p (.func vm_Chain_i [])) [v19, v20] h21 fun v22 h23 =>
  aExtract v22 0 fun v24 =>
  aExtract v22 1 fun v25 =>
  aBuildSlice 1 [v12] fun v26 =>
  aCall Try.prog (.p (.func val_Int_i [])) [(.p (.int .i64 0))] h23 fun v27 h28 =>
  aCall Try.prog (.p (.func vm_Chain_i [])) [v26, v27] h28 fun v29 h30 =>
  aExtract v29 0 fun _ =>
  aExtract v29 1 fun v32 =>
  aCall Try.prog (.p (.func val_Int_i [])) [(.p (.int .i64 0))] h30 fun v33 h34 =>
  aCall Try.prog (.p (.func vm_Run_i [])) [v12, v33] h34 fun v35 h36 =>
  aExtract v35 0 fun _ =>
  aExtract v35 1 fun v38 =>
  aBin false false .eql v18 (.p (.int .i64 0)) fun v39 =>
  aMerge true v39 (fun Q40 =>
  aLenS false v17 fun v41 =>
  aBin false false .eql v41 (.p (.int .i64 2)) fun v42 =>
  (h36 = h36 ∧ Q40 v42)) fun v43 =>
  aMerge true v43 (fun Q44 =>
  aLenS false v24 fun v45 =>
  aBin false false .eql v45 (.p (.int .i64 2)) fun v46 =>
  (h36 = h36 ∧ Q44 v46)) fun v47 =>
  aMerge true v47 (fun Q48 =>
  aIndexAddr 5 v24 (.p (.int .i64 1)) fun v49 =>
  aFieldAddr 1 v49 fun v50 =>
  aLoad false 1 v50 h36 fun v51 =>
  aBin false false .eql v51 (.p (.int .i64 2)) fun v52 =>
  (h36 = h36 ∧ Q48 v52)) fun v53 =>
  aMerge true v53 (fun Q54 =>
  aLenS false v25 fun v55 =>
  aBin false false .eql v55 (.p (.int .i64 0)) fun v56 =>
  (h36 = h36 ∧ Q54 v56)) fun v57 =>
  aMerge true v57 (fun Q58 =>
  aLenS false v32 fun v59 =>
  aBin false false .eql v59 (.p (.int .i64 1)) fun v60 =>
  (h36 = h36 ∧ Q58 v60)) fun v61 =>
  aMerge true v61 (fun Q62 =>
  aIndexAddr 6 v32 (.p (.int .i64 0)) fun v63 =>
  aFieldAddr 0 v63 fun v64 =>
  aLoad false 1 v64 h36 fun v65 =>
  aBin false false .eql v65 (.p (.int .i64 0)) fun v66 =>
  (h36 = h36 ∧ Q62 v66)) fun v67 =>
  aMerge true v67 (fun Q68 =>
  aIndexAddr 6 v32 (.p (.int .i64 0)) fun v69 =>
  aFieldAddr 1 v69 fun v70 =>
  aFieldAddr 0 v70 fun v71 =>
  aLoad false 1 v71 h36 fun v72 =>
  aBin false false .eql v72 (.p (.int .i64 1)) fun v73 =>
  (h36 = h36 ∧ Q68 v73)) fun v74 =>
  aMerge true v74 (fun Q75 =>
  aBin false false .eql v38 (.p (.int .i64 8)) fun v76 =>
  (h36 = h36 ∧ Q75 v76)) fun v77 =>
  K v77 h36

def runnellaw14_known_ann : Nat → List Nat := fun _ => []

theorem runnellaw14_known_eq (H : List Ob) (r : AV) (Ho : List Ob) : aBody Try.prog runnellaw14_known_ann Try.f28 H [] r Ho = runnellaw14_known H (fun v H' => Gives H.length v H' r Ho) := by kernel_rfl

theorem runnellaw14_known_fnH {Hin : List Ob} {r : AV} {Ho : List Ob} (h : runnellaw14_known Hin (fun v H' => Gives Hin.length v H' r Ho)) : Abs.Fn Try.prog runnellaw14_known_i Hin [] r Ho :=
  fn_intro mixed runnellaw14_known_ann (fn := Try.f28) (by kernel_rfl) (by kernel_rfl) (by rw [runnellaw14_known_eq]; exact h)

theorem runnellaw14_known_fn {r : AV} {Ho : List Ob} (h : runnellaw14_known [] (fun v H' => Gives 0 v H' r Ho)) : Abs.Fn Try.prog runnellaw14_known_i [] [] r Ho := runnellaw14_known_fnH (Hin := []) h

end Go.Proofs.Ytjendohiohhciaa
end

section
/- Made by program (Gen.lean): functions of the dump, over trees. -/
set_option maxRecDepth 4000
set_option linter.unusedVariables false
namespace Go.Proofs.Ytjendohiohhciaa
open Go Go.Abs

/- runnel/runnellaw12.GenAny -/
def runnellaw12_GenAny_L1 (q1s2 q1s5 y0 : AV) (H : List Ob) (B1 : List AV → List Ob → Prop) (K : AV → List Ob → Prop) : Prop :=
  aFieldAddr 4 q1s2 fun v38 =>
  aLoad false 1 v38 H fun v39 =>
  aLen false false v39 fun v40 =>
  aBin false false .lss y0 v40 fun v41 =>
  aGuard v41
  (aFieldAddr 4 q1s2 fun v42 =>
  aLoad false 1 v42 H fun v43 =>
  aIndexAddr 8 v43 y0 fun v44 =>
  aLoad true 8 v44 H fun v45 =>
  aCallT Try.prog (.p (.func gen_Expr_i [])) [v45] fun v46 =>
  aFieldAddr 4 q1s5 fun v47 =>
  aLoad false 1 v47 H fun v48 =>
  aIndexAddr 8 v48 y0 fun v49 =>
  aLoad true 8 v49 H fun v50 =>
  aCallT Try.prog (.p (.func runnelref14_GenExpr_i [])) [v50] fun v51 =>
  aCallT Try.prog (.p (.func runnellaw11_Same_i [])) [v46, v51] fun v52 =>
  aUn .not v52 fun v53 =>
  aGuard v53
  (K (.p (.bool false)) H)
  (aBin false false .add y0 (.p (.int .i64 1)) fun v54 =>
  B1 [v54] H))
  (K (.p (.bool true)) H)

def runnellaw12_GenAny_J3 (j3s2 j3s5 : AV) (H : List Ob) (K : AV → List Ob → Prop) : Prop :=
  aLoopN 1 [(.p (.int .i64 0))] H fun xs H B1 => runnellaw12_GenAny_L1 j3s2 j3s5 (xs.getD 0 .top) H B1 K

def runnellaw12_GenAny_J2 (j2s2 j2s5 j2s6 : AV) (H : List Ob) (K : AV → List Ob → Prop) : Prop :=
  aLoad true 15 j2s5 H fun v28 =>
  aCall Try.prog (.p (.func runnelref10_Out_i [])) [v28, j2s6] H fun v29 h30 =>
  aExtract v29 0 fun v31 =>
  aExtract v29 1 fun v32 =>
  aAlloc [(.p (.int .i64 0)), (.full [])] h30 fun v33 h34 =>
  aStore 2 v33 v31 h34 fun _ h36 =>
  aBin false false .neq v32 (.p (.int .i64 0)) fun v37 =>
  aGuard v37
  (K (.p (.bool true)) h36)
  (aLoad true 15 j2s2 h36 fun v55 =>
  aCallT Try.prog (.p (.func gen_Of_i [])) [v55] fun v56 =>
  aLoad true 15 j2s5 h36 fun v57 =>
  aCallT Try.prog (.p (.func runnelref14_Gen_i [])) [v57] fun v58 =>
  aCallT Try.prog (.p (.func runnellaw11_Same_i [])) [v56, v58] fun v59 =>
  aUn .not v59 fun v60 =>
  aGuard v60
  (K (.p (.bool false)) h36)
  (aLoad true 15 j2s5 h36 fun v61 =>
  aCallT Try.prog (.p (.func runnelref10_Keyed_i [])) [v61] fun v62 =>
  aGuard v62
  (aLoad true 15 j2s2 h36 fun v63 =>
  aCallT Try.prog (.p (.func gen_Key_i [])) [v63] fun v64 =>
  aLoad true 15 j2s5 h36 fun v65 =>
  aCallT Try.prog (.p (.func runnelref14_GenKey_i [])) [v65] fun v66 =>
  aCallT Try.prog (.p (.func runnellaw11_Same_i [])) [v64, v66] fun v67 =>
  aUn .not v67 fun v68 =>
  aGuard v68
  (K (.p (.bool false)) h36)
  (runnellaw12_GenAny_J3 j2s2 j2s5 h36 K))
  (runnellaw12_GenAny_J3 j2s2 j2s5 h36 K)))

def runnellaw12_GenAny_J1 (j1s2 j1s5 j1s6 : AV) (H : List Ob) (K : AV → List Ob → Prop) : Prop :=
  aFieldAddr 0 j1s2 fun v69 =>
  aLoad false 1 v69 H fun v70 =>
  aBin false false .eql v70 (.p (.int .i64 1)) fun v71 =>
  aGuard v71
  (runnellaw12_GenAny_J2 j1s2 j1s5 (.full []) H K)
  (runnellaw12_GenAny_J2 j1s2 j1s5 j1s6 H K)

def runnellaw12_GenAny (x0 x1 : AV) (H : List Ob) (K : AV → List Ob → Prop) : Prop :=
  aBox x0 H fun v0 h1 =>
  aBox x1 h1 fun v2 h3 =>
  aCall Try.prog (.p (.func runnellaw12_known_i [])) [] h3 fun v4 h5 =>
  aUn .not v4 fun v6 =>
  aGuard v6
  (K (.p (.bool false)) h5)
  (aLoad true 15 v0 h5 fun v7 =>
  aCall Try.prog (.p (.func runnellaw7_Few_i [])) [v7] h5 fun v8 h9 =>
  aUn .not v8 fun v10 =>
  aMerge false v10 (fun Q11 =>
  aLoad true 2 v2 h9 fun v12 =>
  aCall Try.prog (.p (.func runnellaw1_Few_i [])) [v12] h9 fun v13 h14 =>
  aUn .not v13 fun v15 =>
  (h14 = h9 ∧ Q11 v15)) fun v16 =>
  aGuard v16
  (K (.p (.bool true)) h9)
  (aLoad true 15 v0 h9 fun v17 =>
  aCall Try.prog (.p (.func runnellaw7_Of_i [])) [v17] h9 fun v18 h19 =>
  aAlloc [(.p (.int .i64 0)), (.p (.str [])), (.p (.int .i64 0)), (.full []), (.full []), (.p (.str [])), (.p (.int .i64 0)), (.p (.int .i64 0)), (.p (.bool false)), (.p (.str [])), (.full []), (.p (.int .i64 0)), (.full []), (.p (.int .i64 0)), (.p (.int .i64 0))] h19 fun v20 h21 =>
  aStore 15 v20 v18 h21 fun _ h23 =>
  aLoad true 2 v2 h23 fun v24 =>
  aCall Try.prog (.p (.func runnellaw1_Of_i [])) [v24] h23 fun v25 h26 =>
  aBuildSlice 2 [v25] fun v27 =>
  aFieldAddr 0 v0 fun v72 =>
  aLoad false 1 v72 h26 fun v73 =>
  aBin false false .eql v73 (.p (.int .i64 8)) fun v74 =>
  aGuard v74
  (aIndexAddr 2 v27 (.p (.int .i64 0)) fun v75 =>
  aLoad true 2 v75 h26 fun v76 =>
  aBuildSlice 2 [v76] fun v77 =>
  aAppend false 2 32 v27 v77 h26 fun v78 h79 =>
  runnellaw12_GenAny_J1 v0 v20 v78 h79 K)
  (runnellaw12_GenAny_J1 v0 v20 v27 h26 K)))

def runnellaw12_GenAny_ann : Nat → List Nat := fun k => match k with | 17 => [9] | _ => []

theorem runnellaw12_GenAny_eq (x0 x1 : AV) (H : List Ob) (r : AV) (Ho : List Ob) : aBody Try.prog runnellaw12_GenAny_ann Try.f3 H [x0, x1] r Ho = runnellaw12_GenAny x0 x1 H (fun v H' => Gives H.length v H' r Ho) := by kernel_rfl

theorem runnellaw12_GenAny_fnH {x0 x1 : AV} {Hin : List Ob} {r : AV} {Ho : List Ob} (h : runnellaw12_GenAny x0 x1 Hin (fun v H' => Gives Hin.length v H' r Ho)) : Abs.Fn Try.prog runnellaw12_GenAny_i Hin [x0, x1] r Ho :=
  fn_intro mixed runnellaw12_GenAny_ann (fn := Try.f3) (by kernel_rfl) (by kernel_rfl) (by rw [runnellaw12_GenAny_eq]; exact h)

theorem runnellaw12_GenAny_fn {x0 x1 : AV} {r : AV} {Ho : List Ob} (h : runnellaw12_GenAny x0 x1 [] (fun v H' => Gives 0 v H' r Ho)) : Abs.Fn Try.prog runnellaw12_GenAny_i [] [x0, x1] r Ho := runnellaw12_GenAny_fnH (Hin := []) h

/- runnel/runnellaw12.GenSizes -/
def runnellaw12_GenSizes_L1 (q1s0 q1s3 y0 y1 : AV) (H : List Ob) (B1 : List AV → List Ob → Prop) (K : AV → List Ob → Prop) : Prop :=
  aLen false false q1s0 fun v11 =>
  aBin false false .lss y1 v11 fun v12 =>
  aGuard v12
  (aIndexAddr 1 q1s0 y1 fun v13 =>
  aLoad false 1 v13 H fun v14 =>
  aBin false false .rem v14 (.p (.int .u8 4)) fun v15 =>
  aBin false false .eql v15 (.p (.int .u8 0)) fun v16 =>
  aGuard v16
  (aLoad true 8 q1s3 H fun v17 =>
  aBuildSlice 8 [v17] fun v18 =>
  aCall Try.prog (.p (.func runnellaw4_Op_i [])) [(.p (.str [110, 111, 116])), v18] H fun v19 h20 =>
  aStore 8 q1s3 v19 h20 fun _ h22 =>
  aBin false false .add y0 (.p (.int .i64 1)) fun v23 =>
  aBin false false .add y1 (.p (.int .i64 1)) fun v24 =>
  B1 [v23, v24] h22)
  (aBin false false .eql v15 (.p (.int .u8 1)) fun v25 =>
  aGuard v25
  (aLoad true 8 q1s3 H fun v26 =>
  aCallT Try.prog (.p (.func val_Bool_i [])) [(.p (.bool true))] fun v27 =>
  aCallT Try.prog (.p (.func runnellaw4_Lit_i [])) [v27] fun v28 =>
  aBuildSlice 8 [v26, v28] fun v29 =>
  aCallT Try.prog (.p (.func runnellaw4_Op_i [])) [(.p (.str [97, 110, 100])), v29] fun v30 =>
  aStore 8 q1s3 v30 H fun _ h32 =>
  aBin false false .add y0 (.p (.int .i64 4)) fun v33 =>
  aBin false false .add y1 (.p (.int .i64 1)) fun v34 =>
  B1 [v33, v34] h32)
  (aBin false false .eql v15 (.p (.int .u8 2)) fun v35 =>
  aGuard v35
  (aLoad true 8 q1s3 H fun v36 =>
  aCallT Try.prog (.p (.func runnellaw4_X_i [])) [] fun v37 =>
  aBuildSlice 8 [v36, v37] fun v38 =>
  aCallT Try.prog (.p (.func runnellaw4_Op_i [])) [(.p (.str [111, 114])), v38] fun v39 =>
  aStore 8 q1s3 v39 H fun _ h41 =>
  aBin false false .add y0 (.p (.int .i64 4)) fun v42 =>
  aBin false false .add y1 (.p (.int .i64 1)) fun v43 =>
  B1 [v42, v43] h41)
  (aBin false false .eql v15 (.p (.int .u8 3)) fun v44 =>
  aGuard v44
  (aLoad true 8 q1s3 H fun v45 =>
  aCallT Try.prog (.p (.func runnellaw4_X_i [])) [] fun v46 =>
  aCallT Try.prog (.p (.func val_Bool_i [])) [(.p (.bool false))] fun v47 =>
  aCallT Try.prog (.p (.func runnellaw4_Lit_i [])) [v47] fun v48 =>
  aBuildSlice 8 [v45, v46, v48] fun v49 =>
  aCallT Try.prog (.p (.func runnellaw4_Op_i [])) [(.p (.str [105, 102])), v49] fun v50 =>
  aStore 8 q1s3 v50 H fun _ h52 =>
  aBin false false .add y0 (.p (.int .i64 4)) fun v53 =>
  aBin false false .add y1 (.p (.int .i64 1)) fun v54 =>
  B1 [v53, v54] h52)
  (aBin false false .add y1 (.p (.int .i64 1)) fun v55 =>
  B1 [y0, v55] H)))))
  (aLoad true 8 q1s3 H fun v56 =>
  aCall Try.prog (.p (.func gen_Expr_i [])) [v56] H fun v57 h58 =>
  aLoad true 8 q1s3 h58 fun v59 =>
  aBuildSlice 8 [v59] fun v60 =>
  aBuild [(.p (.int .i64 0)), (.p (.str [])), (.p (.int .i64 0)), (.full []), (.full []), (.p (.str [])), (.p (.int .i64 0)), (.p (.int .i64 0)), (.p (.bool false)), (.p (.str [])), (.full []), (.p (.int .i64 0)), (.full []), (.p (.int .i64 0)), (.p (.int .i64 0))] [(0, 1, (.p (.int .i64 3))), (4, 1, v60)] fun v61 =>
  aCall Try.prog (.p (.func gen_Of_i [])) [v61] h58 fun v62 h63 =>
  aLoad true 8 q1s3 h63 fun v64 =>
  aBuild [(.p (.int .i64 0)), (.p (.str [])), (.p (.int .i64 0)), (.full []), (.full []), (.p (.str [])), (.p (.int .i64 0)), (.p (.int .i64 0)), (.p (.bool false)), (.p (.str [])), (.full []), (.p (.int .i64 0)), (.full []), (.p (.int .i64 0)), (.p (.int .i64 0))] [(0, 1, (.p (.int .i64 7))), (5, 8, v64)] fun v65 =>
  aCall Try.prog (.p (.func gen_Key_i [])) [v65] h63 fun v66 h67 =>
  aLen false false v57 fun v68 =>
  aBin false false .eql v68 y0 fun v69 =>
  aMerge true v69 (fun Q70 =>
  aLenS false v62 fun v71 =>
  aBin false false .add y0 (.p (.int .i64 4)) fun v72 =>
  aBin false false .eql v71 v72 fun v73 =>
  (h67 = h67 ∧ Q70 v73)) fun v74 =>
  aMerge true v74 (fun Q75 =>
  aLenS false v66 fun v76 =>
  aBin false false .add y0 (.p (.int .i64 2)) fun v77 =>
  aBin false false .eql v76 v77 fun v78 =>
  (h67 = h67 ∧ Q75 v78)) fun v79 =>
  aMerge true v79 (fun Q80 =>
  aLoad true 8 q1s3 h67 fun v81 =>
  aCall Try.prog (.p (.func runnellaw4_Of_i [])) [v81] h67 fun v82 h83 =>
  aCall Try.prog (.p (.func runnelref14_GenExpr_i [])) [v82] h83 fun v84 h85 =>
  aCall Try.prog (.p (.func runnellaw11_Same_i [])) [v57, v84] h85 fun v86 h87 =>
  (h87 = h67 ∧ Q80 v86)) fun v88 =>
  K v88 h67)

def runnellaw12_GenSizes (x0 : AV) (H : List Ob) (K : AV → List Ob → Prop) : Prop :=
  aCall Try.prog (.p (.func runnellaw12_known_i [])) [] H fun v0 h1 =>
  aUn .not v0 fun v2 =>
  aGuard v2
  (K (.p (.bool false)) h1)
  (aLen false false x0 fun v3 =>
  aBin false false .gtr v3 (.p (.int .i64 10)) fun v4 =>
  aGuard v4
  (K (.p (.bool true)) h1)
  (aCall Try.prog (.p (.func runnellaw4_X_i [])) [] h1 fun v5 h6 =>
  aAlloc [(.p (.str [])), (.p (.int .i64 0)), (.p (.int .i64 0)), (.p (.bool false)), (.p (.str [])), (.full []), (.p (.int .i64 0)), (.full [])] h6 fun v7 h8 =>
  aStore 8 v7 v5 h8 fun _ h10 =>
  aLoopN 2 [(.p (.int .i64 1)), (.p (.int .i64 0))] h10 fun xs H B1 => runnellaw12_GenSizes_L1 x0 v7 (xs.getD 0 .top) (xs.getD 1 .top) H B1 K))

def runnellaw12_GenSizes_ann : Nat → List Nat := fun k => match k with | 8 => [4, 5] | _ => []

theorem runnellaw12_GenSizes_eq (x0 : AV) (H : List Ob) (r : AV) (Ho : List Ob) : aBody Try.prog runnellaw12_GenSizes_ann Try.f4 H [x0] r Ho = runnellaw12_GenSizes x0 H (fun v H' => Gives H.length v H' r Ho) := by kernel_rfl

theorem runnellaw12_GenSizes_fnH {x0 : AV} {Hin : List Ob} {r : AV} {Ho : List Ob} (h : runnellaw12_GenSizes x0 Hin (fun v H' => Gives Hin.length v H' r Ho)) : Abs.Fn Try.prog runnellaw12_GenSizes_i Hin [x0] r Ho :=
  fn_intro mixed runnellaw12_GenSizes_ann (fn := Try.f4) (by kernel_rfl) (by kernel_rfl) (by rw [runnellaw12_GenSizes_eq]; exact h)

theorem runnellaw12_GenSizes_fn {x0 : AV} {r : AV} {Ho : List Ob} (h : runnellaw12_GenSizes x0 [] (fun v H' => Gives 0 v H' r Ho)) : Abs.Fn Try.prog runnellaw12_GenSizes_i [] [x0] r Ho := runnellaw12_GenSizes_fnH (Hin := []) h

/- runnel/runnellaw12.known -/
def runnellaw12_known (H : List Ob) (K : AV → List Ob → Prop) : Prop :=
  aCall Try.prog (.p (.func runnellaw4_X_i [])) [] H fun v0 h1 =>
  aCall Try.prog (.p (.func val_Int_i [])) [(.p (.int .i64 3))] h1 fun v2 h3 =>
  aCall Try.prog (.p (.func runnellaw4_Lit_i [])) [v2] h3 fun v4 h5 =>
  aBuildSlice 8 [v0, v4] fun v6 =>
  aCall Try.prog (.p (.func runnellaw4_Op_i [])) [(.p (.str [108, 116])), v6] h5 fun v7 h8 =>
  aBuildSlice 8 [v7] fun v9 =>
  aBuild [(.p (.int .i64 0)), (.p (.str [])), (.p (.int .i64 0)), (.full []), (.full []), (.p (.str [])), (.p (.int .i64 0)), (.p (.int .i64 0)), (.p (.bool false)), (.p (.str [])), (.full []), (.p (.int .i64 0)), (.full []), (.p (.int .i64 0)), (.p (.int .i64 0))] [(0, 1, (.p (.int .i64 3))), (4, 1, v9)] fun v10 =>
  aCall Try.prog (.p (.func gen_Of_i [])) [v10] h8 fun v11 h12 =>
  aCall Try.prog (.p (.func runnellaw4_X_i [])) [] h12 fun v13 h14 =>
  aCall Try.prog (.p (.func runnellaw4_X_i [])) [] h14 fun v15 h16 =>
  aBuildSlice 8 [v13, v15] fun v17 =>
  aCall Try.prog (.p (.func runnellaw4_Op_i [])) [(.p (.str [97, 110, 100])), v17] h16 fun v18 h19 =>
  aCall Try.prog (.p (.func gen_Expr_i [])) [v18] h19 fun v20 h21 =>
  aLen false false v11 fun v22 =>
  aBin false false .eql v22 (.p (.int .i64 7)) fun v23 =>
  aMerge true v23 (fun Q24 =>
  aIndexAddr 7 v11 (.p (.int .i64 3)) fun v25 =>
  aFieldAddr 0 v25 fun v26 =>
  aLoad false 1 v26 h21 fun v27 =>
  aBin false false .eql v27 (.p (.str [106, 102])) fun v28 =>
  (h21 = h21 ∧ Q24 v28)) fun v29 =>
  aMerge true v29 (fun Q30 =>
  aIndexAddr 7 v11 (.p (.int .i64 3)) fun v31 =>
  aFieldAddr 6 v31 fun v32 =>
  aLoad false 1 v32 h21 fun v33 =>
  aBin false false .eql v33 (.p (.int .i64 6)) fun v34 =>
  (h21 = h21 ∧ Q30 v34)) fun v35 =>
  aMerge true v35 (fun Q36 =>
  aIndexAddr 7 v11 (.p (.int .i64 6)) fun v37 =>
  aFieldAddr 0 v37 fun v38 =>
  aLoad false 1 v38 h21 fun v39 =>
  aBin false false .eql v39 (.p (.str [114, 101, 116])) fun v40 =>
  (h21 = h21 ∧ Q36 v40)) fun v41 =>
  aMerge true v41 (fun Q42 =>
  aLenS false v20 fun v43 =>
  aBin false false .eql v43 (.p (.int .i64 5)) fun v44 =>
  (h21 = h21 ∧ Q42 v44)) fun v45 =>
  aMerge true v45 (fun Q46 =>
  aIndexAddr 7 v20 (.p (.int .i64 1)) fun v47 =>
  aFieldAddr 6 v47 fun v48 =>
  aLoad false 1 v48 h21 fun v49 =>
  aBin false false .eql v49 (.p (.int .i64 4)) fun v50 =>
  (h21 = h21 ∧ Q46 v50)) fun v51 =>
  aMerge true v51 (fun Q52 =>
  aIndexAddr 7 v20 (.p (.int .i64 3)) fun v53 =>
  aFieldAddr 6 v53 fun v54 =>
  aLoad false 1 v54 h21 fun v55 =>
  aBin false false .eql v55 (.p (.int .i64 5)) fun v56 =>
  (h21 = h21 ∧ Q52 v56)) fun v57 =>
  aMerge true v57 (fun Q58 =>
  aCall Try.prog (.p (.func runnellaw4_X_i [])) [] h21 fun v59 h60 =>
  aBuild [(.p (.int .i64 0)), (.p (.str [])), (.p (.int .i64 0)), (.full []), (.full []), (.p (.str [])), (.p (.int .i64 0)), (.p (.int .i64 0)), (.p (.bool false)), (.p (.str [])), (.full []), (.p (.int .i64 0)), (.full []), (.p (.int .i64 0)), (.p (.int .i64 0))] [(0, 1, (.p (.int .i64 7))), (5, 8, v59)] fun v61 =>
  aCall Try.prog (.p (.func gen_Key_i [])) [v61] h60 fun v62 h63 =>
  aLenS false v62 fun v64 =>
  aBin false false .eql v64 (.p (.int .i64 3)) fun v65 =>
  (h63 = h21 ∧ Q58 v65)) fun v66 =>
  K v66 h21

def runnellaw12_known_ann : Nat → List Nat := fun _ => []

theorem runnellaw12_known_eq (H : List Ob) (r : AV) (Ho : List Ob) : aBody Try.prog runnellaw12_known_ann Try.f9 H [] r Ho = runnellaw12_known H (fun v H' => Gives H.length v H' r Ho) := by kernel_rfl

theorem runnellaw12_known_fnH {Hin : List Ob} {r : AV} {Ho : List Ob} (h : runnellaw12_known Hin (fun v H' => Gives Hin.length v H' r Ho)) : Abs.Fn Try.prog runnellaw12_known_i Hin [] r Ho :=
  fn_intro mixed runnellaw12_known_ann (fn := Try.f9) (by kernel_rfl) (by kernel_rfl) (by rw [runnellaw12_known_eq]; exact h)

theorem runnellaw12_known_fn {r : AV} {Ho : List Ob} (h : runnellaw12_known [] (fun v H' => Gives 0 v H' r Ho)) : Abs.Fn Try.prog runnellaw12_known_i [] [] r Ho := runnellaw12_known_fnH (Hin := []) h

end Go.Proofs.Ytjendohiohhciaa
end
