/- Made by program (Gen.lean): functions of the dump, over trees. -/
import Derived.Test.YtjendohiohhciaaS1

section
/- Made by program (Gen.lean): functions of the dump, over trees. -/
set_option maxRecDepth 4000
set_option linter.unusedVariables false
namespace Go.Proofs.Ytjendohiohhciaa
open Go Go.Abs

/- runnel/vm.Run -/
def vm_Run_J1 (j1s6 j1s7 j1s8 j1s37 : AV) (H : List Ob) (B1 : List AV → List Ob → Prop) (K : AV → List Ob → Prop) : Prop :=
  aGuard j1s37
  (aFieldAddr 6 j1s8 fun v20 =>
  aLoad false 1 v20 H fun v21 =>
  aBin false false .sub v21 (.p (.int .i64 1)) fun v22 =>
  aBin false false .add v22 (.p (.int .i64 1)) fun v23 =>
  B1 [v23] H)
  (aFieldAddr 0 j1s8 fun v24 =>
  aLoad false 1 v24 H fun v25 =>
  aBin false false .eql v25 (.p (.str [106, 102])) fun v26 =>
  aGuard v26
  (aBin false false .add j1s7 (.p (.int .i64 1)) fun v27 =>
  B1 [v27] H)
  (aLoad true 7 j1s8 H fun v28 =>
  aCall Try.prog (.p (.func vm_machine_does_i [])) [j1s6, v28] H fun v29 h30 =>
  aBin false false .neq v29 (.p (.int .i64 0)) fun v31 =>
  aGuard v31
  (K (.tup [(.full []), v29]) h30)
  (aBin false false .add j1s7 (.p (.int .i64 1)) fun v32 =>
  B1 [v32] h30)))

def vm_Run_L1 (q1s0 q1s6 y0 : AV) (H : List Ob) (B1 : List AV → List Ob → Prop) (K : AV → List Ob → Prop) : Prop :=
  aLen false false q1s0 fun v6 =>
  aBin false false .lss y0 v6 fun v7 =>
  aGuard v7
  (aIndexAddr 7 q1s0 y0 fun v8 =>
  aLoad true 7 v8 H fun v9 =>
  aAlloc [(.p (.str [])), (.p (.int .i64 0)), (.p (.int .i64 0)), (.p (.bool false)), (.p (.str [])), (.full []), (.p (.int .i64 0))] H fun v10 h11 =>
  aStore 7 v10 v9 h11 fun _ h13 =>
  aFieldAddr 0 v10 fun v14 =>
  aLoad false 1 v14 h13 fun v15 =>
  aBin false false .eql v15 (.p (.str [114, 101, 116])) fun v16 =>
  aGuard v16
  (aNilCheck q1s6 fun v17 =>
  aFieldAddr 6 v17 fun v18 =>
  aLoad false 1 v18 h13 fun v19 =>
  K (.tup [v19, (.p (.int .i64 0))]) h13)
  (aFieldAddr 0 v10 fun v33 =>
  aLoad false 1 v33 h13 fun v34 =>
  aBin false false .eql v34 (.p (.str [106, 109, 112])) fun v35 =>
  aGuard v35
  (vm_Run_J1 q1s6 y0 v10 (.p (.bool true)) h13 B1 K)
  (aFieldAddr 0 v10 fun v36 =>
  aLoad false 1 v36 h13 fun v37 =>
  aBin false false .eql v37 (.p (.str [106, 102])) fun v38 =>
  aGuard v38
  (aNilCheck q1s6 fun v39 =>
  aFieldAddr 5 v39 fun v40 =>
  aCall Try.prog (.p (.func vm_stack_val_Value_pop_i [])) [v40, (.p (.int .i64 1))] h13 fun v41 h42 =>
  aIndexAddr 5 v41 (.p (.int .i64 0)) fun v43 =>
  aFieldAddr 2 v43 fun v44 =>
  aLoad false 1 v44 h42 fun v45 =>
  aUn .not v45 fun v46 =>
  vm_Run_J1 q1s6 y0 v10 v46 h42 B1 K)
  (vm_Run_J1 q1s6 y0 v10 (.p (.bool false)) h13 B1 K))))
  (aNilCheck q1s6 fun v47 =>
  aFieldAddr 6 v47 fun v48 =>
  aLoad false 1 v48 H fun v49 =>
  K (.tup [v49, (.p (.int .i64 0))]) H)

def vm_Run (x0 x1 : AV) (H : List Ob) (K : AV → List Ob → Prop) : Prop :=
  aBox x1 H fun v0 h1 =>
  aLoad true 5 v0 h1 fun v2 =>
  aBuild [(.p (.int .i64 0)), (.p (.int .i64 0)), (.p (.bool false)), (.p (.str [])), (.full []), (.full []), (.full [])] [(0, 5, v2)] fun v3 =>
  aBox v3 h1 fun v4 h5 =>
  aLoopN 1 [(.p (.int .i64 0))] h5 fun xs H B1 => vm_Run_L1 x0 v4 (xs.getD 0 .top) H B1 K

def vm_Run_ann : Nat → List Nat := fun k => match k with | 3 => [7] | 3000012 => [1000] | _ => []

theorem vm_Run_eq (x0 x1 : AV) (H : List Ob) (r : AV) (Ho : List Ob) : aBody Try.prog vm_Run_ann Try.f35 H [x0, x1] r Ho = vm_Run x0 x1 H (fun v H' => Gives H.length v H' r Ho) := by kernel_rfl

theorem vm_Run_fnH {x0 x1 : AV} {Hin : List Ob} {r : AV} {Ho : List Ob} (h : vm_Run x0 x1 Hin (fun v H' => Gives Hin.length v H' r Ho)) : Abs.Fn Try.prog vm_Run_i Hin [x0, x1] r Ho :=
  fn_intro mixed vm_Run_ann (fn := Try.f35) (by kernel_rfl) (by kernel_rfl) (by rw [vm_Run_eq]; exact h)

theorem vm_Run_fn {x0 x1 : AV} {r : AV} {Ho : List Ob} (h : vm_Run x0 x1 [] (fun v H' => Gives 0 v H' r Ho)) : Abs.Fn Try.prog vm_Run_i [] [x0, x1] r Ho := vm_Run_fnH (Hin := []) h

/- runnel/runnellaw14.made -/
def runnellaw14_made (x0 : AV) (H : List Ob) (K : AV → List Ob → Prop) : Prop :=
  aBox x0 H fun v0 h1 =>
  aLoad true 15 v0 h1 fun v2 =>
  aCall Try.prog (.p (.func runnellaw7_Of_i [])) [v2] h1 fun v3 h4 =>
  aCall Try.prog (.p (.func runnelref14_Gen_i [])) [v3] h4 fun v5 h6 =>
  aCall Try.prog (.p (.func runnellaw11_To_i [])) [v5] h6 fun v7 h8 =>
  K v7 h8

def runnellaw14_made_ann : Nat → List Nat := fun _ => []

theorem runnellaw14_made_eq (x0 : AV) (H : List Ob) (r : AV) (Ho : List Ob) : aBody Try.prog runnellaw14_made_ann Try.f38 H [x0] r Ho = runnellaw14_made x0 H (fun v H' => Gives H.length v H' r Ho) := by kernel_rfl

theorem runnellaw14_made_fnH {x0 : AV} {Hin : List Ob} {r : AV} {Ho : List Ob} (h : runnellaw14_made x0 Hin (fun v H' => Gives Hin.length v H' r Ho)) : Abs.Fn Try.prog runnellaw14_made_i Hin [x0] r Ho :=
  fn_intro mixed runnellaw14_made_ann (fn := Try.f38) (by kernel_rfl) (by kernel_rfl) (by rw [runnellaw14_made_eq]; exact h)

theorem runnellaw14_made_fn {x0 : AV} {r : AV} {Ho : List Ob} (h : runnellaw14_made x0 [] (fun v H' => Gives 0 v H' r Ho)) : Abs.Fn Try.prog runnellaw14_made_i [] [x0] r Ho := runnellaw14_made_fnH (Hin := []) h

/- (*runnel/vm.stack[runnel/val.Value]).pop -/
def vm_stack_val_Value_pop (x0 x1 : AV) (H : List Ob) (K : AV → List Ob → Prop) : Prop :=
  aNilCheck x0 fun v0 =>
  aLoad false 1 v0 H fun v1 =>
  aLen false false v1 fun v2 =>
  aBin false false .sub v2 x1 fun v3 =>
  aNilCheck x0 fun v4 =>
  aLoad false 1 v4 H fun v5 =>
  aSlice false 5 v5 (some v3) none none fun v6 =>
  aCall Try.prog (.p (.func slices_Clone_vm_stack_val_Value_val_Value_i [])) [v6] H fun v7 h8 =>
  aNilCheck x0 fun v9 =>
  aLoad false 1 v9 h8 fun v10 =>
  aSlice false 5 v10 none (some v3) none fun v11 =>
  aNilCheck x0 fun v12 =>
  aStore 1 v12 v11 h8 fun _ h14 =>
  K v7 h14

def vm_stack_val_Value_pop_ann : Nat → List Nat := fun _ => []

theorem vm_stack_val_Value_pop_eq (x0 x1 : AV) (H : List Ob) (r : AV) (Ho : List Ob) : aBody Try.prog vm_stack_val_Value_pop_ann Try.f69 H [x0, x1] r Ho = vm_stack_val_Value_pop x0 x1 H (fun v H' => Gives H.length v H' r Ho) := by kernel_rfl

theorem vm_stack_val_Value_pop_fnH {x0 x1 : AV} {Hin : List Ob} {r : AV} {Ho : List Ob} (h : vm_stack_val_Value_pop x0 x1 Hin (fun v H' => Gives Hin.length v H' r Ho)) : Abs.Fn Try.prog vm_stack_val_Value_pop_i Hin [x0, x1] r Ho :=
  fn_intro mixed vm_stack_val_Value_pop_ann (fn := Try.f69) (by kernel_rfl) (by kernel_rfl) (by rw [vm_stack_val_Value_pop_eq]; exact h)

theorem vm_stack_val_Value_pop_fn {x0 x1 : AV} {r : AV} {Ho : List Ob} (h : vm_stack_val_Value_pop x0 x1 [] (fun v H' => Gives 0 v H' r Ho)) : Abs.Fn Try.prog vm_stack_val_Value_pop_i [] [x0, x1] r Ho := vm_stack_val_Value_pop_fnH (Hin := []) h

/- (*runnel/vm.machine).does -/
def vm_machine_does (x0 x1 : AV) (H : List Ob) (K : AV → List Ob → Prop) : Prop :=
  aBox x1 H fun v0 h1 =>
  aFieldAddr 0 v0 fun v2 =>
  aLoad false 1 v2 h1 fun v3 =>
  aBin false false .eql v3 (.p (.str [112, 117, 115, 104])) fun v4 =>
  aGuard v4
  (aNilCheck x0 fun v5 =>
  aFieldAddr 5 v5 fun v6 =>
  aFieldAddr 1 v0 fun v7 =>
  aLoad true 5 v7 h1 fun v8 =>
  aCall Try.prog (.p (.func vm_stack_val_Value_push_i [])) [v6, v8] h1 fun _ h10 =>
  K (.p (.int .i64 0)) h10)
  (aBin false false .eql v3 (.p (.str [120])) fun v11 =>
  aGuard v11
  (aNilCheck x0 fun v12 =>
  aFieldAddr 5 v12 fun v13 =>
  aNilCheck x0 fun v14 =>
  aFieldAddr 0 v14 fun v15 =>
  aLoad true 5 v15 h1 fun v16 =>
  aCall Try.prog (.p (.func vm_stack_val_Value_push_i [])) [v13, v16] h1 fun _ h18 =>
  K (.p (.int .i64 0)) h18)
  (aBin false false .eql v3 (.p (.str [97, 116])) fun v19 =>
  aGuard v19
  (aNilCheck x0 fun v20 =>
  aFieldAddr 5 v20 fun v21 =>
  aNilCheck x0 fun v22 =>
  aFieldAddr 5 v22 fun v23 =>
  aFieldAddr 6 v0 fun v24 =>
  (aCall Try.prog (.p (.func vm_stack_val_Value_pop_i [])) [v23, (.p (.int .i64 1))] h1 fun v25 h26 =>
  aIndexAddr 5 v25 (.p (.int .i64 0)) fun v27 =>
  aFieldAddr 4 v27 fun v28 =>
  (aLoad false 1 v28 h26 fun v29 =>
  aLoad false 1 v24 h26 fun v30 =>
  aIndexAddr 5 v29 v30 fun v31 =>
  aLoad true 5 v31 h26 fun v32 =>
  aCall Try.prog (.p (.func vm_stack_val_Value_push_i [])) [v21, v32] h26 fun _ h34 =>
  K (.p (.int .i64 0)) h34) ∧
  (aLoad false 1 v24 h26 fun v35 =>
  aLoad false 1 v28 h26 fun v36 =>
  aIndexAddr 5 v36 v35 fun v37 =>
  aLoad true 5 v37 h26 fun v38 =>
  aCall Try.prog (.p (.func vm_stack_val_Value_push_i [])) [v21, v38] h26 fun _ h40 =>
  K (.p (.int .i64 0)) h40)) ∧
  (aLoad false 1 v24 h1 fun v41 =>
  aCall Try.prog (.p (.func vm_stack_val_Value_pop_i [])) [v23, (.p (.int .i64 1))] h1 fun v42 h43 =>
  aIndexAddr 5 v42 (.p (.int .i64 0)) fun v44 =>
  aFieldAddr 4 v44 fun v45 =>
  aLoad false 1 v45 h43 fun v46 =>
  aIndexAddr 5 v46 v41 fun v47 =>
  aLoad true 5 v47 h43 fun v48 =>
  aCall Try.prog (.p (.func vm_stack_val_Value_push_i [])) [v21, v48] h43 fun _ h50 =>
  K (.p (.int .i64 0)) h50))
  (aBin false false .eql v3 (.p (.str [116, 117, 112])) fun v51 =>
  aGuard v51
  (aNilCheck x0 fun v52 =>
  aFieldAddr 5 v52 fun v53 =>
  aNilCheck x0 fun v54 =>
  aFieldAddr 5 v54 fun v55 =>
  aFieldAddr 6 v0 fun v56 =>
  aLoad false 1 v56 h1 fun v57 =>
  aCall Try.prog (.p (.func vm_stack_val_Value_pop_i [])) [v55, v57] h1 fun v58 h59 =>
  aCall Try.prog (.p (.func val_Tup_i [])) [v58] h59 fun v60 h61 =>
  aCall Try.prog (.p (.func vm_stack_val_Value_push_i [])) [v53, v60] h61 fun _ h63 =>
  K (.p (.int .i64 0)) h63)
  (aBin false false .eql v3 (.p (.str [101, 109, 105, 116])) fun v64 =>
  aGuard v64
  (aNilCheck x0 fun v65 =>
  aFieldAddr 6 v65 fun v66 =>
  aNilCheck x0 fun v67 =>
  aFieldAddr 5 v67 fun v68 =>
  aFieldAddr 6 v0 fun v69 =>
  (aLoad false 1 v66 h1 fun v70 =>
  aLoad false 1 v69 h1 fun v71 =>
  aCall Try.prog (.p (.func vm_stack_val_Value_pop_i [])) [v68, v71] h1 fun v72 h73 =>
  aAppend false 5 64 v70 v72 h73 fun v74 h75 =>
  aNilCheck x0 fun v76 =>
  aFieldAddr 6 v76 fun v77 =>
  aStore 1 v77 v74 h75 fun _ h79 =>
  K (.p (.int .i64 0)) h79) ∧
  (aLoad false 1 v69 h1 fun v80 =>
  (aLoad false 1 v66 h1 fun v81 =>
  aCall Try.prog (.p (.func vm_stack_val_Value_pop_i [])) [v68, v80] h1 fun v82 h83 =>
  aAppend false 5 64 v81 v82 h83 fun v84 h85 =>
  aNilCheck x0 fun v86 =>
  aFieldAddr 6 v86 fun v87 =>
  aStore 1 v87 v84 h85 fun _ h89 =>
  K (.p (.int .i64 0)) h89) ∧
  (aCall Try.prog (.p (.func vm_stack_val_Value_pop_i [])) [v68, v80] h1 fun v90 h91 =>
  aLoad false 1 v66 h91 fun v92 =>
  aAppend false 5 64 v92 v90 h91 fun v93 h94 =>
  aNilCheck x0 fun v95 =>
  aFieldAddr 6 v95 fun v96 =>
  aStore 1 v96 v93 h94 fun _ h98 =>
  K (.p (.int .i64 0)) h98)))
  (aBin false false .eql v3 (.p (.str [110, 101, 103])) fun v99 =>
  aMerge false v99 (fun Q100 =>
  aBin false false .eql v3 (.p (.str [110, 111, 116])) fun v101 =>
  aMerge false v101 (fun Q102 =>
  aBin false false .eql v3 (.p (.str [108, 101, 110])) fun v103 =>
  (h1 = h1 ∧ Q102 v103)) fun v104 =>
  (h1 = h1 ∧ Q100 v104)) fun v105 =>
  aGuard v105
  (aFieldAddr 0 v0 fun v106 =>
  aNilCheck x0 fun v107 =>
  aFieldAddr 5 v107 fun v108 =>
  (aLoad false 1 v106 h1 fun v109 =>
  (aCall Try.prog (.p (.func vm_stack_val_Value_pop_i [])) [v108, (.p (.int .i64 1))] h1 fun v110 h111 =>
  aIndexAddr 5 v110 (.p (.int .i64 0)) fun v112 =>
  (aLoad true 5 v112 h111 fun v113 =>
  (aCall Try.prog (.p (.func eval_One_i [])) [v109, v113] h111 fun v114 h115 =>
  aExtract v114 0 fun v116 =>
  aExtract v114 1 fun _ =>
  aAlloc [(.p (.int .i64 0)), (.p (.int .i64 0)), (.p (.bool false)), (.p (.str [])), (.full [])] h115 fun v118 h119 =>
  aStore 5 v118 v116 h119 fun _ h121 =>
  aNilCheck x0 fun v122 =>
  aFieldAddr 5 v122 fun v123 =>
  aLoad true 5 v118 h121 fun v124 =>
  aCall Try.prog (.p (.func vm_stack_val_Value_push_i [])) [v123, v124] h121 fun _ h126 =>
  K (.p (.int .i64 0)) h126) ∧
  (aAlloc [(.p (.int .i64 0)), (.p (.int .i64 0)), (.p (.bool false)), (.p (.str [])), (.full [])] h111 fun v127 h128 =>
  aCall Try.prog (.p (.func eval_One_i [])) [v109, v113] h128 fun v129 h130 =>
  aExtract v129 0 fun v131 =>
  aExtract v129 1 fun _ =>
  aStore 5 v127 v131 h130 fun _ h134 =>
  aNilCheck x0 fun v135 =>
  aFieldAddr 5 v135 fun v136 =>
  aLoad true 5 v127 h134 fun v137 =>
  aCall Try.prog (.p (.func vm_stack_val_Value_push_i [])) [v136, v137] h134 fun _ h139 =>
  K (.p (.int .i64 0)) h139)) ∧
  (aAlloc [(.p (.int .i64 0)), (.p (.int .i64 0)), (.p (.bool false)), (.p (.str [])), (.full [])] h111 fun v140 h141 =>
  aLoad true 5 v112 h141 fun v142 =>
  aCall Try.prog (.p (.func eval_One_i [])) [v109, v142] h141 fun v143 h144 =>
  aExtract v143 0 fun v145 =>
  aExtract v143 1 fun _ =>
  aStore 5 v140 v145 h144 fun _ h148 =>
  aNilCheck x0 fun v149 =>
  aFieldAddr 5 v149 fun v150 =>
  aLoad true 5 v140 h148 fun v151 =>
  aCall Try.prog (.p (.func vm_stack_val_Value_push_i [])) [v150, v151] h148 fun _ h153 =>
  K (.p (.int .i64 0)) h153)) ∧
  (aAlloc [(.p (.int .i64 0)), (.p (.int .i64 0)), (.p (.bool false)), (.p (.str [])), (.full [])] h1 fun v154 h155 =>
  aCall Try.prog (.p (.func vm_stack_val_Value_pop_i [])) [v108, (.p (.int .i64 1))] h155 fun v156 h157 =>
  aIndexAddr 5 v156 (.p (.int .i64 0)) fun v158 =>
  aLoad true 5 v158 h157 fun v159 =>
  aCall Try.prog (.p (.func eval_One_i [])) [v109, v159] h157 fun v160 h161 =>
  aExtract v160 0 fun v162 =>
  aExtract v160 1 fun _ =>
  aStore 5 v154 v162 h161 fun _ h165 =>
  aNilCheck x0 fun v166 =>
  aFieldAddr 5 v166 fun v167 =>
  aLoad true 5 v154 h165 fun v168 =>
  aCall Try.prog (.p (.func vm_stack_val_Value_push_i [])) [v167, v168] h165 fun _ h170 =>
  K (.p (.int .i64 0)) h170)) ∧
  (aCall Try.prog (.p (.func vm_stack_val_Value_pop_i [])) [v108, (.p (.int .i64 1))] h1 fun v171 h172 =>
  aIndexAddr 5 v171 (.p (.int .i64 0)) fun v173 =>
  (aLoad false 1 v106 h172 fun v174 =>
  (aLoad true 5 v173 h172 fun v175 =>
  (aCall Try.prog (.p (.func eval_One_i [])) [v174, v175] h172 fun v176 h177 =>
  aExtract v176 0 fun v178 =>
  aExtract v176 1 fun _ =>
  aAlloc [(.p (.int .i64 0)), (.p (.int .i64 0)), (.p (.bool false)), (.p (.str [])), (.full [])] h177 fun v180 h181 =>
  aStore 5 v180 v178 h181 fun _ h183 =>
  aNilCheck x0 fun v184 =>
  aFieldAddr 5 v184 fun v185 =>
  aLoad true 5 v180 h183 fun v186 =>
  aCall Try.prog (.p (.func vm_stack_val_Value_push_i [])) [v185, v186] h183 fun _ h188 =>
  K (.p (.int .i64 0)) h188) ∧
  (aAlloc [(.p (.int .i64 0)), (.p (.int .i64 0)), (.p (.bool false)), (.p (.str [])), (.full [])] h172 fun v189 h190 =>
  aCall Try.prog (.p (.func eval_One_i [])) [v174, v175] h190 fun v191 h192 =>
  aExtract v191 0 fun v193 =>
  aExtract v191 1 fun _ =>
  aStore 5 v189 v193 h192 fun _ h196 =>
  aNilCheck x0 fun v197 =>
  aFieldAddr 5 v197 fun v198 =>
  aLoad true 5 v189 h196 fun v199 =>
  aCall Try.prog (.p (.func vm_stack_val_Value_push_i [])) [v198, v199] h196 fun _ h201 =>
  K (.p (.int .i64 0)) h201)) ∧
  (aAlloc [(.p (.int .i64 0)), (.p (.int .i64 0)), (.p (.bool false)), (.p (.str [])), (.full [])] h172 fun v202 h203 =>
  aLoad true 5 v173 h203 fun v204 =>
  aCall Try.prog (.p (.func eval_One_i [])) [v174, v204] h203 fun v205 h206 =>
  aExtract v205 0 fun v207 =>
  aExtract v205 1 fun _ =>
  aStore 5 v202 v207 h206 fun _ h210 =>
  aNilCheck x0 fun v211 =>
  aFieldAddr 5 v211 fun v212 =>
  aLoad true 5 v202 h210 fun v213 =>
  aCall Try.prog (.p (.func vm_stack_val_Value_push_i [])) [v212, v213] h210 fun _ h215 =>
  K (.p (.int .i64 0)) h215)) ∧
  (aLoad true 5 v173 h172 fun v216 =>
  (aLoad false 1 v106 h172 fun v217 =>
  (aCall Try.prog (.p (.func eval_One_i [])) [v217, v216] h172 fun v218 h219 =>
  aExtract v218 0 fun v220 =>
  aExtract v218 1 fun _ =>
  aAlloc [(.p (.int .i64 0)), (.p (.int .i64 0)), (.p (.bool false)), (.p (.str [])), (.full [])] h219 fun v222 h223 =>
  aStore 5 v222 v220 h223 fun _ h225 =>
  aNilCheck x0 fun v226 =>
  aFieldAddr 5 v226 fun v227 =>
  aLoad true 5 v222 h225 fun v228 =>
  aCall Try.prog (.p (.func vm_stack_val_Value_push_i [])) [v227, v228] h225 fun _ h230 =>
  K (.p (.int .i64 0)) h230) ∧
  (aAlloc [(.p (.int .i64 0)), (.p (.int .i64 0)), (.p (.bool false)), (.p (.str [])), (.full [])] h172 fun v231 h232 =>
  aCall Try.prog (.p (.func eval_One_i [])) [v217, v216] h232 fun v233 h234 =>
  aExtract v233 0 fun v235 =>
  aExtract v233 1 fun _ =>
  aStore 5 v231 v235 h234 fun _ h238 =>
  aNilCheck x0 fun v239 =>
  aFieldAddr 5 v239 fun v240 =>
  aLoad true 5 v231 h238 fun v241 =>
  aCall Try.prog (.p (.func vm_stack_val_Value_push_i [])) [v240, v241] h238 fun _ h243 =>
  K (.p (.int .i64 0)) h243)) ∧
  (aAlloc [(.p (.int .i64 0)), (.p (.int .i64 0)), (.p (.bool false)), (.p (.str [])), (.full [])] h172 fun v244 h245 =>
  aLoad false 1 v106 h245 fun v246 =>
  aCall Try.prog (.p (.func eval_One_i [])) [v246, v216] h245 fun v247 h248 =>
  aExtract v247 0 fun v249 =>
  aExtract v247 1 fun _ =>
  aStore 5 v244 v249 h248 fun _ h252 =>
  aNilCheck x0 fun v253 =>
  aFieldAddr 5 v253 fun v254 =>
  aLoad true 5 v244 h252 fun v255 =>
  aCall Try.prog (.p (.func vm_stack_val_Value_push_i [])) [v254, v255] h252 fun _ h257 =>
  K (.p (.int .i64 0)) h257)) ∧
  (aAlloc [(.p (.int .i64 0)), (.p (.int .i64 0)), (.p (.bool false)), (.p (.str [])), (.full [])] h172 fun v258 h259 =>
  (aLoad false 1 v106 h259 fun v260 =>
  aLoad true 5 v173 h259 fun v261 =>
  aCall Try.prog (.p (.func eval_One_i [])) [v260, v261] h259 fun v262 h263 =>
  aExtract v262 0 fun v264 =>
  aExtract v262 1 fun _ =>
  aStore 5 v258 v264 h263 fun _ h267 =>
  aNilCheck x0 fun v268 =>
  aFieldAddr 5 v268 fun v269 =>
  aLoad true 5 v258 h267 fun v270 =>
  aCall Try.prog (.p (.func vm_stack_val_Value_push_i [])) [v269, v270] h267 fun _ h272 =>
  K (.p (.int .i64 0)) h272) ∧
  (aLoad true 5 v173 h259 fun v273 =>
  aLoad false 1 v106 h259 fun v274 =>
  aCall Try.prog (.p (.func eval_One_i [])) [v274, v273] h259 fun v275 h276 =>
  aExtract v275 0 fun v277 =>
  aExtract v275 1 fun _ =>
  aStore 5 v258 v277 h276 fun _ h280 =>
  aNilCheck x0 fun v281 =>
  aFieldAddr 5 v281 fun v282 =>
  aLoad true 5 v258 h280 fun v283 =>
  aCall Try.prog (.p (.func vm_stack_val_Value_push_i [])) [v282, v283] h280 fun _ h285 =>
  K (.p (.int .i64 0)) h285))) ∧
  (aAlloc [(.p (.int .i64 0)), (.p (.int .i64 0)), (.p (.bool false)), (.p (.str [])), (.full [])] h1 fun v286 h287 =>
  (aLoad false 1 v106 h287 fun v288 =>
  aCall Try.prog (.p (.func vm_stack_val_Value_pop_i [])) [v108, (.p (.int .i64 1))] h287 fun v289 h290 =>
  aIndexAddr 5 v289 (.p (.int .i64 0)) fun v291 =>
  aLoad true 5 v291 h290 fun v292 =>
  aCall Try.prog (.p (.func eval_One_i [])) [v288, v292] h290 fun v293 h294 =>
  aExtract v293 0 fun v295 =>
  aExtract v293 1 fun _ =>
  aStore 5 v286 v295 h294 fun _ h298 =>
  aNilCheck x0 fun v299 =>
  aFieldAddr 5 v299 fun v300 =>
  aLoad true 5 v286 h298 fun v301 =>
  aCall Try.prog (.p (.func vm_stack_val_Value_push_i [])) [v300, v301] h298 fun _ h303 =>
  K (.p (.int .i64 0)) h303) ∧
  (aCall Try.prog (.p (.func vm_stack_val_Value_pop_i [])) [v108, (.p (.int .i64 1))] h287 fun v304 h305 =>
  aIndexAddr 5 v304 (.p (.int .i64 0)) fun v306 =>
  (aLoad false 1 v106 h305 fun v307 =>
  aLoad true 5 v306 h305 fun v308 =>
  aCall Try.prog (.p (.func eval_One_i [])) [v307, v308] h305 fun v309 h310 =>
  aExtract v309 0 fun v311 =>
  aExtract v309 1 fun _ =>
  aStore 5 v286 v311 h310 fun _ h314 =>
  aNilCheck x0 fun v315 =>
  aFieldAddr 5 v315 fun v316 =>
  aLoad true 5 v286 h314 fun v317 =>
  aCall Try.prog (.p (.func vm_stack_val_Value_push_i [])) [v316, v317] h314 fun _ h319 =>
  K (.p (.int .i64 0)) h319) ∧
  (aLoad true 5 v306 h305 fun v320 =>
  aLoad false 1 v106 h305 fun v321 =>
  aCall Try.prog (.p (.func eval_One_i [])) [v321, v320] h305 fun v322 h323 =>
  aExtract v322 0 fun v324 =>
  aExtract v322 1 fun _ =>
  aStore 5 v286 v324 h323 fun _ h327 =>
  aNilCheck x0 fun v328 =>
  aFieldAddr 5 v328 fun v329 =>
  aLoad true 5 v286 h327 fun v330 =>
  aCall Try.prog (.p (.func vm_stack_val_Value_push_i [])) [v329, v330] h327 fun _ h332 =>
  K (.p (.int .i64 0)) h332))))
  (aNilCheck x0 fun v333 =>
  aFieldAddr 5 v333 fun v334 =>
  aCall Try.prog (.p (.func vm_stack_val_Value_pop_i [])) [v334, (.p (.int .i64 2))] h1 fun v335 h336 =>
  aAlloc [(.p (.int .i64 0)), (.p (.int .i64 0)), (.p (.bool false)), (.p (.str [])), (.full [])] h336 fun v337 h338 =>
  aFieldAddr 0 v0 fun v339 =>
  aLoad false 1 v339 h338 fun v340 =>
  aIndexAddr 5 v335 (.p (.int .i64 0)) fun v341 =>
  aLoad true 5 v341 h338 fun v342 =>
  aIndexAddr 5 v335 (.p (.int .i64 1)) fun v343 =>
  aLoad true 5 v343 h338 fun v344 =>
  aCallT Try.prog (.p (.func eval_Both_i [])) [v340, v342, v344] fun v345 =>
  aExtract v345 0 fun v346 =>
  aExtract v345 1 fun v347 =>
  aExtract v345 2 fun _ =>
  aStore 5 v337 v346 h338 fun _ h350 =>
  aBin false false .neq v347 (.p (.int .i64 0)) fun v351 =>
  aGuard v351
  (K v347 h350)
  (aNilCheck x0 fun v352 =>
  aFieldAddr 5 v352 fun v353 =>
  aLoad true 5 v337 h350 fun v354 =>
  aCall Try.prog (.p (.func vm_stack_val_Value_push_i [])) [v353, v354] h350 fun _ h356 =>
  K (.p (.int .i64 0)) h356)))))))

def vm_machine_does_ann : Nat → List Nat := fun k => match k with | 1000019 => [1] | 1000018 => [1] | 3000008 => [1] | 3000010 => [1] | 3000012 => [1000] | 3000014 => [1000] | 3000016 => [1000] | 3000020 => [1000] | 3000021 => [1] | 3000006 => [1] | _ => []

theorem vm_machine_does_eq (x0 x1 : AV) (H : List Ob) (r : AV) (Ho : List Ob) : aBody Try.prog vm_machine_does_ann Try.f70 H [x0, x1] r Ho = vm_machine_does x0 x1 H (fun v H' => Gives H.length v H' r Ho) := by kernel_rfl

theorem vm_machine_does_fnH {x0 x1 : AV} {Hin : List Ob} {r : AV} {Ho : List Ob} (h : vm_machine_does x0 x1 Hin (fun v H' => Gives Hin.length v H' r Ho)) : Abs.Fn Try.prog vm_machine_does_i Hin [x0, x1] r Ho :=
  fn_intro mixed vm_machine_does_ann (fn := Try.f70) (by kernel_rfl) (by kernel_rfl) (by rw [vm_machine_does_eq]; exact h)

theorem vm_machine_does_fn {x0 x1 : AV} {r : AV} {Ho : List Ob} (h : vm_machine_does x0 x1 [] (fun v H' => Gives 0 v H' r Ho)) : Abs.Fn Try.prog vm_machine_does_i [] [x0, x1] r Ho := vm_machine_does_fnH (Hin := []) h

/- (*runnel/vm.stack[runnel/val.Value]).push -/
def vm_stack_val_Value_push (x0 x1 : AV) (H : List Ob) (K : AV → List Ob → Prop) : Prop :=
  aBox x1 H fun v0 h1 =>
  aNilCheck x0 fun v2 =>
  (aLoad false 1 v2 h1 fun v3 =>
  aLen true false v3 fun v4 =>
  (aLoad true 5 v0 h1 fun v5 =>
  aBuildSlice 5 [(.agg [(.p (.int .i64 0)), (.p (.int .i64 0)), (.p (.bool false)), (.p (.str [])), (.full [])])] fun v6 =>
  aAppend false 5 64 v3 v6 h1 fun v7 h8 =>
  aIndexAddr 5 v7 v4 fun v9 =>
  aNilCheck x0 fun v10 =>
  (aStore 5 v9 v5 h8 fun _ h12 =>
  aStore 1 v10 v7 h12 fun _ h14 =>
  K (.tup []) h14) ∧
  (aStore 1 v10 v7 h8 fun _ h16 =>
  aStore 5 v9 v5 h16 fun _ h18 =>
  K (.tup []) h18)) ∧
  (aBuildSlice 5 [(.agg [(.p (.int .i64 0)), (.p (.int .i64 0)), (.p (.bool false)), (.p (.str [])), (.full [])])] fun v19 =>
  aLoad true 5 v0 h1 fun v20 =>
  aAppend false 5 64 v3 v19 h1 fun v21 h22 =>
  aIndexAddr 5 v21 v4 fun v23 =>
  aNilCheck x0 fun v24 =>
  (aStore 5 v23 v20 h22 fun _ h26 =>
  aStore 1 v24 v21 h26 fun _ h28 =>
  K (.tup []) h28) ∧
  (aStore 1 v24 v21 h22 fun _ h30 =>
  aStore 5 v23 v20 h30 fun _ h32 =>
  K (.tup []) h32))) ∧
  (aLoad true 5 v0 h1 fun v33 =>
  (aLoad false 1 v2 h1 fun v34 =>
  aLen true false v34 fun v35 =>
  aBuildSlice 5 [(.agg [(.p (.int .i64 0)), (.p (.int .i64 0)), (.p (.bool false)), (.p (.str [])), (.full [])])] fun v36 =>
  aAppend false 5 64 v34 v36 h1 fun v37 h38 =>
  aIndexAddr 5 v37 v35 fun v39 =>
  aNilCheck x0 fun v40 =>
  (aStore 5 v39 v33 h38 fun _ h42 =>
  aStore 1 v40 v37 h42 fun _ h44 =>
  K (.tup []) h44) ∧
  (aStore 1 v40 v37 h38 fun _ h46 =>
  aStore 5 v39 v33 h46 fun _ h48 =>
  K (.tup []) h48)) ∧
  (aBuildSlice 5 [(.agg [(.p (.int .i64 0)), (.p (.int .i64 0)), (.p (.bool false)), (.p (.str [])), (.full [])])] fun v49 =>
  aLoad false 1 v2 h1 fun v50 =>
  aLen true false v50 fun v51 =>
  aAppend false 5 64 v50 v49 h1 fun v52 h53 =>
  aIndexAddr 5 v52 v51 fun v54 =>
  aNilCheck x0 fun v55 =>
  (aStore 5 v54 v33 h53 fun _ h57 =>
  aStore 1 v55 v52 h57 fun _ h59 =>
  K (.tup []) h59) ∧
  (aStore 1 v55 v52 h53 fun _ h61 =>
  aStore 5 v54 v33 h61 fun _ h63 =>
  K (.tup []) h63))) ∧
  (aBuildSlice 5 [(.agg [(.p (.int .i64 0)), (.p (.int .i64 0)), (.p (.bool false)), (.p (.str [])), (.full [])])] fun v64 =>
  (aLoad false 1 v2 h1 fun v65 =>
  aLen true false v65 fun v66 =>
  aLoad true 5 v0 h1 fun v67 =>
  aAppend false 5 64 v65 v64 h1 fun v68 h69 =>
  aIndexAddr 5 v68 v66 fun v70 =>
  aNilCheck x0 fun v71 =>
  (aStore 5 v70 v67 h69 fun _ h73 =>
  aStore 1 v71 v68 h73 fun _ h75 =>
  K (.tup []) h75) ∧
  (aStore 1 v71 v68 h69 fun _ h77 =>
  aStore 5 v70 v67 h77 fun _ h79 =>
  K (.tup []) h79)) ∧
  (aLoad true 5 v0 h1 fun v80 =>
  aLoad false 1 v2 h1 fun v81 =>
  aLen true false v81 fun v82 =>
  aAppend false 5 64 v81 v64 h1 fun v83 h84 =>
  aIndexAddr 5 v83 v82 fun v85 =>
  aNilCheck x0 fun v86 =>
  (aStore 5 v85 v80 h84 fun _ h88 =>
  aStore 1 v86 v83 h88 fun _ h90 =>
  K (.tup []) h90) ∧
  (aStore 1 v86 v83 h84 fun _ h92 =>
  aStore 5 v85 v80 h92 fun _ h94 =>
  K (.tup []) h94)))

def vm_stack_val_Value_push_ann : Nat → List Nat := fun k => match k with | 3000001 => [1000] | _ => []

theorem vm_stack_val_Value_push_eq (x0 x1 : AV) (H : List Ob) (r : AV) (Ho : List Ob) : aBody Try.prog vm_stack_val_Value_push_ann Try.f98 H [x0, x1] r Ho = vm_stack_val_Value_push x0 x1 H (fun v H' => Gives H.length v H' r Ho) := by kernel_rfl

theorem vm_stack_val_Value_push_fnH {x0 x1 : AV} {Hin : List Ob} {r : AV} {Ho : List Ob} (h : vm_stack_val_Value_push x0 x1 Hin (fun v H' => Gives Hin.length v H' r Ho)) : Abs.Fn Try.prog vm_stack_val_Value_push_i Hin [x0, x1] r Ho :=
  fn_intro mixed vm_stack_val_Value_push_ann (fn := Try.f98) (by kernel_rfl) (by kernel_rfl) (by rw [vm_stack_val_Value_push_eq]; exact h)

theorem vm_stack_val_Value_push_fn {x0 x1 : AV} {r : AV} {Ho : List Ob} (h : vm_stack_val_Value_push x0 x1 [] (fun v H' => Gives 0 v H' r Ho)) : Abs.Fn Try.prog vm_stack_val_Value_push_i [] [x0, x1] r Ho := vm_stack_val_Value_push_fnH (Hin := []) h

end Go.Proofs.Ytjendohiohhciaa
end

section
/- Made by program (Gen.lean): functions of the dump, over trees. -/
set_option maxRecDepth 4000
set_option linter.unusedVariables false
namespace Go.Proofs.Ytjendohiohhciaa
open Go Go.Abs

/- runnel/vm.Chain -/
def vm_Chain (x0 x1 : AV) (H : List Ob) (K : AV → List Ob → Prop) : Prop :=
  aBox x0 H fun v0 h1 =>
  aBox x1 h1 fun v2 h3 =>
  aAlloc [(.full [])] h3 fun v4 h5 =>
  aAlloc [(.full [])] h5 fun v6 h7 =>
  aAlloc [(.p (.raw .nilFunc))] h7 fun v8 h9 =>
  aMakeFunc vm_Chain_1_i [v0, v4, v6, v8] h9 fun v10 h11 =>
  aStore 1 v8 v10 h11 fun _ h13 =>
  aLoad false 1 v8 h13 fun v14 =>
  aLoad true 5 v2 h13 fun v15 =>
  aCall Try.prog v14 [(.p (.int .i64 0)), v15] h13 fun _ h17 =>
  aLoad false 1 v4 h17 fun v18 =>
  aLoad false 1 v6 h17 fun v19 =>
  K (.tup [v18, v19]) h17

def vm_Chain_ann : Nat → List Nat := fun _ => []

theorem vm_Chain_eq (x0 x1 : AV) (H : List Ob) (r : AV) (Ho : List Ob) : aBody Try.prog vm_Chain_ann Try.f40 H [x0, x1] r Ho = vm_Chain x0 x1 H (fun v H' => Gives H.length v H' r Ho) := by kernel_rfl

theorem vm_Chain_fnH {x0 x1 : AV} {Hin : List Ob} {r : AV} {Ho : List Ob} (h : vm_Chain x0 x1 Hin (fun v H' => Gives Hin.length v H' r Ho)) : Abs.Fn Try.prog vm_Chain_i Hin [x0, x1] r Ho :=
  fn_intro mixed vm_Chain_ann (fn := Try.f40) (by kernel_rfl) (by kernel_rfl) (by rw [vm_Chain_eq]; exact h)

theorem vm_Chain_fn {x0 x1 : AV} {r : AV} {Ho : List Ob} (h : vm_Chain x0 x1 [] (fun v H' => Gives 0 v H' r Ho)) : Abs.Fn Try.prog vm_Chain_i [] [x0, x1] r Ho := vm_Chain_fnH (Hin := []) h

/- runnel/vm.Chain$1 -/
def vm_Chain_1_L1 (q1s0 q1s5 q1s39 q1s40 y0 : AV) (H : List Ob) (B1 : List AV → List Ob → Prop) (K : AV → List Ob → Prop) : Prop :=
  aBin false false .lss y0 q1s40 fun v99 =>
  aGuard v99
  (aIndexAddr 5 q1s39 y0 fun v100 =>
  aLoad true 5 v100 H fun v101 =>
  aAlloc [(.p (.int .i64 0)), (.p (.int .i64 0)), (.p (.bool false)), (.p (.str [])), (.full [])] H fun v102 h103 =>
  aStore 5 v102 v101 h103 fun _ h105 =>
  aLoad false 1 q1s5 h105 fun v106 =>
  aBin false false .add q1s0 (.p (.int .i64 1)) fun v107 =>
  aLoad true 5 v102 h105 fun v108 =>
  aCall Try.prog v106 [v107, v108] h105 fun _ h110 =>
  aBin false false .add y0 (.p (.int .i64 1)) fun v111 =>
  B1 [v111] h110)
  (K (.tup []) H)

def vm_Chain_1_J1 (j1s0 j1s5 j1s8 : AV) (H : List Ob) (K : AV → List Ob → Prop) : Prop :=
  aLen false false j1s8 fun v98 =>
  aLoopN 1 [(.p (.int .i64 0))] H fun xs H B1 => vm_Chain_1_L1 j1s0 j1s5 j1s8 v98 (xs.getD 0 .top) H B1 K

def vm_Chain_1 (x0 x1 x2 x3 x4 x5 : AV) (H : List Ob) (K : AV → List Ob → Prop) : Prop :=
  aBox x1 H fun v0 h1 =>
  aLoad false 1 x2 h1 fun v2 =>
  aLen false false v2 fun v3 =>
  aBin false false .eql x0 v3 fun v4 =>
  aGuard v4
  ((aLoad false 1 x3 h1 fun v5 =>
  aLen true false v5 fun v6 =>
  (aLoad true 5 v0 h1 fun v7 =>
  aBuildSlice 5 [(.agg [(.p (.int .i64 0)), (.p (.int .i64 0)), (.p (.bool false)), (.p (.str [])), (.full [])])] fun v8 =>
  aAppend false 5 64 v5 v8 h1 fun v9 h10 =>
  aIndexAddr 5 v9 v6 fun v11 =>
  (aStore 5 v11 v7 h10 fun _ h13 =>
  aStore 1 x3 v9 h13 fun _ h15 =>
  K (.tup []) h15) ∧
  (aStore 1 x3 v9 h10 fun _ h17 =>
  aStore 5 v11 v7 h17 fun _ h19 =>
  K (.tup []) h19)) ∧
  (aBuildSlice 5 [(.agg [(.p (.int .i64 0)), (.p (.int .i64 0)), (.p (.bool false)), (.p (.str [])), (.full [])])] fun v20 =>
  aLoad true 5 v0 h1 fun v21 =>
  aAppend false 5 64 v5 v20 h1 fun v22 h23 =>
  aIndexAddr 5 v22 v6 fun v24 =>
  (aStore 5 v24 v21 h23 fun _ h26 =>
  aStore 1 x3 v22 h26 fun _ h28 =>
  K (.tup []) h28) ∧
  (aStore 1 x3 v22 h23 fun _ h30 =>
  aStore 5 v24 v21 h30 fun _ h32 =>
  K (.tup []) h32))) ∧
  (aLoad true 5 v0 h1 fun v33 =>
  (aLoad false 1 x3 h1 fun v34 =>
  aLen true false v34 fun v35 =>
  aBuildSlice 5 [(.agg [(.p (.int .i64 0)), (.p (.int .i64 0)), (.p (.bool false)), (.p (.str [])), (.full [])])] fun v36 =>
  aAppend false 5 64 v34 v36 h1 fun v37 h38 =>
  aIndexAddr 5 v37 v35 fun v39 =>
  (aStore 5 v39 v33 h38 fun _ h41 =>
  aStore 1 x3 v37 h41 fun _ h43 =>
  K (.tup []) h43) ∧
  (aStore 1 x3 v37 h38 fun _ h45 =>
  aStore 5 v39 v33 h45 fun _ h47 =>
  K (.tup []) h47)) ∧
  (aBuildSlice 5 [(.agg [(.p (.int .i64 0)), (.p (.int .i64 0)), (.p (.bool false)), (.p (.str [])), (.full [])])] fun v48 =>
  aLoad false 1 x3 h1 fun v49 =>
  aLen true false v49 fun v50 =>
  aAppend false 5 64 v49 v48 h1 fun v51 h52 =>
  aIndexAddr 5 v51 v50 fun v53 =>
  (aStore 5 v53 v33 h52 fun _ h55 =>
  aStore 1 x3 v51 h55 fun _ h57 =>
  K (.tup []) h57) ∧
  (aStore 1 x3 v51 h52 fun _ h59 =>
  aStore 5 v53 v33 h59 fun _ h61 =>
  K (.tup []) h61))) ∧
  (aBuildSlice 5 [(.agg [(.p (.int .i64 0)), (.p (.int .i64 0)), (.p (.bool false)), (.p (.str [])), (.full [])])] fun v62 =>
  (aLoad false 1 x3 h1 fun v63 =>
  aLen true false v63 fun v64 =>
  aLoad true 5 v0 h1 fun v65 =>
  aAppend false 5 64 v63 v62 h1 fun v66 h67 =>
  aIndexAddr 5 v66 v64 fun v68 =>
  (aStore 5 v68 v65 h67 fun _ h70 =>
  aStore 1 x3 v66 h70 fun _ h72 =>
  K (.tup []) h72) ∧
  (aStore 1 x3 v66 h67 fun _ h74 =>
  aStore 5 v68 v65 h74 fun _ h76 =>
  K (.tup []) h76)) ∧
  (aLoad true 5 v0 h1 fun v77 =>
  aLoad false 1 x3 h1 fun v78 =>
  aLen true false v78 fun v79 =>
  aAppend false 5 64 v78 v62 h1 fun v80 h81 =>
  aIndexAddr 5 v80 v79 fun v82 =>
  (aStore 5 v82 v77 h81 fun _ h84 =>
  aStore 1 x3 v80 h84 fun _ h86 =>
  K (.tup []) h86) ∧
  (aStore 1 x3 v80 h81 fun _ h88 =>
  aStore 5 v82 v77 h88 fun _ h90 =>
  K (.tup []) h90))))
  (aLoad false 1 x2 h1 fun v91 =>
  aIndexAddr 1 v91 x0 fun v92 =>
  aLoad false 1 v92 h1 fun v93 =>
  aLoad true 5 v0 h1 fun v94 =>
  aCallT Try.prog (.p (.func vm_Run_i [])) [v93, v94] fun v95 =>
  aExtract v95 0 fun v96 =>
  aExtract v95 1 fun v97 =>
  aBin false false .neq v97 (.p (.int .i64 0)) fun v112 =>
  aGuard v112
  (aLoad false 1 x4 h1 fun v113 =>
  aLoad true 5 v0 h1 fun v114 =>
  aBuild [(.p (.int .i64 0)), (.p (.int .i64 0)), (.p (.int .i64 0)), (.p (.bool false)), (.p (.str [])), (.full [])] [(0, 1, x0), (1, 5, v114)] fun v115 =>
  aBuildSlice 6 [v115] fun v116 =>
  aAppend false 6 72 v113 v116 h1 fun v117 h118 =>
  aStore 1 x4 v117 h118 fun _ h120 =>
  vm_Chain_1_J1 x0 x5 v96 h120 K)
  (vm_Chain_1_J1 x0 x5 v96 h1 K))

def vm_Chain_1_ann : Nat → List Nat := fun k => match k with | 7 => [41] | 3000002 => [1000] | _ => []

theorem vm_Chain_1_eq (x0 x1 x2 x3 x4 x5 : AV) (H : List Ob) (r : AV) (Ho : List Ob) : aBody Try.prog vm_Chain_1_ann Try.f74 H [x0, x1, x2, x3, x4, x5] r Ho = vm_Chain_1 x0 x1 x2 x3 x4 x5 H (fun v H' => Gives H.length v H' r Ho) := by kernel_rfl

theorem vm_Chain_1_fnH {x0 x1 x2 x3 x4 x5 : AV} {Hin : List Ob} {r : AV} {Ho : List Ob} (h : vm_Chain_1 x0 x1 x2 x3 x4 x5 Hin (fun v H' => Gives Hin.length v H' r Ho)) : Abs.Fn Try.prog vm_Chain_1_i Hin [x0, x1, x2, x3, x4, x5] r Ho :=
  fn_intro mixed vm_Chain_1_ann (fn := Try.f74) (by kernel_rfl) (by kernel_rfl) (by rw [vm_Chain_1_eq]; exact h)

theorem vm_Chain_1_fn {x0 x1 x2 x3 x4 x5 : AV} {r : AV} {Ho : List Ob} (h : vm_Chain_1 x0 x1 x2 x3 x4 x5 [] (fun v H' => Gives 0 v H' r Ho)) : Abs.Fn Try.prog vm_Chain_1_i [] [x0, x1, x2, x3, x4, x5] r Ho := vm_Chain_1_fnH (Hin := []) h

end Go.Proofs.Ytjendohiohhciaa
end

section
/- Made by program (Gen.lean): functions of the dump, over trees. -/
set_option maxRecDepth 4000
set_option linter.unusedVariables false
namespace Go.Proofs.Ytjendohiohhciaa
open Go Go.Abs

/- runnel/runnellaw14.VmRun -/
def runnellaw14_VmRun (x0 x1 : AV) (H : List Ob) (K : AV → List Ob → Prop) : Prop :=
  aBox x1 H fun v0 h1 =>
  aCall Try.prog (.p (.func runnellaw14_known_i [])) [] h1 fun v2 h3 =>
  aUn .not v2 fun v4 =>
  aGuard v4
  (K (.p (.bool false)) h3)
  (aCall Try.prog (.p (.func runnellaw11_Few_i [])) [x0] h3 fun v5 h6 =>
  aUn .not v5 fun v7 =>
  aMerge false v7 (fun Q8 =>
  aLoad true 5 v0 h6 fun v9 =>
  aCall Try.prog (.p (.func runnellaw2_Good_i [])) [v9] h6 fun v10 h11 =>
  aUn .not v10 fun v12 =>
  (h11 = h6 ∧ Q8 v12)) fun v13 =>
  aGuard v13
  (K (.p (.bool true)) h6)
  (aCall Try.prog (.p (.func runnellaw11_Of_i [])) [x0] h6 fun v14 h15 =>
  aLoad true 5 v0 h15 fun v16 =>
  aCall Try.prog (.p (.func runnellaw2_Of_i [])) [v16] h15 fun v17 h18 =>
  aCall Try.prog (.p (.func runnelref6_TypeOf_i [])) [v17] h18 fun v19 h20 =>
  aCall Try.prog (.p (.func runnelref14_Verify_i [])) [v14, v19] h20 fun v21 h22 =>
  aExtract v21 0 fun v23 =>
  aExtract v21 1 fun _ =>
  aExtract v21 2 fun v25 =>
  aAlloc [(.p (.int .i64 0)), (.full [])] h22 fun v26 h27 =>
  aStore 2 v26 v23 h27 fun _ h29 =>
  aBin false false .neq v25 (.p (.int .i64 0)) fun v30 =>
  aGuard v30
  (K (.p (.bool true)) h29)
  (aLoad true 5 v0 h29 fun v31 =>
  aCall Try.prog (.p (.func vm_Run_i [])) [x0, v31] h29 fun v32 h33 =>
  aExtract v32 0 fun v34 =>
  aExtract v32 1 fun v35 =>
  aLoad true 5 v0 h33 fun v36 =>
  aCall Try.prog (.p (.func runnellaw2_Of_i [])) [v36] h33 fun v37 h38 =>
  aCall Try.prog (.p (.func runnelref14_Run_i [])) [v14, v37] h38 fun v39 h40 =>
  aExtract v39 0 fun v41 =>
  aExtract v39 1 fun v42 =>
  aBin false false .eql v35 v42 fun v43 =>
  aMerge true v43 (fun Q44 =>
  aCall Try.prog (.p (.func runnellaw2_SameAll_i [])) [v34, v41] h40 fun v45 h46 =>
  (h46 = h40 ∧ Q44 v45)) fun v47 =>
  K v47 h40)))

def runnellaw14_VmRun_ann : Nat → List Nat := fun _ => []

theorem runnellaw14_VmRun_eq (x0 x1 : AV) (H : List Ob) (r : AV) (Ho : List Ob) : aBody Try.prog runnellaw14_VmRun_ann Try.f5 H [x0, x1] r Ho = runnellaw14_VmRun x0 x1 H (fun v H' => Gives H.length v H' r Ho) := by kernel_rfl

theorem runnellaw14_VmRun_fnH {x0 x1 : AV} {Hin : List Ob} {r : AV} {Ho : List Ob} (h : runnellaw14_VmRun x0 x1 Hin (fun v H' => Gives Hin.length v H' r Ho)) : Abs.Fn Try.prog runnellaw14_VmRun_i Hin [x0, x1] r Ho :=
  fn_intro mixed runnellaw14_VmRun_ann (fn := Try.f5) (by kernel_rfl) (by kernel_rfl) (by rw [runnellaw14_VmRun_eq]; exact h)

theorem runnellaw14_VmRun_fn {x0 x1 : AV} {r : AV} {Ho : List Ob} (h : runnellaw14_VmRun x0 x1 [] (fun v H' => Gives 0 v H' r Ho)) : Abs.Fn Try.prog runnellaw14_VmRun_i [] [x0, x1] r Ho := runnellaw14_VmRun_fnH (Hin := []) h

/- runnel/runnellaw14.VmFused -/
def runnellaw14_VmFused_L4 (q4s10 q4s13 y0 : AV) (H : List Ob) (B4 : List AV → List Ob → Prop) (B1 : List AV → List Ob → Prop) (K : AV → List Ob → Prop) : Prop :=
  aLen false false q4s13 fun v91 =>
  aBin false false .lss y0 v91 fun v92 =>
  aGuard v92
  (aIndexAddr 6 q4s13 y0 fun v93 =>
  aFieldAddr 0 v93 fun v94 =>
  aLoad false 1 v94 H fun v95 =>
  aBin false false .neq v95 (.p (.int .i64 2)) fun v96 =>
  aMerge false v96 (fun Q97 =>
  aIndexAddr 6 q4s13 y0 fun v98 =>
  aFieldAddr 1 v98 fun v99 =>
  aFieldAddr 1 v99 fun v100 =>
  aLoad false 1 v100 H fun v101 =>
  aBin false false .neq v101 (.p (.int .i64 0)) fun v102 =>
  (H = H ∧ Q97 v102)) fun v103 =>
  aMerge false v103 (fun Q104 =>
  aIndexAddr 6 q4s13 y0 fun v105 =>
  aFieldAddr 1 v105 fun v106 =>
  aFieldAddr 0 v106 fun v107 =>
  aLoad false 1 v107 H fun v108 =>
  aBin false false .neq v108 (.p (.int .i64 1)) fun v109 =>
  (H = H ∧ Q104 v109)) fun v110 =>
  aGuard v110
  (K (.p (.bool false)) H)
  (aBin false false .add y0 (.p (.int .i64 1)) fun v111 =>
  B4 [v111] H))
  (aBin false false .add q4s10 (.p (.int .i64 1)) fun v112 =>
  B1 [v112] H)

def runnellaw14_VmFused_L3 (q3s10 q3s12 q3s13 q3s14 y0 : AV) (H : List Ob) (B3 : List AV → List Ob → Prop) (B1 : List AV → List Ob → Prop) (K : AV → List Ob → Prop) : Prop :=
  aLen false false q3s12 fun v82 =>
  aBin false false .lss y0 v82 fun v83 =>
  aGuard v83
  (aIndexAddr 5 q3s12 y0 fun v84 =>
  aFieldAddr 1 v84 fun v85 =>
  aLoad false 1 v85 H fun v86 =>
  aIndexAddr 1 q3s14 y0 fun v87 =>
  aLoad false 1 v87 H fun v88 =>
  aBin false false .neq v86 v88 fun v89 =>
  aGuard v89
  (K (.p (.bool false)) H)
  (aBin false false .add y0 (.p (.int .i64 1)) fun v90 =>
  B3 [v90] H))
  (aLoopN 1 [(.p (.int .i64 0))] H fun xs H B4 => runnellaw14_VmFused_L4 q3s10 q3s13 (xs.getD 0 .top) H B4 B1 K)

def runnellaw14_VmFused_L2 (q2s1 q2s2 q2s10 q2s11 q2s12 q2s13 y0 y1 y2 : AV) (H : List Ob) (B2 : List AV → List Ob → Prop) (B1 : List AV → List Ob → Prop) (K : AV → List Ob → Prop) : Prop :=
  aBin false false .lss y2 (.p (.int .i64 2)) fun v60 =>
  aGuard v60
  (aConvInt .i64 q2s1 fun v61 =>
  aBin false false .mul y2 v61 fun v62 =>
  aBin false false .add q2s11 v62 fun v63 =>
  aConvInt .i64 q2s2 fun v64 =>
  aBin false false .geq v63 v64 fun v65 =>
  aGuard v65
  (aBin false false .add y2 (.p (.int .i64 1)) fun v66 =>
  B2 [y0, y1, v66] H)
  (aBin false false .eql v63 (.p (.int .i64 0)) fun v67 =>
  aGuard v67
  (aBin false false .add y1 (.p (.int .i64 1)) fun v68 =>
  aBin false false .add y2 (.p (.int .i64 1)) fun v69 =>
  B2 [y0, v68, v69] H)
  (aBin false false .quo (.p (.int .i64 1000)) v63 fun v70 =>
  aBuildSlice 1 [v70] fun v71 =>
  aAppend false 1 8 y0 v71 H fun v72 h73 =>
  aBin false false .add y2 (.p (.int .i64 1)) fun v74 =>
  B2 [v72, y1, v74] h73)))
  (aLen false false q2s12 fun v75 =>
  aLen false false y0 fun v76 =>
  aBin false false .neq v75 v76 fun v77 =>
  aMerge false v77 (fun Q78 =>
  aLenS false q2s13 fun v79 =>
  aBin false false .neq v79 y1 fun v80 =>
  (H = H ∧ Q78 v80)) fun v81 =>
  aGuard v81
  (K (.p (.bool false)) H)
  (aLoopN 1 [(.p (.int .i64 0))] H fun xs H B3 => runnellaw14_VmFused_L3 q2s10 q2s12 q2s13 y0 (xs.getD 0 .top) H B3 B1 K))

def runnellaw14_VmFused_L1 (q1s0 q1s1 q1s2 q1s7 q1s8 q1s9 y0 : AV) (H : List Ob) (B1 : List AV → List Ob → Prop) (K : AV → List Ob → Prop) : Prop :=
  aLen false false q1s0 fun v48 =>
  aBin false false .lss y0 v48 fun v49 =>
  aGuard v49
  (aIndexAddr 1 q1s0 y0 fun v50 =>
  aLoad false 1 v50 H fun v51 =>
  aConvInt .i64 v51 fun v52 =>
  aBuildSlice 1 [q1s7, q1s8, q1s9] fun v53 =>
  aCall Try.prog (.p (.func val_Int_i [])) [v52] H fun v54 h55 =>
  aCall Try.prog (.p (.func vm_Chain_i [])) [v53, v54] h55 fun v56 h57 =>
  aExtract v56 0 fun v58 =>
  aExtract v56 1 fun v59 =>
  aLoopN 3 [(.full []), (.p (.int .i64 0)), (.p (.int .i64 0))] h57 fun xs H B2 => runnellaw14_VmFused_L2 q1s1 q1s2 y0 v52 v58 v59 (xs.getD 0 .top) (xs.getD 1 .top) (xs.getD 2 .top) H B2 B1 K)
  (K (.p (.bool true)) H)

def runnellaw14_VmFused (x0 x1 x2 : AV) (H : List Ob) (K : AV → List Ob → Prop) : Prop :=
  aCall Try.prog (.p (.func runnellaw14_known_i [])) [] H fun v0 h1 =>
  aUn .not v0 fun v2 =>
  aGuard v2
  (K (.p (.bool false)) h1)
  (aLen false false x0 fun v3 =>
  aBin false false .gtr v3 (.p (.int .i64 40)) fun v4 =>
  aGuard v4
  (K (.p (.bool true)) h1)
  (aCall Try.prog (.p (.func runnellaw4_X_i [])) [] h1 fun v5 h6 =>
  aCall Try.prog (.p (.func runnellaw4_X_i [])) [] h6 fun v7 h8 =>
  aConvInt .i64 x1 fun v9 =>
  aCall Try.prog (.p (.func val_Int_i [])) [v9] h8 fun v10 h11 =>
  aCall Try.prog (.p (.func runnellaw4_Lit_i [])) [v10] h11 fun v12 h13 =>
  aBuildSlice 8 [v7, v12] fun v14 =>
  aCall Try.prog (.p (.func runnellaw4_Op_i [])) [(.p (.str [97, 100, 100])), v14] h13 fun v15 h16 =>
  aBuildSlice 8 [v5, v15] fun v17 =>
  aBuild [(.p (.int .i64 0)), (.p (.str [])), (.p (.int .i64 0)), (.full []), (.full []), (.p (.str [])), (.p (.int .i64 0)), (.p (.int .i64 0)), (.p (.bool false)), (.p (.str [])), (.full []), (.p (.int .i64 0)), (.full []), (.p (.int .i64 0)), (.p (.int .i64 0))] [(0, 1, (.p (.int .i64 4))), (4, 1, v17)] fun v18 =>
  aCall Try.prog (.p (.func runnellaw14_made_i [])) [v18] h16 fun v19 h20 =>
  aCall Try.prog (.p (.func runnellaw4_X_i [])) [] h20 fun v21 h22 =>
  aConvInt .i64 x2 fun v23 =>
  aCall Try.prog (.p (.func val_Int_i [])) [v23] h22 fun v24 h25 =>
  aCall Try.prog (.p (.func runnellaw4_Lit_i [])) [v24] h25 fun v26 h27 =>
  aBuildSlice 8 [v21, v26] fun v28 =>
  aCall Try.prog (.p (.func runnellaw4_Op_i [])) [(.p (.str [108, 116])), v28] h27 fun v29 h30 =>
  aBuildSlice 8 [v29] fun v31 =>
  aBuild [(.p (.int .i64 0)), (.p (.str [])), (.p (.int .i64 0)), (.full []), (.full []), (.p (.str [])), (.p (.int .i64 0)), (.p (.int .i64 0)), (.p (.bool false)), (.p (.str [])), (.full []), (.p (.int .i64 0)), (.full []), (.p (.int .i64 0)), (.p (.int .i64 0))] [(0, 1, (.p (.int .i64 3))), (4, 1, v31)] fun v32 =>
  aCall Try.prog (.p (.func runnellaw14_made_i [])) [v32] h30 fun v33 h34 =>
  aCall Try.prog (.p (.func val_Int_i [])) [(.p (.int .i64 1000))] h34 fun v35 h36 =>
  aCall Try.prog (.p (.func runnellaw4_Lit_i [])) [v35] h36 fun v37 h38 =>
  aCall Try.prog (.p (.func runnellaw4_X_i [])) [] h38 fun v39 h40 =>
  aBuildSlice 8 [v37, v39] fun v41 =>
  aCall Try.prog (.p (.func runnellaw4_Op_i [])) [(.p (.str [100, 105, 118])), v41] h40 fun v42 h43 =>
  aBuildSlice 8 [v42] fun v44 =>
  aBuild [(.p (.int .i64 0)), (.p (.str [])), (.p (.int .i64 0)), (.full []), (.full []), (.p (.str [])), (.p (.int .i64 0)), (.p (.int .i64 0)), (.p (.bool false)), (.p (.str [])), (.full []), (.p (.int .i64 0)), (.full []), (.p (.int .i64 0)), (.p (.int .i64 0))] [(0, 1, (.p (.int .i64 2))), (4, 1, v44)] fun v45 =>
  aCall Try.prog (.p (.func runnellaw14_made_i [])) [v45] h43 fun v46 h47 =>
  aLoopN 1 [(.p (.int .i64 0))] h47 fun xs H B1 => runnellaw14_VmFused_L1 x0 x1 x2 v19 v33 v46 (xs.getD 0 .top) H B1 K))

def runnellaw14_VmFused_ann : Nat → List Nat := fun k => match k with | 9 => [10] | 16 => [14, 15, 16] | 26 => [18] | 31 => [19] | _ => []

theorem runnellaw14_VmFused_eq (x0 x1 x2 : AV) (H : List Ob) (r : AV) (Ho : List Ob) : aBody Try.prog runnellaw14_VmFused_ann Try.f6 H [x0, x1, x2] r Ho = runnellaw14_VmFused x0 x1 x2 H (fun v H' => Gives H.length v H' r Ho) := by kernel_rfl

theorem runnellaw14_VmFused_fnH {x0 x1 x2 : AV} {Hin : List Ob} {r : AV} {Ho : List Ob} (h : runnellaw14_VmFused x0 x1 x2 Hin (fun v H' => Gives Hin.length v H' r Ho)) : Abs.Fn Try.prog runnellaw14_VmFused_i Hin [x0, x1, x2] r Ho :=
  fn_intro mixed runnellaw14_VmFused_ann (fn := Try.f6) (by kernel_rfl) (by kernel_rfl) (by rw [runnellaw14_VmFused_eq]; exact h)

theorem runnellaw14_VmFused_fn {x0 x1 x2 : AV} {r : AV} {Ho : List Ob} (h : runnellaw14_VmFused x0 x1 x2 [] (fun v H' => Gives 0 v H' r Ho)) : Abs.Fn Try.prog runnellaw14_VmFused_i [] [x0, x1, x2] r Ho := runnellaw14_VmFused_fnH (Hin := []) h

/- runnel/runnellaw14.VmPlain -/
def runnellaw14_VmPlain_L2 (q2s0 q2s7 q2s8 y0 y1 y2 : AV) (H : List Ob) (B2 : List AV → List Ob → Prop) (B1 : List AV → List Ob → Prop) (K : AV → List Ob → Prop) : Prop :=
  aBin false false .lss y2 q2s8 fun v20 =>
  aGuard v20
  (aIndexAddr 5 q2s0 y1 fun v21 =>
  aFieldAddr 4 v21 fun v22 =>
  aLoad false 1 v22 H fun v23 =>
  aLen true false v23 fun v24 =>
  aBin false false .gtr v24 (.p (.int .i64 0)) fun v25 =>
  aGuard v25
  (K (.p (.bool true)) H)
  (aIndexAddr 5 q2s0 y1 fun v26 =>
  aLoad true 5 v26 H fun v27 =>
  aCallT Try.prog (.p (.func val_Check_i [])) [v27] fun v28 =>
  aBin false false .neq v28 (.p (.int .i64 0)) fun v29 =>
  aGuard v29
  (K (.p (.bool true)) H)
  (aIndexAddr 5 q2s0 y1 fun v30 =>
  aFieldAddr 0 v30 fun v31 =>
  aLoad false 1 v31 H fun v32 =>
  aIndexAddr 5 q2s0 (.p (.int .i64 0)) fun v33 =>
  aFieldAddr 0 v33 fun v34 =>
  aLoad false 1 v34 H fun v35 =>
  aBin false false .neq v32 v35 fun v36 =>
  aGuard v36
  (K (.p (.bool true)) H)
  (aIndexAddr 5 q2s0 y1 fun v37 =>
  aLoad true 5 v37 H fun v38 =>
  aBuild [(.p (.str [])), (.p (.int .i64 0)), (.p (.int .i64 0)), (.p (.bool false)), (.p (.str [])), (.full []), (.p (.int .i64 0))] [(0, 1, (.p (.str [112, 117, 115, 104]))), (1, 5, v38)] fun v39 =>
  aBuildSlice 7 [v39] fun v40 =>
  aAppend false 7 88 y0 v40 H fun v41 h42 =>
  aBin false false .add y1 (.p (.int .i64 1)) fun v43 =>
  aBin false false .add y2 (.p (.int .i64 1)) fun v44 =>
  B2 [v41, v43, v44] h42))))
  (aBuild [(.p (.str [])), (.p (.int .i64 0)), (.p (.int .i64 0)), (.p (.bool false)), (.p (.str [])), (.full []), (.p (.int .i64 0))] [(0, 1, (.p (.str [101, 109, 105, 116]))), (6, 1, q2s8)] fun v45 =>
  aBuildSlice 7 [v45] fun v46 =>
  aAppend false 7 88 y0 v46 H fun v47 h48 =>
  aBin false false .add q2s7 (.p (.int .i64 1)) fun v49 =>
  B1 [v47, y1, v49] h48)

def runnellaw14_VmPlain_J1 (j1s0 j1s5 j1s6 j1s7 j1s8 : AV) (H : List Ob) (B1 : List AV → List Ob → Prop) (K : AV → List Ob → Prop) : Prop :=
  aLoopN 3 [j1s5, j1s6, (.p (.int .i64 0))] H fun xs H B2 => runnellaw14_VmPlain_L2 j1s0 j1s7 j1s8 (xs.getD 0 .top) (xs.getD 1 .top) (xs.getD 2 .top) H B2 B1 K

def runnellaw14_VmPlain_L3 (q3s0 q3s6 q3s10 y0 : AV) (H : List Ob) (B3 : List AV → List Ob → Prop) (K : AV → List Ob → Prop) : Prop :=
  aBin false false .lss y0 q3s6 fun v70 =>
  aGuard v70
  (aIndexAddr 5 q3s10 y0 fun v71 =>
  aLoad true 5 v71 H fun v72 =>
  aIndexAddr 5 q3s0 y0 fun v73 =>
  aLoad true 5 v73 H fun v74 =>
  aCallT Try.prog (.p (.func val_Same_i [])) [v72, v74] fun v75 =>
  aUn .not v75 fun v76 =>
  aGuard v76
  (K (.p (.bool false)) H)
  (aBin false false .add y0 (.p (.int .i64 1)) fun v77 =>
  B3 [v77] H))
  (K (.p (.bool true)) H)

def runnellaw14_VmPlain_L1 (q1s0 q1s1 y0 y1 y2 : AV) (H : List Ob) (B1 : List AV → List Ob → Prop) (K : AV → List Ob → Prop) : Prop :=
  aLen false false q1s1 fun v9 =>
  aBin false false .lss y2 v9 fun v10 =>
  aMerge true v10 (fun Q11 =>
  aLenS false q1s0 fun v12 =>
  aBin false false .lss y1 v12 fun v13 =>
  (H = H ∧ Q11 v13)) fun v14 =>
  aGuard v14
  (aIndexAddr 1 q1s1 y2 fun v15 =>
  aLoad false 1 v15 H fun v16 =>
  aBin false false .rem v16 (.p (.int .u8 4)) fun v17 =>
  aConvInt .i64 v17 fun v18 =>
  aBin false false .add (.p (.int .i64 1)) v18 fun v19 =>
  aLen false false q1s0 fun v50 =>
  aBin false false .sub v50 y1 fun v51 =>
  aBin false false .gtr v19 v51 fun v52 =>
  aGuard v52
  (aLen false false q1s0 fun v53 =>
  aBin false false .sub v53 y1 fun v54 =>
  runnellaw14_VmPlain_J1 q1s0 y0 y1 y2 v54 H B1 K)
  (runnellaw14_VmPlain_J1 q1s0 y0 y1 y2 v19 H B1 K))
  (aBuild [(.p (.str [])), (.p (.int .i64 0)), (.p (.int .i64 0)), (.p (.bool false)), (.p (.str [])), (.full []), (.p (.int .i64 0))] [(0, 1, (.p (.str [114, 101, 116])))] fun v55 =>
  aBuildSlice 7 [v55] fun v56 =>
  aAppend false 7 88 y0 v56 H fun v57 h58 =>
  aCall Try.prog (.p (.func val_Int_i [])) [(.p (.int .i64 0))] h58 fun v59 h60 =>
  aCall Try.prog (.p (.func vm_Run_i [])) [v57, v59] h60 fun v61 h62 =>
  aExtract v61 0 fun v63 =>
  aExtract v61 1 fun v64 =>
  aBin false false .neq v64 (.p (.int .i64 0)) fun v65 =>
  aMerge false v65 (fun Q66 =>
  aLenS false v63 fun v67 =>
  aBin false false .neq v67 y1 fun v68 =>
  (h62 = h62 ∧ Q66 v68)) fun v69 =>
  aGuard v69
  (K (.p (.bool false)) h62)
  (aLoopN 1 [(.p (.int .i64 0))] h62 fun xs H B3 => runnellaw14_VmPlain_L3 q1s0 y1 v63 (xs.getD 0 .top) H B3 K))

def runnellaw14_VmPlain (x0 x1 : AV) (H : List Ob) (K : AV → List Ob → Prop) : Prop :=
  aCall Try.prog (.p (.func runnellaw14_known_i [])) [] H fun v0 h1 =>
  aUn .not v0 fun v2 =>
  aGuard v2
  (K (.p (.bool false)) h1)
  (aLen false false x0 fun v3 =>
  aBin false false .gtr v3 (.p (.int .i64 30)) fun v4 =>
  aMerge false v4 (fun Q5 =>
  aLenS false x1 fun v6 =>
  aBin false false .gtr v6 (.p (.int .i64 40)) fun v7 =>
  (h1 = h1 ∧ Q5 v7)) fun v8 =>
  aGuard v8
  (K (.p (.bool true)) h1)
  (aLoopN 3 [(.full []), (.p (.int .i64 0)), (.p (.int .i64 0))] h1 fun xs H B1 => runnellaw14_VmPlain_L1 x0 x1 (xs.getD 0 .top) (xs.getD 1 .top) (xs.getD 2 .top) H B1 K))

def runnellaw14_VmPlain_ann : Nat → List Nat := fun k => match k with | 8 => [5, 6, 7] | 14 => [5, 6, 9] | 26 => [12] | _ => []

theorem runnellaw14_VmPlain_eq (x0 x1 : AV) (H : List Ob) (r : AV) (Ho : List Ob) : aBody Try.prog runnellaw14_VmPlain_ann Try.f7 H [x0, x1] r Ho = runnellaw14_VmPlain x0 x1 H (fun v H' => Gives H.length v H' r Ho) := by kernel_rfl

theorem runnellaw14_VmPlain_fnH {x0 x1 : AV} {Hin : List Ob} {r : AV} {Ho : List Ob} (h : runnellaw14_VmPlain x0 x1 Hin (fun v H' => Gives Hin.length v H' r Ho)) : Abs.Fn Try.prog runnellaw14_VmPlain_i Hin [x0, x1] r Ho :=
  fn_intro mixed runnellaw14_VmPlain_ann (fn := Try.f7) (by kernel_rfl) (by kernel_rfl) (by rw [runnellaw14_VmPlain_eq]; exact h)

theorem runnellaw14_VmPlain_fn {x0 x1 : AV} {r : AV} {Ho : List Ob} (h : runnellaw14_VmPlain x0 x1 [] (fun v H' => Gives 0 v H' r Ho)) : Abs.Fn Try.prog runnellaw14_VmPlain_i [] [x0, x1] r Ho := runnellaw14_VmPlain_fnH (Hin := []) h

/- runnel/runnellaw14.known -/
def runnellaw14_known (H : List Ob) (K : AV → List Ob → Prop) : Prop :=
  aBuild [(.p (.str [])), (.p (.int .i64 0)), (.p (.int .i64 0)), (.p (.bool false)), (.p (.str [])), (.full []), (.p (.int .i64 0))] [(0, 1, (.p (.str [120])))] fun v0 =>
  aBuild [(.p (.str [])), (.p (.int .i64 0)), (.p (.int .i64 0)), (.p (.bool false)), (.p (.str [])), (.full []), (.p (.int .i64 0))] [(0, 1, (.p (.str [120])))] fun v1 =>
  aBuild [(.p (.str [])), (.p (.int .i64 0)), (.p (.int .i64 0)), (.p (.bool false)), (.p (.str [])), (.full []), (.p (.int .i64 0))] [(0, 1, (.p (.str [101, 109, 105, 116]))), (6, 1, (.p (.int .i64 2)))] fun v2 =>
  aBuild [(.p (.str [])), (.p (.int .i64 0)), (.p (.int .i64 0)), (.p (.bool false)), (.p (.str [])), (.full []), (.p (.int .i64 0))] [(0, 1, (.p (.str [114, 101, 116])))] fun v3 =>
  aBuildSlice 7 [v0, v1, v2, v3] fun v4 =>
  aCall Try.prog (.p (.func val_Int_i [])) [(.p (.int .i64 6))] H fun v5 h6 =>
  aBuild [(.p (.str [])), (.p (.int .i64 0)), (.p (.int .i64 0)), (.p (.bool false)), (.p (.str [])), (.full []), (.p (.int .i64 0))] [(0, 1, (.p (.str [112, 117, 115, 104]))), (1, 5, v5)] fun v7 =>
  aBuild [(.p (.str [])), (.p (.int .i64 0)), (.p (.int .i64 0)), (.p (.bool false)), (.p (.str [])), (.full []), (.p (.int .i64 0))] [(0, 1, (.p (.str [120])))] fun v8 =>
  aBuild [(.p (.str [])), (.p (.int .i64 0)), (.p (.int .i64 0)), (.p (.bool false)), (.p (.str [])), (.full []), (.p (.int .i64 0))] [(0, 1, (.p (.str [100, 105, 118])))] fun v9 =>
  aBuild [(.p (.str [])), (.p (.int .i64 0)), (.p (.int .i64 0)), (.p (.bool false)), (.p (.str [])), (.full []), (.p (.int .i64 0))] [(0, 1, (.p (.str [101, 109, 105, 116]))), (6, 1, (.p (.int .i64 1)))] fun v10 =>
  aBuild [(.p (.str [])), (.p (.int .i64 0)), (.p (.int .i64 0)), (.p (.bool false)), (.p (.str [])), (.full []), (.p (.int .i64 0))] [(0, 1, (.p (.str [114, 101, 116])))] fun v11 =>
  aBuildSlice 7 [v7, v8, v9, v10, v11] fun v12 =>
  aCall Try.prog (.p (.func val_Int_i [])) [(.p (.int .i64 3))] h6 fun v13 h14 =>
  aCall Try.prog (.p (.func vm_Run_i [])) [v4, v13] h14 fun v15 h16 =>
  aExtract v15 0 fun v17 =>
  aExtract v15 1 fun v18 =>
  aBuildSlice 1 [v4, v12] fun v19 =>
  aCall Try.prog (.p (.func val_Int_i [])) [(.p (.int .i64 3))] h16 fun v20 h21 =>
  aCall Try.prog (.p (.func vm_Chain_i [])) [v19, v20] h21 fun v22 h23 =>
  aExtract v22 0 fun v24 =>
  aExtract v22 1 fun v25 =>
  aBuildSlice 1 [v12] fun v26 =>
  aCall Try.prog (.p (.func val_Int_i [])) [(.p (.int .i64 0))] h23 fun v27 h28 =>
  aCall Try.prog (.p (.func vm_Chain_i [])) [v26, v27] h28 fun v29 h30 =>
  aExtract v29 0 fun _ =>
  aExtract v29 1 fun v32 =>
  aCall Try.prog (.p (.func val_Int_i [])) [(.p (.int .i64 0))] h30 fun v33 h34 =>
  aCall Try.prog (.p (.func vm_Run_i [])) [v12, v33] h34 fun v35 h36 =>
  aExtract v35 0 fun _ =>
  aExtract v35 1 fun v38 =>
  aBin false false .eql v18 (.p (.int .i64 0)) fun v39 =>
  aMerge true v39 (fun Q40 =>
  aLenS false v17 fun v41 =>
  aBin false false .eql v41 (.p (.int .i64 2)) fun v42 =>
  (h36 = h36 ∧ Q40 v42)) fun v43 =>
  aMerge true v43 (fun Q44 =>
  aLenS false v24 fun v45 =>
  aBin false false .eql v45 (.p (.int .i64 2)) fun v46 =>
  (h36 = h36 ∧ Q44 v46)) fun v47 =>
  aMerge true v47 (fun Q48 =>
  aIndexAddr 5 v24 (.p (.int .i64 1)) fun v49 =>
  aFieldAddr 1 v49 fun v50 =>
  aLoad false 1 v50 h36 fun v51 =>
  aBin false false .eql v51 (.p (.int .i64 2)) fun v52 =>
  (h36 = h36 ∧ Q48 v52)) fun v53 =>
  aMerge true v53 (fun Q54 =>
  aLenS false v25 fun v55 =>
  aBin false false .eql v55 (.p (.int .i64 0)) fun v56 =>
  (h36 = h36 ∧ Q54 v56)) fun v57 =>
  aMerge true v57 (fun Q58 =>
  aLenS false v32 fun v59 =>
  aBin false false .eql v59 (.p (.int .i64 1)) fun v60 =>
  (h36 = h36 ∧ Q58 v60)) fun v61 =>
  aMerge true v61 (fun Q62 =>
  aIndexAddr 6 v32 (.p (.int .i64 0)) fun v63 =>
  aFieldAddr 0 v63 fun v64 =>
  aLoad false 1 v64 h36 fun v65 =>
  aBin false false .eql v65 (.p (.int .i64 0)) fun v66 =>
  (h36 = h36 ∧ Q62 v66)) fun v67 =>
  aMerge true v67 (fun Q68 =>
  aIndexAddr 6 v32 (.p (.int .i64 0)) fun v69 =>
  aFieldAddr 1 v69 fun v70 =>
  aFieldAddr 0 v70 fun v71 =>
  aLoad false 1 v71 h36 fun v72 =>
  aBin false false .eql v72 (.p (.int .i64 1)) fun v73 =>
  (h36 = h36 ∧ Q68 v73)) fun v74 =>
  aMerge true v74 (fun Q75 =>
  aBin false false .eql v38 (.p (.int .i64 8)) fun v76 =>
  (h36 = h36 ∧ Q75 v76)) fun v77 =>
  K v77 h36

def runnellaw14_known_ann : Nat → List Nat := fun _ => []

theorem runnellaw14_known_eq (H : List Ob) (r : AV) (Ho : List Ob) : aBody Try.prog runnellaw14_known_ann Try.f28 H [] r Ho = runnellaw14_known H (fun v H' => Gives H.length v H' r Ho) := by kernel_rfl

theorem runnellaw14_known_fnH {Hin : List Ob} {r : AV} {Ho : List Ob} (h : runnellaw14_known Hin (fun v H' => Gives Hin.length v H' r Ho)) : Abs.Fn Try.prog runnellaw14_known_i Hin [] r Ho :=
  fn_intro mixed runnellaw14_known_ann (fn := Try.f28) (by kernel_rfl) (by kernel_rfl) (by rw [runnellaw14_known_eq]; exact h)

theorem runnellaw14_known_fn {r : AV} {Ho : List Ob} (h : runnellaw14_known [] (fun v H' => Gives 0 v H' r Ho)) : Abs.Fn Try.prog runnellaw14_known_i [] [] r Ho := runnellaw14_known_fnH (Hin := []) h

end Go.Proofs.Ytjendohiohhciaa
end

section
/- Made by program (Gen.lean): functions of the dump, over trees. -/
set_option maxRecDepth 4000
set_option linter.unusedVariables false
namespace Go.Proofs.Ytjendohiohhciaa
open Go Go.Abs

/- runnel/runnellaw14.VmLazy (in pieces) -/
def runnellaw14_VmLazy_ann : Nat → List Nat := fun k => match k with | 8 => [7] | 2000009 => [0, 1, 5, 6, 7, 9999] | 2000024 => [1, 6, 9999] | _ => []
def runnellaw14_VmLazy_cut : Nat → Bool := fun k => match k with | 9 => true | 24 => true | _ => false
noncomputable def runnellaw14_VmLazy_c : Code := Try.f8.body.getD .skip
noncomputable def runnellaw14_VmLazy_c9 : Code := (cr (cr (cl (cl (cr (cl (cr (cr (cr (cr (cr runnellaw14_VmLazy_c)))))))))))
noncomputable def runnellaw14_VmLazy_c24 : Code := (cr (cr (cr (cr (cr (cr runnellaw14_VmLazy_c))))))

def runnellaw14_VmLazy_L1 (q1s0 q1s1 q1s4 q1s5 q1s6 q1s16 q1s17 q1s18 q1s19 q1s20 q1s21 q1s22 q1s23 q1s24 q1s25 q1s26 q1s27 q1s28 q1s29 q1s30 q1s31 q1s32 q1s33 y0 : AV) (H : List Ob) (B1 : List AV → List Ob → Prop) (self : Code → List AV → List Ob → Ko → Prop) (kp : Ko) : Prop :=
  aLen false false q1s0 fun v36 =>
  aBin false false .lss y0 v36 fun v37 =>
  aGuard v37
  (aIndexAddr 1 q1s0 y0 fun v38 =>
  aLoad false 1 v38 H fun v39 =>
  aBin false false .quo v39 (.p (.int .u8 8)) fun v40 =>
  aBin false false .rem v40 (.p (.int .u8 2)) fun v41 =>
  aBin false false .eql v41 (.p (.int .u8 0)) fun v42 =>
  aCall Try.prog (.p (.func val_Bool_i [])) [v42] H fun v43 h44 =>
  aCall Try.prog (.p (.func runnellaw4_Lit_i [])) [v43] h44 fun v45 h46 =>
  aAlloc [(.p (.str [])), (.p (.int .i64 0)), (.p (.int .i64 0)), (.p (.bool false)), (.p (.str [])), (.full []), (.p (.int .i64 0)), (.full [])] h46 fun v47 h48 =>
  aStore 8 v47 v45 h48 fun _ h50 =>
  aIndexAddr 1 q1s0 y0 fun v51 =>
  aLoad false 1 v51 h50 fun v52 =>
  aBin false false .rem v52 (.p (.int .u8 6)) fun v53 =>
  aBin false false .eql v53 (.p (.int .u8 0)) fun v54 =>
  aGuard v54
  (aLoad true 8 v47 h50 fun v55 =>
  aLoad true 8 q1s6 h50 fun v56 =>
  aBuildSlice 8 [v55, v56] fun v57 =>
  aCall Try.prog (.p (.func runnellaw4_Op_i [])) [(.p (.str [97, 110, 100])), v57] h50 fun v58 h59 =>
  aStore 8 q1s6 v58 h59 fun _ h61 =>
  self runnellaw14_VmLazy_c9 (keepS [0, 1, 5, 6, 7, 9999] 0 (q1s0 :: q1s1 :: .top :: .top :: q1s4 :: q1s5 :: q1s6 :: y0 :: v47 :: .top :: .top :: .top :: .top :: .top :: .top :: .top :: q1s16 :: q1s17 :: q1s18 :: q1s19 :: q1s20 :: q1s21 :: q1s22 :: q1s23 :: q1s24 :: q1s25 :: q1s26 :: q1s27 :: q1s28 :: q1s29 :: q1s30 :: q1s31 :: q1s32 :: q1s33 :: y0 :: q1s0 :: v36 :: (.p (.bool true)) :: .top :: .top :: q1s0 :: y0 :: v38 :: v39 :: v40 :: v41 :: v42 :: v43 :: v45 :: q1s0 :: y0 :: v51 :: v52 :: v53 :: (.p (.bool true)) :: v54 :: v55 :: v56 :: v57 :: v58 :: .top :: .top :: .top :: .top :: .top :: .top :: .top :: .top :: .top :: .top :: .top :: .top :: .top :: .top :: .top :: .top :: .top :: .top :: .top :: .top :: .top :: .top :: .top :: .top :: .top :: .top :: .top :: .top :: .top :: .top :: .top :: .top :: .top :: .top :: .top :: .top :: .top :: .top :: .top :: .top :: .top :: .top :: .top :: .top :: .top :: .top :: .top :: .top :: .top :: .top :: .top :: .top :: .top :: .top :: .top :: .top :: .top :: .top :: .top :: .top :: .top :: .top :: .top :: .top :: .top :: .top :: .top :: .top :: .top :: .top :: .top :: .top :: .top :: .top :: .top :: .top :: .top :: .top :: .top :: .top :: .top :: .top :: .top :: .top :: .top :: .top :: .top :: .top :: .top :: .top :: .top :: .top :: .top :: .top :: .top :: .top :: .top :: .top :: .top :: .top :: .top :: .top :: .top :: .top :: .top :: .top :: .top :: .top :: .top :: [])) h61 (kLoop [7] B1 (kBlock 0 (kSeq self runnellaw14_VmLazy_c24 [1, 6, 9999] kp))))
  (aBin false false .eql v53 (.p (.int .u8 1)) fun v62 =>
  aGuard v62
  (aLoad true 8 v47 h50 fun v63 =>
  aLoad true 8 q1s6 h50 fun v64 =>
  aBuildSlice 8 [v63, v64] fun v65 =>
  aCall Try.prog (.p (.func runnellaw4_Op_i [])) [(.p (.str [111, 114])), v65] h50 fun v66 h67 =>
  aStore 8 q1s6 v66 h67 fun _ h69 =>
  self runnellaw14_VmLazy_c9 (keepS [0, 1, 5, 6, 7, 9999] 0 (q1s0 :: q1s1 :: .top :: .top :: q1s4 :: q1s5 :: q1s6 :: y0 :: v47 :: .top :: .top :: .top :: .top :: .top :: .top :: .top :: q1s16 :: q1s17 :: q1s18 :: q1s19 :: q1s20 :: q1s21 :: q1s22 :: q1s23 :: q1s24 :: q1s25 :: q1s26 :: q1s27 :: q1s28 :: q1s29 :: q1s30 :: q1s31 :: q1s32 :: q1s33 :: y0 :: q1s0 :: v36 :: (.p (.bool true)) :: .top :: .top :: q1s0 :: y0 :: v38 :: v39 :: v40 :: v41 :: v42 :: v43 :: v45 :: q1s0 :: y0 :: v51 :: v52 :: v53 :: (.p (.bool false)) :: v54 :: .top :: .top :: .top :: .top :: (.p (.bool true)) :: v62 :: v63 :: v64 :: v65 :: v66 :: .top :: .top :: .top :: .top :: .top :: .top :: .top :: .top :: .top :: .top :: .top :: .top :: .top :: .top :: .top :: .top :: .top :: .top :: .top :: .top :: .top :: .top :: .top :: .top :: .top :: .top :: .top :: .top :: .top :: .top :: .top :: .top :: .top :: .top :: .top :: .top :: .top :: .top :: .top :: .top :: .top :: .top :: .top :: .top :: .top :: .top :: .top :: .top :: .top :: .top :: .top :: .top :: .top :: .top :: .top :: .top :: .top :: .top :: .top :: .top :: .top :: .top :: .top :: .top :: .top :: .top :: .top :: .top :: .top :: .top :: .top :: .top :: .top :: .top :: .top :: .top :: .top :: .top :: .top :: .top :: .top :: .top :: .top :: .top :: .top :: .top :: .top :: .top :: .top :: .top :: .top :: .top :: .top :: .top :: .top :: .top :: .top :: .top :: .top :: .top :: .top :: .top :: .top :: [])) h69 (kLoop [7] B1 (kBlock 0 (kSeq self runnellaw14_VmLazy_c24 [1, 6, 9999] kp))))
  (aBin false false .eql v53 (.p (.int .u8 2)) fun v70 =>
  aGuard v70
  (aLoad true 8 v47 h50 fun v71 =>
  aLoad true 8 q1s6 h50 fun v72 =>
  aLoad true 8 q1s5 h50 fun v73 =>
  aBuildSlice 8 [v71, v72, v73] fun v74 =>
  aCall Try.prog (.p (.func runnellaw4_Op_i [])) [(.p (.str [105, 102])), v74] h50 fun v75 h76 =>
  aStore 8 q1s6 v75 h76 fun _ h78 =>
  self runnellaw14_VmLazy_c9 (keepS [0, 1, 5, 6, 7, 9999] 0 (q1s0 :: q1s1 :: .top :: .top :: q1s4 :: q1s5 :: q1s6 :: y0 :: v47 :: .top :: .top :: .top :: .top :: .top :: .top :: .top :: q1s16 :: q1s17 :: q1s18 :: q1s19 :: q1s20 :: q1s21 :: q1s22 :: q1s23 :: q1s24 :: q1s25 :: q1s26 :: q1s27 :: q1s28 :: q1s29 :: q1s30 :: q1s31 :: q1s32 :: q1s33 :: y0 :: q1s0 :: v36 :: (.p (.bool true)) :: .top :: .top :: q1s0 :: y0 :: v38 :: v39 :: v40 :: v41 :: v42 :: v43 :: v45 :: q1s0 :: y0 :: v51 :: v52 :: v53 :: (.p (.bool false)) :: v54 :: .top :: .top :: .top :: .top :: (.p (.bool false)) :: v62 :: .top :: .top :: .top :: .top :: (.p (.bool true)) :: v70 :: v71 :: v72 :: v73 :: v74 :: v75 :: .top :: .top :: .top :: .top :: .top :: .top :: .top :: .top :: .top :: .top :: .top :: .top :: .top :: .top :: .top :: .top :: .top :: .top :: .top :: .top :: .top :: .top :: .top :: .top :: .top :: .top :: .top :: .top :: .top :: .top :: .top :: .top :: .top :: .top :: .top :: .top :: .top :: .top :: .top :: .top :: .top :: .top :: .top :: .top :: .top :: .top :: .top :: .top :: .top :: .top :: .top :: .top :: .top :: .top :: .top :: .top :: .top :: .top :: .top :: .top :: .top :: .top :: .top :: .top :: .top :: .top :: .top :: .top :: .top :: .top :: .top :: .top :: .top :: .top :: .top :: .top :: .top :: .top :: .top :: .top :: .top :: .top :: .top :: .top :: .top :: .top :: .top :: .top :: .top :: .top :: .top :: .top :: .top :: .top :: .top :: .top :: [])) h78 (kLoop [7] B1 (kBlock 0 (kSeq self runnellaw14_VmLazy_c24 [1, 6, 9999] kp))))
  (aBin false false .eql v53 (.p (.int .u8 3)) fun v79 =>
  aGuard v79
  (aLoad true 8 q1s6 h50 fun v80 =>
  aLoad true 8 q1s5 h50 fun v81 =>
  aBuildSlice 8 [v80, v81] fun v82 =>
  aCall Try.prog (.p (.func runnellaw4_Op_i [])) [(.p (.str [97, 110, 100])), v82] h50 fun v83 h84 =>
  aStore 8 q1s6 v83 h84 fun _ h86 =>
  self runnellaw14_VmLazy_c9 (keepS [0, 1, 5, 6, 7, 9999] 0 (q1s0 :: q1s1 :: .top :: .top :: q1s4 :: q1s5 :: q1s6 :: y0 :: v47 :: .top :: .top :: .top :: .top :: .top :: .top :: .top :: q1s16 :: q1s17 :: q1s18 :: q1s19 :: q1s20 :: q1s21 :: q1s22 :: q1s23 :: q1s24 :: q1s25 :: q1s26 :: q1s27 :: q1s28 :: q1s29 :: q1s30 :: q1s31 :: q1s32 :: q1s33 :: y0 :: q1s0 :: v36 :: (.p (.bool true)) :: .top :: .top :: q1s0 :: y0 :: v38 :: v39 :: v40 :: v41 :: v42 :: v43 :: v45 :: q1s0 :: y0 :: v51 :: v52 :: v53 :: (.p (.bool false)) :: v54 :: .top :: .top :: .top :: .top :: (.p (.bool false)) :: v62 :: .top :: .top :: .top :: .top :: (.p (.bool false)) :: v70 :: .top :: .top :: .top :: .top :: .top :: (.p (.bool true)) :: v79 :: v80 :: v81 :: v82 :: v83 :: .top :: .top :: .top :: .top :: .top :: .top :: .top :: .top :: .top :: .top :: .top :: .top :: .top :: .top :: .top :: .top :: .top :: .top :: .top :: .top :: .top :: .top :: .top :: .top :: .top :: .top :: .top :: .top :: .top :: .top :: .top :: .top :: .top :: .top :: .top :: .top :: .top :: .top :: .top :: .top :: .top :: .top :: .top :: .top :: .top :: .top :: .top :: .top :: .top :: .top :: .top :: .top :: .top :: .top :: .top :: .top :: .top :: .top :: .top :: .top :: .top :: .top :: .top :: .top :: .top :: .top :: .top :: .top :: .top :: .top :: .top :: .top :: .top :: .top :: .top :: .top :: .top :: .top :: .top :: .top :: .top :: .top :: .top :: .top :: .top :: .top :: .top :: .top :: .top :: .top :: [])) h86 (kLoop [7] B1 (kBlock 0 (kSeq self runnellaw14_VmLazy_c24 [1, 6, 9999] kp))))
  (aBin false false .eql v53 (.p (.int .u8 4)) fun v87 =>
  aGuard v87
  (aLoad true 8 q1s6 h50 fun v88 =>
  aLoad true 8 q1s5 h50 fun v89 =>
  aBuildSlice 8 [v88, v89] fun v90 =>
  aCall Try.prog (.p (.func runnellaw4_Op_i [])) [(.p (.str [111, 114])), v90] h50 fun v91 h92 =>
  aStore 8 q1s6 v91 h92 fun _ h94 =>
  self runnellaw14_VmLazy_c9 (keepS [0, 1, 5, 6, 7, 9999] 0 (q1s0 :: q1s1 :: .top :: .top :: q1s4 :: q1s5 :: q1s6 :: y0 :: v47 :: .top :: .top :: .top :: .top :: .top :: .top :: .top :: q1s16 :: q1s17 :: q1s18 :: q1s19 :: q1s20 :: q1s21 :: q1s22 :: q1s23 :: q1s24 :: q1s25 :: q1s26 :: q1s27 :: q1s28 :: q1s29 :: q1s30 :: q1s31 :: q1s32 :: q1s33 :: y0 :: q1s0 :: v36 :: (.p (.bool true)) :: .top :: .top :: q1s0 :: y0 :: v38 :: v39 :: v40 :: v41 :: v42 :: v43 :: v45 :: q1s0 :: y0 :: v51 :: v52 :: v53 :: (.p (.bool false)) :: v54 :: .top :: .top :: .top :: .top :: (.p (.bool false)) :: v62 :: .top :: .top :: .top :: .top :: (.p (.bool false)) :: v70 :: .top :: .top :: .top :: .top :: .top :: (.p (.bool false)) :: v79 :: .top :: .top :: .top :: .top :: (.p (.bool true)) :: v87 :: v88 :: v89 :: v90 :: v91 :: .top :: .top :: .top :: .top :: .top :: .top :: .top :: .top :: .top :: .top :: .top :: .top :: .top :: .top :: .top :: .top :: .top :: .top :: .top :: .top :: .top :: .top :: .top :: .top :: .top :: .top :: .top :: .top :: .top :: .top :: .top :: .top :: .top :: .top :: .top :: .top :: .top :: .top :: .top :: .top :: .top :: .top :: .top :: .top :: .top :: .top :: .top :: .top :: .top :: .top :: .top :: .top :: .top :: .top :: .top :: .top :: .top :: .top :: .top :: .top :: .top :: .top :: .top :: .top :: .top :: .top :: .top :: .top :: .top :: .top :: .top :: .top :: .top :: .top :: .top :: .top :: .top :: .top :: .top :: .top :: .top :: .top :: .top :: .top :: [])) h94 (kLoop [7] B1 (kBlock 0 (kSeq self runnellaw14_VmLazy_c24 [1, 6, 9999] kp))))
  (aBin false false .eql v53 (.p (.int .u8 5)) fun v95 =>
  aGuard v95
  (aLoad true 8 q1s6 h50 fun v96 =>
  aLoad true 8 v47 h50 fun v97 =>
  aLoad true 8 q1s5 h50 fun v98 =>
  aBuildSlice 8 [v96, v97, v98] fun v99 =>
  aCall Try.prog (.p (.func runnellaw4_Op_i [])) [(.p (.str [105, 102])), v99] h50 fun v100 h101 =>
  aStore 8 q1s6 v100 h101 fun _ h103 =>
  self runnellaw14_VmLazy_c9 (keepS [0, 1, 5, 6, 7, 9999] 0 (q1s0 :: q1s1 :: .top :: .top :: q1s4 :: q1s5 :: q1s6 :: y0 :: v47 :: .top :: .top :: .top :: .top :: .top :: .top :: .top :: q1s16 :: q1s17 :: q1s18 :: q1s19 :: q1s20 :: q1s21 :: q1s22 :: q1s23 :: q1s24 :: q1s25 :: q1s26 :: q1s27 :: q1s28 :: q1s29 :: q1s30 :: q1s31 :: q1s32 :: q1s33 :: y0 :: q1s0 :: v36 :: (.p (.bool true)) :: .top :: .top :: q1s0 :: y0 :: v38 :: v39 :: v40 :: v41 :: v42 :: v43 :: v45 :: q1s0 :: y0 :: v51 :: v52 :: v53 :: (.p (.bool false)) :: v54 :: .top :: .top :: .top :: .top :: (.p (.bool false)) :: v62 :: .top :: .top :: .top :: .top :: (.p (.bool false)) :: v70 :: .top :: .top :: .top :: .top :: .top :: (.p (.bool false)) :: v79 :: .top :: .top :: .top :: .top :: (.p (.bool false)) :: v87 :: .top :: .top :: .top :: .top :: (.p (.bool true)) :: v95 :: v96 :: v97 :: v98 :: v99 :: v100 :: .top :: .top :: .top :: .top :: .top :: .top :: .top :: .top :: .top :: .top :: .top :: .top :: .top :: .top :: .top :: .top :: .top :: .top :: .top :: .top :: .top :: .top :: .top :: .top :: .top :: .top :: .top :: .top :: .top :: .top :: .top :: .top :: .top :: .top :: .top :: .top :: .top :: .top :: .top :: .top :: .top :: .top :: .top :: .top :: .top :: .top :: .top :: .top :: .top :: .top :: .top :: .top :: .top :: .top :: .top :: .top :: .top :: .top :: .top :: .top :: .top :: .top :: .top :: .top :: .top :: .top :: .top :: .top :: .top :: .top :: .top :: .top :: .top :: .top :: .top :: .top :: .top :: [])) h103 (kLoop [7] B1 (kBlock 0 (kSeq self runnellaw14_VmLazy_c24 [1, 6, 9999] kp))))
  (self runnellaw14_VmLazy_c9 (keepS [0, 1, 5, 6, 7, 9999] 0 (q1s0 :: q1s1 :: .top :: .top :: q1s4 :: q1s5 :: q1s6 :: y0 :: v47 :: .top :: .top :: .top :: .top :: .top :: .top :: .top :: q1s16 :: q1s17 :: q1s18 :: q1s19 :: q1s20 :: q1s21 :: q1s22 :: q1s23 :: q1s24 :: q1s25 :: q1s26 :: q1s27 :: q1s28 :: q1s29 :: q1s30 :: q1s31 :: q1s32 :: q1s33 :: y0 :: q1s0 :: v36 :: (.p (.bool true)) :: .top :: .top :: q1s0 :: y0 :: v38 :: v39 :: v40 :: v41 :: v42 :: v43 :: v45 :: q1s0 :: y0 :: v51 :: v52 :: v53 :: (.p (.bool false)) :: v54 :: .top :: .top :: .top :: .top :: (.p (.bool false)) :: v62 :: .top :: .top :: .top :: .top :: (.p (.bool false)) :: v70 :: .top :: .top :: .top :: .top :: .top :: (.p (.bool false)) :: v79 :: .top :: .top :: .top :: .top :: (.p (.bool false)) :: v87 :: .top :: .top :: .top :: .top :: (.p (.bool false)) :: v95 :: .top :: .top :: .top :: .top :: .top :: .top :: .top :: .top :: .top :: .top :: .top :: .top :: .top :: .top :: .top :: .top :: .top :: .top :: .top :: .top :: .top :: .top :: .top :: .top :: .top :: .top :: .top :: .top :: .top :: .top :: .top :: .top :: .top :: .top :: .top :: .top :: .top :: .top :: .top :: .top :: .top :: .top :: .top :: .top :: .top :: .top :: .top :: .top :: .top :: .top :: .top :: .top :: .top :: .top :: .top :: .top :: .top :: .top :: .top :: .top :: .top :: .top :: .top :: .top :: .top :: .top :: .top :: .top :: .top :: .top :: .top :: .top :: .top :: .top :: .top :: .top :: .top :: .top :: .top :: .top :: .top :: .top :: [])) h50 (kLoop [7] B1 (kBlock 0 (kSeq self runnellaw14_VmLazy_c24 [1, 6, 9999] kp))))))))))
  (self runnellaw14_VmLazy_c24 (keepS [1, 6, 9999] 0 (q1s0 :: q1s1 :: .top :: .top :: q1s4 :: q1s5 :: q1s6 :: y0 :: .top :: .top :: .top :: .top :: .top :: .top :: .top :: .top :: q1s16 :: q1s17 :: q1s18 :: q1s19 :: q1s20 :: q1s21 :: q1s22 :: q1s23 :: q1s24 :: q1s25 :: q1s26 :: q1s27 :: q1s28 :: q1s29 :: q1s30 :: q1s31 :: q1s32 :: q1s33 :: y0 :: q1s0 :: v36 :: (.p (.bool false)) :: .top :: .top :: .top :: .top :: .top :: .top :: .top :: .top :: .top :: .top :: .top :: .top :: .top :: .top :: .top :: .top :: .top :: .top :: .top :: .top :: .top :: .top :: .top :: .top :: .top :: .top :: .top :: .top :: .top :: .top :: .top :: .top :: .top :: .top :: .top :: .top :: .top :: .top :: .top :: .top :: .top :: .top :: .top :: .top :: .top :: .top :: .top :: .top :: .top :: .top :: .top :: .top :: .top :: .top :: .top :: .top :: .top :: .top :: .top :: .top :: .top :: .top :: .top :: .top :: .top :: .top :: .top :: .top :: .top :: .top :: .top :: .top :: .top :: .top :: .top :: .top :: .top :: .top :: .top :: .top :: .top :: .top :: .top :: .top :: .top :: .top :: .top :: .top :: .top :: .top :: .top :: .top :: .top :: .top :: .top :: .top :: .top :: .top :: .top :: .top :: .top :: .top :: .top :: .top :: .top :: .top :: .top :: .top :: .top :: .top :: .top :: .top :: .top :: .top :: .top :: .top :: .top :: .top :: .top :: .top :: .top :: .top :: .top :: .top :: .top :: .top :: .top :: .top :: .top :: .top :: .top :: [])) H kp)

def runnellaw14_VmLazy_P0 (j0 j1 : AV) (H : List Ob) (self : Code → List AV → List Ob → Ko → Prop) (kp : Ko) : Prop :=
  aCall Try.prog (.p (.func runnellaw14_known_i [])) [] H fun v0 h1 =>
  aUn .not v0 fun v2 =>
  aGuard v2
  (kp .ret (j0 :: j1 :: .top :: .top :: (.p (.bool false)) :: .top :: .top :: .top :: .top :: .top :: .top :: .top :: .top :: .top :: .top :: .top :: v0 :: (.p (.bool true)) :: .top :: .top :: .top :: .top :: .top :: .top :: .top :: .top :: .top :: .top :: .top :: .top :: .top :: .top :: .top :: .top :: .top :: .top :: .top :: .top :: .top :: .top :: .top :: .top :: .top :: .top :: .top :: .top :: .top :: .top :: .top :: .top :: .top :: .top :: .top :: .top :: .top :: .top :: .top :: .top :: .top :: .top :: .top :: .top :: .top :: .top :: .top :: .top :: .top :: .top :: .top :: .top :: .top :: .top :: .top :: .top :: .top :: .top :: .top :: .top :: .top :: .top :: .top :: .top :: .top :: .top :: .top :: .top :: .top :: .top :: .top :: .top :: .top :: .top :: .top :: .top :: .top :: .top :: .top :: .top :: .top :: .top :: .top :: .top :: .top :: .top :: .top :: .top :: .top :: .top :: .top :: .top :: .top :: .top :: .top :: .top :: .top :: .top :: .top :: .top :: .top :: .top :: .top :: .top :: .top :: .top :: .top :: .top :: .top :: .top :: .top :: .top :: .top :: .top :: .top :: .top :: .top :: .top :: .top :: .top :: .top :: .top :: .top :: .top :: .top :: .top :: .top :: .top :: .top :: .top :: .top :: .top :: .top :: .top :: .top :: .top :: .top :: .top :: .top :: .top :: .top :: .top :: .top :: .top :: .top :: .top :: .top :: .top :: .top :: .top :: .top :: []) h1)
  (aLen false false j0 fun v3 =>
  aBin false false .gtr v3 (.p (.int .i64 9)) fun v4 =>
  aGuard v4
  (kp .ret (j0 :: j1 :: .top :: .top :: (.p (.bool true)) :: .top :: .top :: .top :: .top :: .top :: .top :: .top :: .top :: .top :: .top :: .top :: v0 :: (.p (.bool false)) :: j0 :: v3 :: (.p (.bool true)) :: .top :: .top :: .top :: .top :: .top :: .top :: .top :: .top :: .top :: .top :: .top :: .top :: .top :: .top :: .top :: .top :: .top :: .top :: .top :: .top :: .top :: .top :: .top :: .top :: .top :: .top :: .top :: .top :: .top :: .top :: .top :: .top :: .top :: .top :: .top :: .top :: .top :: .top :: .top :: .top :: .top :: .top :: .top :: .top :: .top :: .top :: .top :: .top :: .top :: .top :: .top :: .top :: .top :: .top :: .top :: .top :: .top :: .top :: .top :: .top :: .top :: .top :: .top :: .top :: .top :: .top :: .top :: .top :: .top :: .top :: .top :: .top :: .top :: .top :: .top :: .top :: .top :: .top :: .top :: .top :: .top :: .top :: .top :: .top :: .top :: .top :: .top :: .top :: .top :: .top :: .top :: .top :: .top :: .top :: .top :: .top :: .top :: .top :: .top :: .top :: .top :: .top :: .top :: .top :: .top :: .top :: .top :: .top :: .top :: .top :: .top :: .top :: .top :: .top :: .top :: .top :: .top :: .top :: .top :: .top :: .top :: .top :: .top :: .top :: .top :: .top :: .top :: .top :: .top :: .top :: .top :: .top :: .top :: .top :: .top :: .top :: .top :: .top :: .top :: .top :: .top :: .top :: .top :: .top :: .top :: .top :: .top :: .top :: []) h1)
  (aCall Try.prog (.p (.func runnellaw4_X_i [])) [] h1 fun v5 h6 =>
  aCall Try.prog (.p (.func val_Int_i [])) [(.p (.int .i64 0))] h6 fun v7 h8 =>
  aCall Try.prog (.p (.func runnellaw4_Lit_i [])) [v7] h8 fun v9 h10 =>
  aBuildSlice 8 [v5, v9] fun v11 =>
  aCall Try.prog (.p (.func runnellaw4_Op_i [])) [(.p (.str [114, 101, 109])), v11] h10 fun v12 h13 =>
  aCall Try.prog (.p (.func runnellaw4_X_i [])) [] h13 fun v14 h15 =>
  aBuildSlice 8 [v12, v14] fun v16 =>
  aCall Try.prog (.p (.func runnellaw4_Op_i [])) [(.p (.str [101, 113])), v16] h15 fun v17 h18 =>
  aAlloc [(.p (.str [])), (.p (.int .i64 0)), (.p (.int .i64 0)), (.p (.bool false)), (.p (.str [])), (.full []), (.p (.int .i64 0)), (.full [])] h18 fun v19 h20 =>
  aStore 8 v19 v17 h20 fun _ h22 =>
  aCall Try.prog (.p (.func runnellaw4_X_i [])) [] h22 fun v23 h24 =>
  aCall Try.prog (.p (.func val_Int_i [])) [(.p (.int .i64 5))] h24 fun v25 h26 =>
  aCall Try.prog (.p (.func runnellaw4_Lit_i [])) [v25] h26 fun v27 h28 =>
  aBuildSlice 8 [v23, v27] fun v29 =>
  aCall Try.prog (.p (.func runnellaw4_Op_i [])) [(.p (.str [108, 116])), v29] h28 fun v30 h31 =>
  aAlloc [(.p (.str [])), (.p (.int .i64 0)), (.p (.int .i64 0)), (.p (.bool false)), (.p (.str [])), (.full []), (.p (.int .i64 0)), (.full [])] h31 fun v32 h33 =>
  aStore 8 v32 v30 h33 fun _ h35 =>
  aLoopN 1 [(.p (.int .i64 0))] h35 fun xs H B1 => runnellaw14_VmLazy_L1 j0 j1 (.p (.bool false)) v19 v32 v0 (.p (.bool false)) j0 v3 (.p (.bool false)) v5 v7 v9 v11 v12 v14 v16 v17 v23 v25 v27 v29 v30 (xs.getD 0 .top) H B1 self kp))

theorem runnellaw14_VmLazy_P0_x (j0 j1 : AV) (H : List Ob) (self : Code → List AV → List Ob → Ko → Prop) (kp : Ko) : awpX Try.prog runnellaw14_VmLazy_ann self runnellaw14_VmLazy_cut runnellaw14_VmLazy_c (j0 :: j1 :: .top :: .top :: .top :: .top :: .top :: .top :: .top :: .top :: .top :: .top :: .top :: .top :: .top :: .top :: .top :: .top :: .top :: .top :: .top :: .top :: .top :: .top :: .top :: .top :: .top :: .top :: .top :: .top :: .top :: .top :: .top :: .top :: .top :: .top :: .top :: .top :: .top :: .top :: .top :: .top :: .top :: .top :: .top :: .top :: .top :: .top :: .top :: .top :: .top :: .top :: .top :: .top :: .top :: .top :: .top :: .top :: .top :: .top :: .top :: .top :: .top :: .top :: .top :: .top :: .top :: .top :: .top :: .top :: .top :: .top :: .top :: .top :: .top :: .top :: .top :: .top :: .top :: .top :: .top :: .top :: .top :: .top :: .top :: .top :: .top :: .top :: .top :: .top :: .top :: .top :: .top :: .top :: .top :: .top :: .top :: .top :: .top :: .top :: .top :: .top :: .top :: .top :: .top :: .top :: .top :: .top :: .top :: .top :: .top :: .top :: .top :: .top :: .top :: .top :: .top :: .top :: .top :: .top :: .top :: .top :: .top :: .top :: .top :: .top :: .top :: .top :: .top :: .top :: .top :: .top :: .top :: .top :: .top :: .top :: .top :: .top :: .top :: .top :: .top :: .top :: .top :: .top :: .top :: .top :: .top :: .top :: .top :: .top :: .top :: .top :: .top :: .top :: .top :: .top :: .top :: .top :: .top :: .top :: .top :: .top :: .top :: .top :: .top :: .top :: .top :: .top :: .top :: []) H kp = runnellaw14_VmLazy_P0 j0 j1 H self kp := by kernel_rfl

theorem runnellaw14_VmLazy_c_eq (j0 j1 : AV) (H : List Ob) (kp : Ko) : awp Try.prog runnellaw14_VmLazy_ann runnellaw14_VmLazy_c (j0 :: j1 :: .top :: .top :: .top :: .top :: .top :: .top :: .top :: .top :: .top :: .top :: .top :: .top :: .top :: .top :: .top :: .top :: .top :: .top :: .top :: .top :: .top :: .top :: .top :: .top :: .top :: .top :: .top :: .top :: .top :: .top :: .top :: .top :: .top :: .top :: .top :: .top :: .top :: .top :: .top :: .top :: .top :: .top :: .top :: .top :: .top :: .top :: .top :: .top :: .top :: .top :: .top :: .top :: .top :: .top :: .top :: .top :: .top :: .top :: .top :: .top :: .top :: .top :: .top :: .top :: .top :: .top :: .top :: .top :: .top :: .top :: .top :: .top :: .top :: .top :: .top :: .top :: .top :: .top :: .top :: .top :: .top :: .top :: .top :: .top :: .top :: .top :: .top :: .top :: .top :: .top :: .top :: .top :: .top :: .top :: .top :: .top :: .top :: .top :: .top :: .top :: .top :: .top :: .top :: .top :: .top :: .top :: .top :: .top :: .top :: .top :: .top :: .top :: .top :: .top :: .top :: .top :: .top :: .top :: .top :: .top :: .top :: .top :: .top :: .top :: .top :: .top :: .top :: .top :: .top :: .top :: .top :: .top :: .top :: .top :: .top :: .top :: .top :: .top :: .top :: .top :: .top :: .top :: .top :: .top :: .top :: .top :: .top :: .top :: .top :: .top :: .top :: .top :: .top :: .top :: .top :: .top :: .top :: .top :: .top :: .top :: .top :: .top :: .top :: .top :: .top :: .top :: .top :: []) H kp = runnellaw14_VmLazy_P0 j0 j1 H (awp Try.prog runnellaw14_VmLazy_ann) kp :=
  (awpX_eq Try.prog runnellaw14_VmLazy_ann runnellaw14_VmLazy_cut runnellaw14_VmLazy_c (j0 :: j1 :: .top :: .top :: .top :: .top :: .top :: .top :: .top :: .top :: .top :: .top :: .top :: .top :: .top :: .top :: .top :: .top :: .top :: .top :: .top :: .top :: .top :: .top :: .top :: .top :: .top :: .top :: .top :: .top :: .top :: .top :: .top :: .top :: .top :: .top :: .top :: .top :: .top :: .top :: .top :: .top :: .top :: .top :: .top :: .top :: .top :: .top :: .top :: .top :: .top :: .top :: .top :: .top :: .top :: .top :: .top :: .top :: .top :: .top :: .top :: .top :: .top :: .top :: .top :: .top :: .top :: .top :: .top :: .top :: .top :: .top :: .top :: .top :: .top :: .top :: .top :: .top :: .top :: .top :: .top :: .top :: .top :: .top :: .top :: .top :: .top :: .top :: .top :: .top :: .top :: .top :: .top :: .top :: .top :: .top :: .top :: .top :: .top :: .top :: .top :: .top :: .top :: .top :: .top :: .top :: .top :: .top :: .top :: .top :: .top :: .top :: .top :: .top :: .top :: .top :: .top :: .top :: .top :: .top :: .top :: .top :: .top :: .top :: .top :: .top :: .top :: .top :: .top :: .top :: .top :: .top :: .top :: .top :: .top :: .top :: .top :: .top :: .top :: .top :: .top :: .top :: .top :: .top :: .top :: .top :: .top :: .top :: .top :: .top :: .top :: .top :: .top :: .top :: .top :: .top :: .top :: .top :: .top :: .top :: .top :: .top :: .top :: .top :: .top :: .top :: .top :: .top :: .top :: []) H kp).symm.trans (runnellaw14_VmLazy_P0_x j0 j1 H (awp Try.prog runnellaw14_VmLazy_ann) kp)

theorem runnellaw14_VmLazy_end_ret (j0 j1 j2 j3 j4 j5 j6 j7 j8 j9 j10 j11 j12 j13 j14 j15 j16 j17 j18 j19 j20 j21 j22 j23 j24 j25 j26 j27 j28 j29 j30 j31 j32 j33 j34 j35 j36 j37 j38 j39 j40 j41 j42 j43 j44 j45 j46 j47 j48 j49 j50 j51 j52 j53 j54 j55 j56 j57 j58 j59 j60 j61 j62 j63 j64 j65 j66 j67 j68 j69 j70 j71 j72 j73 j74 j75 j76 j77 j78 j79 j80 j81 j82 j83 j84 j85 j86 j87 j88 j89 j90 j91 j92 j93 j94 j95 j96 j97 j98 j99 j100 j101 j102 j103 j104 j105 j106 j107 j108 j109 j110 j111 j112 j113 j114 j115 j116 j117 j118 j119 j120 j121 j122 j123 j124 j125 j126 j127 j128 j129 j130 j131 j132 j133 j134 j135 j136 j137 j138 j139 j140 j141 j142 j143 j144 j145 j146 j147 j148 j149 j150 j151 j152 j153 j154 j155 j156 j157 j158 j159 j160 j161 j162 j163 j164 j165 j166 j167 j168 : AV) (H : List Ob) (K : AV → List Ob → Prop) : kEnd Try.prog [.tmp 4] K .ret (j0 :: j1 :: j2 :: j3 :: j4 :: j5 :: j6 :: j7 :: j8 :: j9 :: j10 :: j11 :: j12 :: j13 :: j14 :: j15 :: j16 :: j17 :: j18 :: j19 :: j20 :: j21 :: j22 :: j23 :: j24 :: j25 :: j26 :: j27 :: j28 :: j29 :: j30 :: j31 :: j32 :: j33 :: j34 :: j35 :: j36 :: j37 :: j38 :: j39 :: j40 :: j41 :: j42 :: j43 :: j44 :: j45 :: j46 :: j47 :: j48 :: j49 :: j50 :: j51 :: j52 :: j53 :: j54 :: j55 :: j56 :: j57 :: j58 :: j59 :: j60 :: j61 :: j62 :: j63 :: j64 :: j65 :: j66 :: j67 :: j68 :: j69 :: j70 :: j71 :: j72 :: j73 :: j74 :: j75 :: j76 :: j77 :: j78 :: j79 :: j80 :: j81 :: j82 :: j83 :: j84 :: j85 :: j86 :: j87 :: j88 :: j89 :: j90 :: j91 :: j92 :: j93 :: j94 :: j95 :: j96 :: j97 :: j98 :: j99 :: j100 :: j101 :: j102 :: j103 :: j104 :: j105 :: j106 :: j107 :: j108 :: j109 :: j110 :: j111 :: j112 :: j113 :: j114 :: j115 :: j116 :: j117 :: j118 :: j119 :: j120 :: j121 :: j122 :: j123 :: j124 :: j125 :: j126 :: j127 :: j128 :: j129 :: j130 :: j131 :: j132 :: j133 :: j134 :: j135 :: j136 :: j137 :: j138 :: j139 :: j140 :: j141 :: j142 :: j143 :: j144 :: j145 :: j146 :: j147 :: j148 :: j149 :: j150 :: j151 :: j152 :: j153 :: j154 :: j155 :: j156 :: j157 :: j158 :: j159 :: j160 :: j161 :: j162 :: j163 :: j164 :: j165 :: j166 :: j167 :: j168 :: []) H = (K j4 H) := by kernel_rfl

theorem runnellaw14_VmLazy_end_normal (j0 j1 j2 j3 j4 j5 j6 j7 j8 j9 j10 j11 j12 j13 j14 j15 j16 j17 j18 j19 j20 j21 j22 j23 j24 j25 j26 j27 j28 j29 j30 j31 j32 j33 j34 j35 j36 j37 j38 j39 j40 j41 j42 j43 j44 j45 j46 j47 j48 j49 j50 j51 j52 j53 j54 j55 j56 j57 j58 j59 j60 j61 j62 j63 j64 j65 j66 j67 j68 j69 j70 j71 j72 j73 j74 j75 j76 j77 j78 j79 j80 j81 j82 j83 j84 j85 j86 j87 j88 j89 j90 j91 j92 j93 j94 j95 j96 j97 j98 j99 j100 j101 j102 j103 j104 j105 j106 j107 j108 j109 j110 j111 j112 j113 j114 j115 j116 j117 j118 j119 j120 j121 j122 j123 j124 j125 j126 j127 j128 j129 j130 j131 j132 j133 j134 j135 j136 j137 j138 j139 j140 j141 j142 j143 j144 j145 j146 j147 j148 j149 j150 j151 j152 j153 j154 j155 j156 j157 j158 j159 j160 j161 j162 j163 j164 j165 j166 j167 j168 : AV) (H : List Ob) (K : AV → List Ob → Prop) : kEnd Try.prog [.tmp 4] K .normal (j0 :: j1 :: j2 :: j3 :: j4 :: j5 :: j6 :: j7 :: j8 :: j9 :: j10 :: j11 :: j12 :: j13 :: j14 :: j15 :: j16 :: j17 :: j18 :: j19 :: j20 :: j21 :: j22 :: j23 :: j24 :: j25 :: j26 :: j27 :: j28 :: j29 :: j30 :: j31 :: j32 :: j33 :: j34 :: j35 :: j36 :: j37 :: j38 :: j39 :: j40 :: j41 :: j42 :: j43 :: j44 :: j45 :: j46 :: j47 :: j48 :: j49 :: j50 :: j51 :: j52 :: j53 :: j54 :: j55 :: j56 :: j57 :: j58 :: j59 :: j60 :: j61 :: j62 :: j63 :: j64 :: j65 :: j66 :: j67 :: j68 :: j69 :: j70 :: j71 :: j72 :: j73 :: j74 :: j75 :: j76 :: j77 :: j78 :: j79 :: j80 :: j81 :: j82 :: j83 :: j84 :: j85 :: j86 :: j87 :: j88 :: j89 :: j90 :: j91 :: j92 :: j93 :: j94 :: j95 :: j96 :: j97 :: j98 :: j99 :: j100 :: j101 :: j102 :: j103 :: j104 :: j105 :: j106 :: j107 :: j108 :: j109 :: j110 :: j111 :: j112 :: j113 :: j114 :: j115 :: j116 :: j117 :: j118 :: j119 :: j120 :: j121 :: j122 :: j123 :: j124 :: j125 :: j126 :: j127 :: j128 :: j129 :: j130 :: j131 :: j132 :: j133 :: j134 :: j135 :: j136 :: j137 :: j138 :: j139 :: j140 :: j141 :: j142 :: j143 :: j144 :: j145 :: j146 :: j147 :: j148 :: j149 :: j150 :: j151 :: j152 :: j153 :: j154 :: j155 :: j156 :: j157 :: j158 :: j159 :: j160 :: j161 :: j162 :: j163 :: j164 :: j165 :: j166 :: j167 :: j168 :: []) H = (K j4 H) := by kernel_rfl

theorem runnellaw14_VmLazy_eq (j0 j1 : AV) (H : List Ob) (r : AV) (Ho : List Ob) : aBody Try.prog runnellaw14_VmLazy_ann Try.f8 H [j0, j1] r Ho = runnellaw14_VmLazy_P0 j0 j1 H (awp Try.prog runnellaw14_VmLazy_ann) (kEnd Try.prog [.tmp 4] fun v H' => Gives H.length v H' r Ho) :=
  (show aBody Try.prog runnellaw14_VmLazy_ann Try.f8 H [j0, j1] r Ho = awp Try.prog runnellaw14_VmLazy_ann runnellaw14_VmLazy_c (j0 :: j1 :: .top :: .top :: .top :: .top :: .top :: .top :: .top :: .top :: .top :: .top :: .top :: .top :: .top :: .top :: .top :: .top :: .top :: .top :: .top :: .top :: .top :: .top :: .top :: .top :: .top :: .top :: .top :: .top :: .top :: .top :: .top :: .top :: .top :: .top :: .top :: .top :: .top :: .top :: .top :: .top :: .top :: .top :: .top :: .top :: .top :: .top :: .top :: .top :: .top :: .top :: .top :: .top :: .top :: .top :: .top :: .top :: .top :: .top :: .top :: .top :: .top :: .top :: .top :: .top :: .top :: .top :: .top :: .top :: .top :: .top :: .top :: .top :: .top :: .top :: .top :: .top :: .top :: .top :: .top :: .top :: .top :: .top :: .top :: .top :: .top :: .top :: .top :: .top :: .top :: .top :: .top :: .top :: .top :: .top :: .top :: .top :: .top :: .top :: .top :: .top :: .top :: .top :: .top :: .top :: .top :: .top :: .top :: .top :: .top :: .top :: .top :: .top :: .top :: .top :: .top :: .top :: .top :: .top :: .top :: .top :: .top :: .top :: .top :: .top :: .top :: .top :: .top :: .top :: .top :: .top :: .top :: .top :: .top :: .top :: .top :: .top :: .top :: .top :: .top :: .top :: .top :: .top :: .top :: .top :: .top :: .top :: .top :: .top :: .top :: .top :: .top :: .top :: .top :: .top :: .top :: .top :: .top :: .top :: .top :: .top :: .top :: .top :: .top :: .top :: .top :: .top :: .top :: []) H (kEnd Try.prog [.tmp 4] fun v H' => Gives H.length v H' r Ho) from by kernel_rfl).trans (runnellaw14_VmLazy_c_eq j0 j1 H _)

theorem runnellaw14_VmLazy_fn {j0 j1 : AV} {r : AV} {Ho : List Ob} (h : runnellaw14_VmLazy_P0 j0 j1 [] (awp Try.prog runnellaw14_VmLazy_ann) (kEnd Try.prog [.tmp 4] fun v H' => Gives 0 v H' r Ho)) : Abs.Fn Try.prog runnellaw14_VmLazy_i [] [j0, j1] r Ho :=
  fn_intro mixed runnellaw14_VmLazy_ann (fn := Try.f8) (by kernel_rfl) (by kernel_rfl) (by rw [runnellaw14_VmLazy_eq]; exact h)

def runnellaw14_VmLazy_P9 (j0 j1 j5 j6 j7 : AV) (H : List Ob) (_ : Code → List AV → List Ob → Ko → Prop) (kp : Ko) : Prop :=
  aBin false false .add j7 (.p (.int .i64 1)) fun v104 =>
  kp .normal (j0 :: j1 :: .top :: .top :: .top :: j5 :: j6 :: v104 :: .top :: .top :: .top :: .top :: .top :: .top :: .top :: .top :: .top :: .top :: .top :: .top :: .top :: .top :: .top :: .top :: .top :: .top :: .top :: .top :: .top :: .top :: .top :: .top :: .top :: .top :: .top :: .top :: .top :: .top :: j7 :: v104 :: .top :: .top :: .top :: .top :: .top :: .top :: .top :: .top :: .top :: .top :: .top :: .top :: .top :: .top :: .top :: .top :: .top :: .top :: .top :: .top :: .top :: .top :: .top :: .top :: .top :: .top :: .top :: .top :: .top :: .top :: .top :: .top :: .top :: .top :: .top :: .top :: .top :: .top :: .top :: .top :: .top :: .top :: .top :: .top :: .top :: .top :: .top :: .top :: .top :: .top :: .top :: .top :: .top :: .top :: .top :: .top :: .top :: .top :: .top :: .top :: .top :: .top :: .top :: .top :: .top :: .top :: .top :: .top :: .top :: .top :: .top :: .top :: .top :: .top :: .top :: .top :: .top :: .top :: .top :: .top :: .top :: .top :: .top :: .top :: .top :: .top :: .top :: .top :: .top :: .top :: .top :: .top :: .top :: .top :: .top :: .top :: .top :: .top :: .top :: .top :: .top :: .top :: .top :: .top :: .top :: .top :: .top :: .top :: .top :: .top :: .top :: .top :: .top :: .top :: .top :: .top :: .top :: .top :: .top :: .top :: .top :: .top :: .top :: .top :: .top :: .top :: .top :: .top :: .top :: []) H

theorem runnellaw14_VmLazy_P9_x (j0 j1 j2 j3 j4 j5 j6 j7 j8 j9 j10 j11 j12 j13 j14 j15 j16 j17 j18 j19 j20 j21 j22 j23 j24 j25 j26 j27 j28 j29 j30 j31 j32 j33 j34 j35 j36 j37 j38 j39 j40 j41 j42 j43 j44 j45 j46 j47 j48 j49 j50 j51 j52 j53 j54 j55 j56 j57 j58 j59 j60 j61 j62 j63 j64 j65 j66 j67 j68 j69 j70 j71 j72 j73 j74 j75 j76 j77 j78 j79 j80 j81 j82 j83 j84 j85 j86 j87 j88 j89 j90 j91 j92 j93 j94 j95 j96 j97 j98 j99 j100 j101 j102 j103 j104 j105 j106 j107 j108 j109 j110 j111 j112 j113 j114 j115 j116 j117 j118 j119 j120 j121 j122 j123 j124 j125 j126 j127 j128 j129 j130 j131 j132 j133 j134 j135 j136 j137 j138 j139 j140 j141 j142 j143 j144 j145 j146 j147 j148 j149 j150 j151 j152 j153 j154 j155 j156 j157 j158 j159 j160 j161 j162 j163 j164 j165 j166 j167 j168 : AV) (H : List Ob) (self : Code → List AV → List Ob → Ko → Prop) (kp : Ko) : awpX Try.prog runnellaw14_VmLazy_ann self runnellaw14_VmLazy_cut runnellaw14_VmLazy_c9 (keepS [0, 1, 5, 6, 7, 9999] 0 (j0 :: j1 :: j2 :: j3 :: j4 :: j5 :: j6 :: j7 :: j8 :: j9 :: j10 :: j11 :: j12 :: j13 :: j14 :: j15 :: j16 :: j17 :: j18 :: j19 :: j20 :: j21 :: j22 :: j23 :: j24 :: j25 :: j26 :: j27 :: j28 :: j29 :: j30 :: j31 :: j32 :: j33 :: j34 :: j35 :: j36 :: j37 :: j38 :: j39 :: j40 :: j41 :: j42 :: j43 :: j44 :: j45 :: j46 :: j47 :: j48 :: j49 :: j50 :: j51 :: j52 :: j53 :: j54 :: j55 :: j56 :: j57 :: j58 :: j59 :: j60 :: j61 :: j62 :: j63 :: j64 :: j65 :: j66 :: j67 :: j68 :: j69 :: j70 :: j71 :: j72 :: j73 :: j74 :: j75 :: j76 :: j77 :: j78 :: j79 :: j80 :: j81 :: j82 :: j83 :: j84 :: j85 :: j86 :: j87 :: j88 :: j89 :: j90 :: j91 :: j92 :: j93 :: j94 :: j95 :: j96 :: j97 :: j98 :: j99 :: j100 :: j101 :: j102 :: j103 :: j104 :: j105 :: j106 :: j107 :: j108 :: j109 :: j110 :: j111 :: j112 :: j113 :: j114 :: j115 :: j116 :: j117 :: j118 :: j119 :: j120 :: j121 :: j122 :: j123 :: j124 :: j125 :: j126 :: j127 :: j128 :: j129 :: j130 :: j131 :: j132 :: j133 :: j134 :: j135 :: j136 :: j137 :: j138 :: j139 :: j140 :: j141 :: j142 :: j143 :: j144 :: j145 :: j146 :: j147 :: j148 :: j149 :: j150 :: j151 :: j152 :: j153 :: j154 :: j155 :: j156 :: j157 :: j158 :: j159 :: j160 :: j161 :: j162 :: j163 :: j164 :: j165 :: j166 :: j167 :: j168 :: [])) H kp = runnellaw14_VmLazy_P9 j0 j1 j5 j6 j7 H self kp := by kernel_rfl

theorem runnellaw14_VmLazy_c9_eq (j0 j1 j2 j3 j4 j5 j6 j7 j8 j9 j10 j11 j12 j13 j14 j15 j16 j17 j18 j19 j20 j21 j22 j23 j24 j25 j26 j27 j28 j29 j30 j31 j32 j33 j34 j35 j36 j37 j38 j39 j40 j41 j42 j43 j44 j45 j46 j47 j48 j49 j50 j51 j52 j53 j54 j55 j56 j57 j58 j59 j60 j61 j62 j63 j64 j65 j66 j67 j68 j69 j70 j71 j72 j73 j74 j75 j76 j77 j78 j79 j80 j81 j82 j83 j84 j85 j86 j87 j88 j89 j90 j91 j92 j93 j94 j95 j96 j97 j98 j99 j100 j101 j102 j103 j104 j105 j106 j107 j108 j109 j110 j111 j112 j113 j114 j115 j116 j117 j118 j119 j120 j121 j122 j123 j124 j125 j126 j127 j128 j129 j130 j131 j132 j133 j134 j135 j136 j137 j138 j139 j140 j141 j142 j143 j144 j145 j146 j147 j148 j149 j150 j151 j152 j153 j154 j155 j156 j157 j158 j159 j160 j161 j162 j163 j164 j165 j166 j167 j168 : AV) (H : List Ob) (kp : Ko) : awp Try.prog runnellaw14_VmLazy_ann runnellaw14_VmLazy_c9 (keepS [0, 1, 5, 6, 7, 9999] 0 (j0 :: j1 :: j2 :: j3 :: j4 :: j5 :: j6 :: j7 :: j8 :: j9 :: j10 :: j11 :: j12 :: j13 :: j14 :: j15 :: j16 :: j17 :: j18 :: j19 :: j20 :: j21 :: j22 :: j23 :: j24 :: j25 :: j26 :: j27 :: j28 :: j29 :: j30 :: j31 :: j32 :: j33 :: j34 :: j35 :: j36 :: j37 :: j38 :: j39 :: j40 :: j41 :: j42 :: j43 :: j44 :: j45 :: j46 :: j47 :: j48 :: j49 :: j50 :: j51 :: j52 :: j53 :: j54 :: j55 :: j56 :: j57 :: j58 :: j59 :: j60 :: j61 :: j62 :: j63 :: j64 :: j65 :: j66 :: j67 :: j68 :: j69 :: j70 :: j71 :: j72 :: j73 :: j74 :: j75 :: j76 :: j77 :: j78 :: j79 :: j80 :: j81 :: j82 :: j83 :: j84 :: j85 :: j86 :: j87 :: j88 :: j89 :: j90 :: j91 :: j92 :: j93 :: j94 :: j95 :: j96 :: j97 :: j98 :: j99 :: j100 :: j101 :: j102 :: j103 :: j104 :: j105 :: j106 :: j107 :: j108 :: j109 :: j110 :: j111 :: j112 :: j113 :: j114 :: j115 :: j116 :: j117 :: j118 :: j119 :: j120 :: j121 :: j122 :: j123 :: j124 :: j125 :: j126 :: j127 :: j128 :: j129 :: j130 :: j131 :: j132 :: j133 :: j134 :: j135 :: j136 :: j137 :: j138 :: j139 :: j140 :: j141 :: j142 :: j143 :: j144 :: j145 :: j146 :: j147 :: j148 :: j149 :: j150 :: j151 :: j152 :: j153 :: j154 :: j155 :: j156 :: j157 :: j158 :: j159 :: j160 :: j161 :: j162 :: j163 :: j164 :: j165 :: j166 :: j167 :: j168 :: [])) H kp = runnellaw14_VmLazy_P9 j0 j1 j5 j6 j7 H (awp Try.prog runnellaw14_VmLazy_ann) kp :=
  (awpX_eq Try.prog runnellaw14_VmLazy_ann runnellaw14_VmLazy_cut runnellaw14_VmLazy_c9 (keepS [0, 1, 5, 6, 7, 9999] 0 (j0 :: j1 :: j2 :: j3 :: j4 :: j5 :: j6 :: j7 :: j8 :: j9 :: j10 :: j11 :: j12 :: j13 :: j14 :: j15 :: j16 :: j17 :: j18 :: j19 :: j20 :: j21 :: j22 :: j23 :: j24 :: j25 :: j26 :: j27 :: j28 :: j29 :: j30 :: j31 :: j32 :: j33 :: j34 :: j35 :: j36 :: j37 :: j38 :: j39 :: j40 :: j41 :: j42 :: j43 :: j44 :: j45 :: j46 :: j47 :: j48 :: j49 :: j50 :: j51 :: j52 :: j53 :: j54 :: j55 :: j56 :: j57 :: j58 :: j59 :: j60 :: j61 :: j62 :: j63 :: j64 :: j65 :: j66 :: j67 :: j68 :: j69 :: j70 :: j71 :: j72 :: j73 :: j74 :: j75 :: j76 :: j77 :: j78 :: j79 :: j80 :: j81 :: j82 :: j83 :: j84 :: j85 :: j86 :: j87 :: j88 :: j89 :: j90 :: j91 :: j92 :: j93 :: j94 :: j95 :: j96 :: j97 :: j98 :: j99 :: j100 :: j101 :: j102 :: j103 :: j104 :: j105 :: j106 :: j107 :: j108 :: j109 :: j110 :: j111 :: j112 :: j113 :: j114 :: j115 :: j116 :: j117 :: j118 :: j119 :: j120 :: j121 :: j122 :: j123 :: j124 :: j125 :: j126 :: j127 :: j128 :: j129 :: j130 :: j131 :: j132 :: j133 :: j134 :: j135 :: j136 :: j137 :: j138 :: j139 :: j140 :: j141 :: j142 :: j143 :: j144 :: j145 :: j146 :: j147 :: j148 :: j149 :: j150 :: j151 :: j152 :: j153 :: j154 :: j155 :: j156 :: j157 :: j158 :: j159 :: j160 :: j161 :: j162 :: j163 :: j164 :: j165 :: j166 :: j167 :: j168 :: [])) H kp).symm.trans (runnellaw14_VmLazy_P9_x j0 j1 j2 j3 j4 j5 j6 j7 j8 j9 j10 j11 j12 j13 j14 j15 j16 j17 j18 j19 j20 j21 j22 j23 j24 j25 j26 j27 j28 j29 j30 j31 j32 j33 j34 j35 j36 j37 j38 j39 j40 j41 j42 j43 j44 j45 j46 j47 j48 j49 j50 j51 j52 j53 j54 j55 j56 j57 j58 j59 j60 j61 j62 j63 j64 j65 j66 j67 j68 j69 j70 j71 j72 j73 j74 j75 j76 j77 j78 j79 j80 j81 j82 j83 j84 j85 j86 j87 j88 j89 j90 j91 j92 j93 j94 j95 j96 j97 j98 j99 j100 j101 j102 j103 j104 j105 j106 j107 j108 j109 j110 j111 j112 j113 j114 j115 j116 j117 j118 j119 j120 j121 j122 j123 j124 j125 j126 j127 j128 j129 j130 j131 j132 j133 j134 j135 j136 j137 j138 j139 j140 j141 j142 j143 j144 j145 j146 j147 j148 j149 j150 j151 j152 j153 j154 j155 j156 j157 j158 j159 j160 j161 j162 j163 j164 j165 j166 j167 j168 H (awp Try.prog runnellaw14_VmLazy_ann) kp)

def runnellaw14_VmLazy_P24 (j1 j6 : AV) (H : List Ob) (_ : Code → List AV → List Ob → Ko → Prop) (kp : Ko) : Prop :=
  aLoad true 8 j6 H fun v105 =>
  aCall Try.prog (.p (.func runnellaw4_Of_i [])) [v105] H fun v106 h107 =>
  aCall Try.prog (.p (.func runnelref14_GenExpr_i [])) [v106] h107 fun v108 h109 =>
  aCall Try.prog (.p (.func runnellaw11_To_i [])) [v108] h109 fun v110 h111 =>
  aBuild [(.p (.str [])), (.p (.int .i64 0)), (.p (.int .i64 0)), (.p (.bool false)), (.p (.str [])), (.full []), (.p (.int .i64 0))] [(0, 1, (.p (.str [101, 109, 105, 116]))), (6, 1, (.p (.int .i64 1)))] fun v112 =>
  aBuild [(.p (.str [])), (.p (.int .i64 0)), (.p (.int .i64 0)), (.p (.bool false)), (.p (.str [])), (.full []), (.p (.int .i64 0))] [(0, 1, (.p (.str [114, 101, 116])))] fun v113 =>
  aBuildSlice 7 [v112, v113] fun v114 =>
  aAppend false 7 88 v110 v114 h111 fun v115 h116 =>
  aCall Try.prog (.p (.func val_Int_i [])) [j1] h116 fun v117 h118 =>
  aCall Try.prog (.p (.func vm_Run_i [])) [v115, v117] h118 fun v119 h120 =>
  aExtract v119 0 fun v121 =>
  aExtract v119 1 fun v122 =>
  aAlloc [(.p (.int .i64 0)), (.p (.int .i64 0)), (.p (.bool false)), (.p (.str [])), (.full [])] h120 fun v123 h124 =>
  aLoad true 8 j6 h124 fun v125 =>
  aCallT Try.prog (.p (.func val_Int_i [])) [j1] fun v126 =>
  aCallT Try.prog (.p (.func eval_Eval_i [])) [v125, v126] fun v127 =>
  aExtract v127 0 fun v128 =>
  aExtract v127 1 fun v129 =>
  aStore 5 v123 v128 h124 fun _ h131 =>
  aLoad true 8 j6 h131 fun v132 =>
  aCall Try.prog (.p (.func runnellaw4_Of_i [])) [v132] h131 fun v133 h134 =>
  aCall Try.prog (.p (.func runnelref6_V_i [])) [j1] h134 fun v135 h136 =>
  aCall Try.prog (.p (.func runnelref6_Eval_i [])) [v133, v135] h136 fun v137 h138 =>
  aExtract v137 0 fun v139 =>
  aExtract v137 1 fun v140 =>
  aAlloc [(.p (.int .i64 0)), (.p (.int .i64 0)), (.p (.bool false)), (.p (.str [])), (.full [])] h138 fun v141 h142 =>
  aStore 5 v141 v139 h142 fun _ h144 =>
  aBin false false .neq v122 v140 fun v145 =>
  aMerge false v145 (fun Q146 =>
  aBin false false .neq v129 v140 fun v147 =>
  (h144 = h144 ∧ Q146 v147)) fun v148 =>
  aGuard v148
  (kp .ret (.top :: j1 :: .top :: .top :: (.p (.bool false)) :: .top :: j6 :: .top :: .top :: v115 :: v121 :: v122 :: v123 :: v129 :: v141 :: v140 :: .top :: .top :: .top :: .top :: .top :: .top :: .top :: .top :: .top :: .top :: .top :: .top :: .top :: .top :: .top :: .top :: .top :: .top :: .top :: .top :: .top :: .top :: .top :: .top :: .top :: .top :: .top :: .top :: .top :: .top :: .top :: .top :: .top :: .top :: .top :: .top :: .top :: .top :: .top :: .top :: .top :: .top :: .top :: .top :: .top :: .top :: .top :: .top :: .top :: .top :: .top :: .top :: .top :: .top :: .top :: .top :: .top :: .top :: .top :: .top :: .top :: .top :: .top :: .top :: .top :: .top :: .top :: .top :: .top :: .top :: .top :: .top :: .top :: .top :: .top :: .top :: v105 :: v106 :: v108 :: v110 :: v112 :: v113 :: v114 :: v115 :: v119 :: v115 :: j1 :: v117 :: v119 :: v121 :: v122 :: v127 :: v125 :: j1 :: v126 :: v127 :: v128 :: v129 :: v137 :: v132 :: v133 :: j1 :: v135 :: v137 :: v139 :: v140 :: v122 :: v140 :: v145 :: v145 :: .top :: .top :: .top :: (.p (.bool true)) :: .top :: .top :: .top :: .top :: .top :: .top :: .top :: .top :: .top :: .top :: .top :: .top :: .top :: .top :: .top :: .top :: .top :: .top :: .top :: .top :: .top :: .top :: .top :: .top :: .top :: .top :: .top :: .top :: .top :: .top :: .top :: .top :: .top :: .top :: .top :: .top :: .top :: .top :: .top :: []) h144)
  (aBin false false .neq v140 (.p (.int .i64 0)) fun v149 =>
  aGuard v149
  (aLen true false v121 fun v150 =>
  aBin false false .eql v150 (.p (.int .i64 0)) fun v151 =>
  aGuard v151
  (kp .ret (.top :: j1 :: .top :: .top :: (.p (.bool true)) :: .top :: j6 :: .top :: .top :: v115 :: v121 :: v122 :: v123 :: v129 :: v141 :: v140 :: .top :: .top :: .top :: .top :: .top :: .top :: .top :: .top :: .top :: .top :: .top :: .top :: .top :: .top :: .top :: .top :: .top :: .top :: .top :: .top :: .top :: .top :: .top :: .top :: .top :: .top :: .top :: .top :: .top :: .top :: .top :: .top :: .top :: .top :: .top :: .top :: .top :: .top :: .top :: .top :: .top :: .top :: .top :: .top :: .top :: .top :: .top :: .top :: .top :: .top :: .top :: .top :: .top :: .top :: .top :: .top :: .top :: .top :: .top :: .top :: .top :: .top :: .top :: .top :: .top :: .top :: .top :: .top :: .top :: .top :: .top :: .top :: .top :: .top :: .top :: .top :: v105 :: v106 :: v108 :: v110 :: v112 :: v113 :: v114 :: v115 :: v119 :: v115 :: j1 :: v117 :: v119 :: v121 :: v122 :: v127 :: v125 :: j1 :: v126 :: v127 :: v128 :: v129 :: v137 :: v132 :: v133 :: j1 :: v135 :: v137 :: v139 :: v140 :: v122 :: v140 :: v145 :: v145 :: .top :: .top :: .top :: (.p (.bool false)) :: v140 :: v149 :: (.p (.bool true)) :: v121 :: v150 :: v151 :: v151 :: (.p (.bool true)) :: (.tup []) :: (.tup []) :: (.tup []) :: (.tup []) :: (.tup []) :: (.tup []) :: (.tup []) :: (.tup []) :: (.tup []) :: (.tup []) :: (.tup []) :: (.tup []) :: (.tup []) :: (.tup []) :: (.tup []) :: (.tup []) :: (.tup []) :: (.tup []) :: (.tup []) :: (.tup []) :: (.tup []) :: (.tup []) :: (.tup []) :: (.tup []) :: (.tup []) :: (.tup []) :: (.tup []) :: (.tup []) :: (.tup []) :: (.tup []) :: (.p (.bool true)) :: []) h144)
  (aBin false false .eql v140 (.p (.int .i64 0)) fun v152 =>
  aGuard v152
  (aLen true false v121 fun v153 =>
  aBin false false .eql v153 (.p (.int .i64 1)) fun v154 =>
  aGuard v154
  (aIndexAddr 5 v121 (.p (.int .i64 0)) fun v155 =>
  aFieldAddr 2 v155 fun v156 =>
  aLoad false 1 v156 h144 fun v157 =>
  aFieldAddr 2 v141 fun v158 =>
  aLoad false 1 v158 h144 fun v159 =>
  aBin true false .eql v157 v159 fun v160 =>
  aGuard v160
  (aFieldAddr 2 v123 fun v161 =>
  aLoad false 1 v161 h144 fun v162 =>
  aFieldAddr 2 v141 fun v163 =>
  aLoad false 1 v163 h144 fun v164 =>
  aBin true false .eql v162 v164 fun v165 =>
  aGuard v165
  (aIndexAddr 5 v121 (.p (.int .i64 0)) fun v166 =>
  aFieldAddr 0 v166 fun v167 =>
  aLoad false 1 v167 h144 fun v168 =>
  aBin false false .eql v168 (.p (.int .i64 2)) fun v169 =>
  kp .ret (.top :: j1 :: .top :: .top :: v169 :: .top :: j6 :: .top :: .top :: v115 :: v121 :: v122 :: v123 :: v129 :: v141 :: v140 :: .top :: .top :: .top :: .top :: .top :: .top :: .top :: .top :: .top :: .top :: .top :: .top :: .top :: .top :: .top :: .top :: .top :: .top :: .top :: .top :: .top :: .top :: .top :: .top :: .top :: .top :: .top :: .top :: .top :: .top :: .top :: .top :: .top :: .top :: .top :: .top :: .top :: .top :: .top :: .top :: .top :: .top :: .top :: .top :: .top :: .top :: .top :: .top :: .top :: .top :: .top :: .top :: .top :: .top :: .top :: .top :: .top :: .top :: .top :: .top :: .top :: .top :: .top :: .top :: .top :: .top :: .top :: .top :: .top :: .top :: .top :: .top :: .top :: .top :: .top :: .top :: v105 :: v106 :: v108 :: v110 :: v112 :: v113 :: v114 :: v115 :: v119 :: v115 :: j1 :: v117 :: v119 :: v121 :: v122 :: v127 :: v125 :: j1 :: v126 :: v127 :: v128 :: v129 :: v137 :: v132 :: v133 :: j1 :: v135 :: v137 :: v139 :: v140 :: v122 :: v140 :: v145 :: v145 :: .top :: .top :: .top :: (.p (.bool false)) :: v140 :: v149 :: (.p (.bool true)) :: v121 :: v150 :: v151 :: v151 :: (.p (.bool false)) :: v140 :: v152 :: (.p (.bool true)) :: v121 :: v153 :: v154 :: v154 :: (.p (.bool true)) :: v121 :: v155 :: v156 :: v157 :: v158 :: v159 :: v160 :: v160 :: (.p (.bool true)) :: v161 :: v162 :: v163 :: v164 :: v165 :: v165 :: (.p (.bool true)) :: v121 :: v166 :: v167 :: v168 :: v169 :: v169 :: v169 :: []) h144)
  (kp .ret (.top :: j1 :: .top :: .top :: (.p (.bool false)) :: .top :: j6 :: .top :: .top :: v115 :: v121 :: v122 :: v123 :: v129 :: v141 :: v140 :: .top :: .top :: .top :: .top :: .top :: .top :: .top :: .top :: .top :: .top :: .top :: .top :: .top :: .top :: .top :: .top :: .top :: .top :: .top :: .top :: .top :: .top :: .top :: .top :: .top :: .top :: .top :: .top :: .top :: .top :: .top :: .top :: .top :: .top :: .top :: .top :: .top :: .top :: .top :: .top :: .top :: .top :: .top :: .top :: .top :: .top :: .top :: .top :: .top :: .top :: .top :: .top :: .top :: .top :: .top :: .top :: .top :: .top :: .top :: .top :: .top :: .top :: .top :: .top :: .top :: .top :: .top :: .top :: .top :: .top :: .top :: .top :: .top :: .top :: .top :: .top :: v105 :: v106 :: v108 :: v110 :: v112 :: v113 :: v114 :: v115 :: v119 :: v115 :: j1 :: v117 :: v119 :: v121 :: v122 :: v127 :: v125 :: j1 :: v126 :: v127 :: v128 :: v129 :: v137 :: v132 :: v133 :: j1 :: v135 :: v137 :: v139 :: v140 :: v122 :: v140 :: v145 :: v145 :: .top :: .top :: .top :: (.p (.bool false)) :: v140 :: v149 :: (.p (.bool true)) :: v121 :: v150 :: v151 :: v151 :: (.p (.bool false)) :: v140 :: v152 :: (.p (.bool true)) :: v121 :: v153 :: v154 :: v154 :: (.p (.bool true)) :: v121 :: v155 :: v156 :: v157 :: v158 :: v159 :: v160 :: v160 :: (.p (.bool true)) :: v161 :: v162 :: v163 :: v164 :: v165 :: v165 :: (.p (.bool false)) :: (.tup []) :: (.tup []) :: (.tup []) :: (.tup []) :: (.tup []) :: (.p (.bool false)) :: (.p (.bool false)) :: []) h144))
  (kp .ret (.top :: j1 :: .top :: .top :: (.p (.bool false)) :: .top :: j6 :: .top :: .top :: v115 :: v121 :: v122 :: v123 :: v129 :: v141 :: v140 :: .top :: .top :: .top :: .top :: .top :: .top :: .top :: .top :: .top :: .top :: .top :: .top :: .top :: .top :: .top :: .top :: .top :: .top :: .top :: .top :: .top :: .top :: .top :: .top :: .top :: .top :: .top :: .top :: .top :: .top :: .top :: .top :: .top :: .top :: .top :: .top :: .top :: .top :: .top :: .top :: .top :: .top :: .top :: .top :: .top :: .top :: .top :: .top :: .top :: .top :: .top :: .top :: .top :: .top :: .top :: .top :: .top :: .top :: .top :: .top :: .top :: .top :: .top :: .top :: .top :: .top :: .top :: .top :: .top :: .top :: .top :: .top :: .top :: .top :: .top :: .top :: v105 :: v106 :: v108 :: v110 :: v112 :: v113 :: v114 :: v115 :: v119 :: v115 :: j1 :: v117 :: v119 :: v121 :: v122 :: v127 :: v125 :: j1 :: v126 :: v127 :: v128 :: v129 :: v137 :: v132 :: v133 :: j1 :: v135 :: v137 :: v139 :: v140 :: v122 :: v140 :: v145 :: v145 :: .top :: .top :: .top :: (.p (.bool false)) :: v140 :: v149 :: (.p (.bool true)) :: v121 :: v150 :: v151 :: v151 :: (.p (.bool false)) :: v140 :: v152 :: (.p (.bool true)) :: v121 :: v153 :: v154 :: v154 :: (.p (.bool true)) :: v121 :: v155 :: v156 :: v157 :: v158 :: v159 :: v160 :: v160 :: (.p (.bool false)) :: (.tup []) :: (.tup []) :: (.tup []) :: (.tup []) :: (.tup []) :: (.p (.bool false)) :: (.p (.bool false)) :: (.tup []) :: (.tup []) :: (.tup []) :: (.tup []) :: (.tup []) :: (.p (.bool false)) :: (.p (.bool false)) :: []) h144))
  (kp .ret (.top :: j1 :: .top :: .top :: (.p (.bool false)) :: .top :: j6 :: .top :: .top :: v115 :: v121 :: v122 :: v123 :: v129 :: v141 :: v140 :: .top :: .top :: .top :: .top :: .top :: .top :: .top :: .top :: .top :: .top :: .top :: .top :: .top :: .top :: .top :: .top :: .top :: .top :: .top :: .top :: .top :: .top :: .top :: .top :: .top :: .top :: .top :: .top :: .top :: .top :: .top :: .top :: .top :: .top :: .top :: .top :: .top :: .top :: .top :: .top :: .top :: .top :: .top :: .top :: .top :: .top :: .top :: .top :: .top :: .top :: .top :: .top :: .top :: .top :: .top :: .top :: .top :: .top :: .top :: .top :: .top :: .top :: .top :: .top :: .top :: .top :: .top :: .top :: .top :: .top :: .top :: .top :: .top :: .top :: .top :: .top :: v105 :: v106 :: v108 :: v110 :: v112 :: v113 :: v114 :: v115 :: v119 :: v115 :: j1 :: v117 :: v119 :: v121 :: v122 :: v127 :: v125 :: j1 :: v126 :: v127 :: v128 :: v129 :: v137 :: v132 :: v133 :: j1 :: v135 :: v137 :: v139 :: v140 :: v122 :: v140 :: v145 :: v145 :: .top :: .top :: .top :: (.p (.bool false)) :: v140 :: v149 :: (.p (.bool true)) :: v121 :: v150 :: v151 :: v151 :: (.p (.bool false)) :: v140 :: v152 :: (.p (.bool true)) :: v121 :: v153 :: v154 :: v154 :: (.p (.bool false)) :: (.tup []) :: (.tup []) :: (.tup []) :: (.tup []) :: (.tup []) :: (.tup []) :: (.tup []) :: (.p (.bool false)) :: (.p (.bool false)) :: (.tup []) :: (.tup []) :: (.tup []) :: (.tup []) :: (.tup []) :: (.p (.bool false)) :: (.p (.bool false)) :: (.tup []) :: (.tup []) :: (.tup []) :: (.tup []) :: (.tup []) :: (.p (.bool false)) :: (.p (.bool false)) :: []) h144))
  (kp .ret (.top :: j1 :: .top :: .top :: (.p (.bool false)) :: .top :: j6 :: .top :: .top :: v115 :: v121 :: v122 :: v123 :: v129 :: v141 :: v140 :: .top :: .top :: .top :: .top :: .top :: .top :: .top :: .top :: .top :: .top :: .top :: .top :: .top :: .top :: .top :: .top :: .top :: .top :: .top :: .top :: .top :: .top :: .top :: .top :: .top :: .top :: .top :: .top :: .top :: .top :: .top :: .top :: .top :: .top :: .top :: .top :: .top :: .top :: .top :: .top :: .top :: .top :: .top :: .top :: .top :: .top :: .top :: .top :: .top :: .top :: .top :: .top :: .top :: .top :: .top :: .top :: .top :: .top :: .top :: .top :: .top :: .top :: .top :: .top :: .top :: .top :: .top :: .top :: .top :: .top :: .top :: .top :: .top :: .top :: .top :: .top :: v105 :: v106 :: v108 :: v110 :: v112 :: v113 :: v114 :: v115 :: v119 :: v115 :: j1 :: v117 :: v119 :: v121 :: v122 :: v127 :: v125 :: j1 :: v126 :: v127 :: v128 :: v129 :: v137 :: v132 :: v133 :: j1 :: v135 :: v137 :: v139 :: v140 :: v122 :: v140 :: v145 :: v145 :: .top :: .top :: .top :: (.p (.bool false)) :: v140 :: v149 :: (.p (.bool true)) :: v121 :: v150 :: v151 :: v151 :: (.p (.bool false)) :: v140 :: v152 :: (.p (.bool false)) :: (.tup []) :: (.tup []) :: (.tup []) :: (.p (.bool false)) :: (.p (.bool false)) :: (.tup []) :: (.tup []) :: (.tup []) :: (.tup []) :: (.tup []) :: (.tup []) :: (.tup []) :: (.p (.bool false)) :: (.p (.bool false)) :: (.tup []) :: (.tup []) :: (.tup []) :: (.tup []) :: (.tup []) :: (.p (.bool false)) :: (.p (.bool false)) :: (.tup []) :: (.tup []) :: (.tup []) :: (.tup []) :: (.tup []) :: (.p (.bool false)) :: (.p (.bool false)) :: []) h144)))
  (aBin false false .eql v140 (.p (.int .i64 0)) fun v170 =>
  aGuard v170
  (aLen true false v121 fun v171 =>
  aBin false false .eql v171 (.p (.int .i64 1)) fun v172 =>
  aGuard v172
  (aIndexAddr 5 v121 (.p (.int .i64 0)) fun v173 =>
  aFieldAddr 2 v173 fun v174 =>
  aLoad false 1 v174 h144 fun v175 =>
  aFieldAddr 2 v141 fun v176 =>
  aLoad false 1 v176 h144 fun v177 =>
  aBin true false .eql v175 v177 fun v178 =>
  aGuard v178
  (aFieldAddr 2 v123 fun v179 =>
  aLoad false 1 v179 h144 fun v180 =>
  aFieldAddr 2 v141 fun v181 =>
  aLoad false 1 v181 h144 fun v182 =>
  aBin true false .eql v180 v182 fun v183 =>
  aGuard v183
  (aIndexAddr 5 v121 (.p (.int .i64 0)) fun v184 =>
  aFieldAddr 0 v184 fun v185 =>
  aLoad false 1 v185 h144 fun v186 =>
  aBin false false .eql v186 (.p (.int .i64 2)) fun v187 =>
  kp .ret (.top :: j1 :: .top :: .top :: v187 :: .top :: j6 :: .top :: .top :: v115 :: v121 :: v122 :: v123 :: v129 :: v141 :: v140 :: .top :: .top :: .top :: .top :: .top :: .top :: .top :: .top :: .top :: .top :: .top :: .top :: .top :: .top :: .top :: .top :: .top :: .top :: .top :: .top :: .top :: .top :: .top :: .top :: .top :: .top :: .top :: .top :: .top :: .top :: .top :: .top :: .top :: .top :: .top :: .top :: .top :: .top :: .top :: .top :: .top :: .top :: .top :: .top :: .top :: .top :: .top :: .top :: .top :: .top :: .top :: .top :: .top :: .top :: .top :: .top :: .top :: .top :: .top :: .top :: .top :: .top :: .top :: .top :: .top :: .top :: .top :: .top :: .top :: .top :: .top :: .top :: .top :: .top :: .top :: .top :: v105 :: v106 :: v108 :: v110 :: v112 :: v113 :: v114 :: v115 :: v119 :: v115 :: j1 :: v117 :: v119 :: v121 :: v122 :: v127 :: v125 :: j1 :: v126 :: v127 :: v128 :: v129 :: v137 :: v132 :: v133 :: j1 :: v135 :: v137 :: v139 :: v140 :: v122 :: v140 :: v145 :: v145 :: .top :: .top :: .top :: (.p (.bool false)) :: v140 :: v149 :: (.p (.bool false)) :: (.tup []) :: (.tup []) :: (.tup []) :: (.p (.bool false)) :: (.p (.bool false)) :: v140 :: v170 :: (.p (.bool true)) :: v121 :: v171 :: v172 :: v172 :: (.p (.bool true)) :: v121 :: v173 :: v174 :: v175 :: v176 :: v177 :: v178 :: v178 :: (.p (.bool true)) :: v179 :: v180 :: v181 :: v182 :: v183 :: v183 :: (.p (.bool true)) :: v121 :: v184 :: v185 :: v186 :: v187 :: v187 :: v187 :: []) h144)
  (kp .ret (.top :: j1 :: .top :: .top :: (.p (.bool false)) :: .top :: j6 :: .top :: .top :: v115 :: v121 :: v122 :: v123 :: v129 :: v141 :: v140 :: .top :: .top :: .top :: .top :: .top :: .top :: .top :: .top :: .top :: .top :: .top :: .top :: .top :: .top :: .top :: .top :: .top :: .top :: .top :: .top :: .top :: .top :: .top :: .top :: .top :: .top :: .top :: .top :: .top :: .top :: .top :: .top :: .top :: .top :: .top :: .top :: .top :: .top :: .top :: .top :: .top :: .top :: .top :: .top :: .top :: .top :: .top :: .top :: .top :: .top :: .top :: .top :: .top :: .top :: .top :: .top :: .top :: .top :: .top :: .top :: .top :: .top :: .top :: .top :: .top :: .top :: .top :: .top :: .top :: .top :: .top :: .top :: .top :: .top :: .top :: .top :: v105 :: v106 :: v108 :: v110 :: v112 :: v113 :: v114 :: v115 :: v119 :: v115 :: j1 :: v117 :: v119 :: v121 :: v122 :: v127 :: v125 :: j1 :: v126 :: v127 :: v128 :: v129 :: v137 :: v132 :: v133 :: j1 :: v135 :: v137 :: v139 :: v140 :: v122 :: v140 :: v145 :: v145 :: .top :: .top :: .top :: (.p (.bool false)) :: v140 :: v149 :: (.p (.bool false)) :: (.tup []) :: (.tup []) :: (.tup []) :: (.p (.bool false)) :: (.p (.bool false)) :: v140 :: v170 :: (.p (.bool true)) :: v121 :: v171 :: v172 :: v172 :: (.p (.bool true)) :: v121 :: v173 :: v174 :: v175 :: v176 :: v177 :: v178 :: v178 :: (.p (.bool true)) :: v179 :: v180 :: v181 :: v182 :: v183 :: v183 :: (.p (.bool false)) :: (.tup []) :: (.tup []) :: (.tup []) :: (.tup []) :: (.tup []) :: (.p (.bool false)) :: (.p (.bool false)) :: []) h144))
  (kp .ret (.top :: j1 :: .top :: .top :: (.p (.bool false)) :: .top :: j6 :: .top :: .top :: v115 :: v121 :: v122 :: v123 :: v129 :: v141 :: v140 :: .top :: .top :: .top :: .top :: .top :: .top :: .top :: .top :: .top :: .top :: .top :: .top :: .top :: .top :: .top :: .top :: .top :: .top :: .top :: .top :: .top :: .top :: .top :: .top :: .top :: .top :: .top :: .top :: .top :: .top :: .top :: .top :: .top :: .top :: .top :: .top :: .top :: .top :: .top :: .top :: .top :: .top :: .top :: .top :: .top :: .top :: .top :: .top :: .top :: .top :: .top :: .top :: .top :: .top :: .top :: .top :: .top :: .top :: .top :: .top :: .top :: .top :: .top :: .top :: .top :: .top :: .top :: .top :: .top :: .top :: .top :: .top :: .top :: .top :: .top :: .top :: v105 :: v106 :: v108 :: v110 :: v112 :: v113 :: v114 :: v115 :: v119 :: v115 :: j1 :: v117 :: v119 :: v121 :: v122 :: v127 :: v125 :: j1 :: v126 :: v127 :: v128 :: v129 :: v137 :: v132 :: v133 :: j1 :: v135 :: v137 :: v139 :: v140 :: v122 :: v140 :: v145 :: v145 :: .top :: .top :: .top :: (.p (.bool false)) :: v140 :: v149 :: (.p (.bool false)) :: (.tup []) :: (.tup []) :: (.tup []) :: (.p (.bool false)) :: (.p (.bool false)) :: v140 :: v170 :: (.p (.bool true)) :: v121 :: v171 :: v172 :: v172 :: (.p (.bool true)) :: v121 :: v173 :: v174 :: v175 :: v176 :: v177 :: v178 :: v178 :: (.p (.bool false)) :: (.tup []) :: (.tup []) :: (.tup []) :: (.tup []) :: (.tup []) :: (.p (.bool false)) :: (.p (.bool false)) :: (.tup []) :: (.tup []) :: (.tup []) :: (.tup []) :: (.tup []) :: (.p (.bool false)) :: (.p (.bool false)) :: []) h144))
  (kp .ret (.top :: j1 :: .top :: .top :: (.p (.bool false)) :: .top :: j6 :: .top :: .top :: v115 :: v121 :: v122 :: v123 :: v129 :: v141 :: v140 :: .top :: .top :: .top :: .top :: .top :: .top :: .top :: .top :: .top :: .top :: .top :: .top :: .top :: .top :: .top :: .top :: .top :: .top :: .top :: .top :: .top :: .top :: .top :: .top :: .top :: .top :: .top :: .top :: .top :: .top :: .top :: .top :: .top :: .top :: .top :: .top :: .top :: .top :: .top :: .top :: .top :: .top :: .top :: .top :: .top :: .top :: .top :: .top :: .top :: .top :: .top :: .top :: .top :: .top :: .top :: .top :: .top :: .top :: .top :: .top :: .top :: .top :: .top :: .top :: .top :: .top :: .top :: .top :: .top :: .top :: .top :: .top :: .top :: .top :: .top :: .top :: v105 :: v106 :: v108 :: v110 :: v112 :: v113 :: v114 :: v115 :: v119 :: v115 :: j1 :: v117 :: v119 :: v121 :: v122 :: v127 :: v125 :: j1 :: v126 :: v127 :: v128 :: v129 :: v137 :: v132 :: v133 :: j1 :: v135 :: v137 :: v139 :: v140 :: v122 :: v140 :: v145 :: v145 :: .top :: .top :: .top :: (.p (.bool false)) :: v140 :: v149 :: (.p (.bool false)) :: (.tup []) :: (.tup []) :: (.tup []) :: (.p (.bool false)) :: (.p (.bool false)) :: v140 :: v170 :: (.p (.bool true)) :: v121 :: v171 :: v172 :: v172 :: (.p (.bool false)) :: (.tup []) :: (.tup []) :: (.tup []) :: (.tup []) :: (.tup []) :: (.tup []) :: (.tup []) :: (.p (.bool false)) :: (.p (.bool false)) :: (.tup []) :: (.tup []) :: (.tup []) :: (.tup []) :: (.tup []) :: (.p (.bool false)) :: (.p (.bool false)) :: (.tup []) :: (.tup []) :: (.tup []) :: (.tup []) :: (.tup []) :: (.p (.bool false)) :: (.p (.bool false)) :: []) h144))
  (kp .ret (.top :: j1 :: .top :: .top :: (.p (.bool false)) :: .top :: j6 :: .top :: .top :: v115 :: v121 :: v122 :: v123 :: v129 :: v141 :: v140 :: .top :: .top :: .top :: .top :: .top :: .top :: .top :: .top :: .top :: .top :: .top :: .top :: .top :: .top :: .top :: .top :: .top :: .top :: .top :: .top :: .top :: .top :: .top :: .top :: .top :: .top :: .top :: .top :: .top :: .top :: .top :: .top :: .top :: .top :: .top :: .top :: .top :: .top :: .top :: .top :: .top :: .top :: .top :: .top :: .top :: .top :: .top :: .top :: .top :: .top :: .top :: .top :: .top :: .top :: .top :: .top :: .top :: .top :: .top :: .top :: .top :: .top :: .top :: .top :: .top :: .top :: .top :: .top :: .top :: .top :: .top :: .top :: .top :: .top :: .top :: .top :: v105 :: v106 :: v108 :: v110 :: v112 :: v113 :: v114 :: v115 :: v119 :: v115 :: j1 :: v117 :: v119 :: v121 :: v122 :: v127 :: v125 :: j1 :: v126 :: v127 :: v128 :: v129 :: v137 :: v132 :: v133 :: j1 :: v135 :: v137 :: v139 :: v140 :: v122 :: v140 :: v145 :: v145 :: .top :: .top :: .top :: (.p (.bool false)) :: v140 :: v149 :: (.p (.bool false)) :: (.tup []) :: (.tup []) :: (.tup []) :: (.p (.bool false)) :: (.p (.bool false)) :: v140 :: v170 :: (.p (.bool false)) :: (.tup []) :: (.tup []) :: (.tup []) :: (.p (.bool false)) :: (.p (.bool false)) :: (.tup []) :: (.tup []) :: (.tup []) :: (.tup []) :: (.tup []) :: (.tup []) :: (.tup []) :: (.p (.bool false)) :: (.p (.bool false)) :: (.tup []) :: (.tup []) :: (.tup []) :: (.tup []) :: (.tup []) :: (.p (.bool false)) :: (.p (.bool false)) :: (.tup []) :: (.tup []) :: (.tup []) :: (.tup []) :: (.tup []) :: (.p (.bool false)) :: (.p (.bool false)) :: []) h144)))

theorem runnellaw14_VmLazy_P24_x (j0 j1 j2 j3 j4 j5 j6 j7 j8 j9 j10 j11 j12 j13 j14 j15 j16 j17 j18 j19 j20 j21 j22 j23 j24 j25 j26 j27 j28 j29 j30 j31 j32 j33 j34 j35 j36 j37 j38 j39 j40 j41 j42 j43 j44 j45 j46 j47 j48 j49 j50 j51 j52 j53 j54 j55 j56 j57 j58 j59 j60 j61 j62 j63 j64 j65 j66 j67 j68 j69 j70 j71 j72 j73 j74 j75 j76 j77 j78 j79 j80 j81 j82 j83 j84 j85 j86 j87 j88 j89 j90 j91 j92 j93 j94 j95 j96 j97 j98 j99 j100 j101 j102 j103 j104 j105 j106 j107 j108 j109 j110 j111 j112 j113 j114 j115 j116 j117 j118 j119 j120 j121 j122 j123 j124 j125 j126 j127 j128 j129 j130 j131 j132 j133 j134 j135 j136 j137 j138 j139 j140 j141 j142 j143 j144 j145 j146 j147 j148 j149 j150 j151 j152 j153 j154 j155 j156 j157 j158 j159 j160 j161 j162 j163 j164 j165 j166 j167 j168 : AV) (H : List Ob) (self : Code → List AV → List Ob → Ko → Prop) (kp : Ko) : awpX Try.prog runnellaw14_VmLazy_ann self runnellaw14_VmLazy_cut runnellaw14_VmLazy_c24 (keepS [1, 6, 9999] 0 (j0 :: j1 :: j2 :: j3 :: j4 :: j5 :: j6 :: j7 :: j8 :: j9 :: j10 :: j11 :: j12 :: j13 :: j14 :: j15 :: j16 :: j17 :: j18 :: j19 :: j20 :: j21 :: j22 :: j23 :: j24 :: j25 :: j26 :: j27 :: j28 :: j29 :: j30 :: j31 :: j32 :: j33 :: j34 :: j35 :: j36 :: j37 :: j38 :: j39 :: j40 :: j41 :: j42 :: j43 :: j44 :: j45 :: j46 :: j47 :: j48 :: j49 :: j50 :: j51 :: j52 :: j53 :: j54 :: j55 :: j56 :: j57 :: j58 :: j59 :: j60 :: j61 :: j62 :: j63 :: j64 :: j65 :: j66 :: j67 :: j68 :: j69 :: j70 :: j71 :: j72 :: j73 :: j74 :: j75 :: j76 :: j77 :: j78 :: j79 :: j80 :: j81 :: j82 :: j83 :: j84 :: j85 :: j86 :: j87 :: j88 :: j89 :: j90 :: j91 :: j92 :: j93 :: j94 :: j95 :: j96 :: j97 :: j98 :: j99 :: j100 :: j101 :: j102 :: j103 :: j104 :: j105 :: j106 :: j107 :: j108 :: j109 :: j110 :: j111 :: j112 :: j113 :: j114 :: j115 :: j116 :: j117 :: j118 :: j119 :: j120 :: j121 :: j122 :: j123 :: j124 :: j125 :: j126 :: j127 :: j128 :: j129 :: j130 :: j131 :: j132 :: j133 :: j134 :: j135 :: j136 :: j137 :: j138 :: j139 :: j140 :: j141 :: j142 :: j143 :: j144 :: j145 :: j146 :: j147 :: j148 :: j149 :: j150 :: j151 :: j152 :: j153 :: j154 :: j155 :: j156 :: j157 :: j158 :: j159 :: j160 :: j161 :: j162 :: j163 :: j164 :: j165 :: j166 :: j167 :: j168 :: [])) H kp = runnellaw14_VmLazy_P24 j1 j6 H self kp := by kernel_rfl

theorem runnellaw14_VmLazy_c24_eq (j0 j1 j2 j3 j4 j5 j6 j7 j8 j9 j10 j11 j12 j13 j14 j15 j16 j17 j18 j19 j20 j21 j22 j23 j24 j25 j26 j27 j28 j29 j30 j31 j32 j33 j34 j35 j36 j37 j38 j39 j40 j41 j42 j43 j44 j45 j46 j47 j48 j49 j50 j51 j52 j53 j54 j55 j56 j57 j58 j59 j60 j61 j62 j63 j64 j65 j66 j67 j68 j69 j70 j71 j72 j73 j74 j75 j76 j77 j78 j79 j80 j81 j82 j83 j84 j85 j86 j87 j88 j89 j90 j91 j92 j93 j94 j95 j96 j97 j98 j99 j100 j101 j102 j103 j104 j105 j106 j107 j108 j109 j110 j111 j112 j113 j114 j115 j116 j117 j118 j119 j120 j121 j122 j123 j124 j125 j126 j127 j128 j129 j130 j131 j132 j133 j134 j135 j136 j137 j138 j139 j140 j141 j142 j143 j144 j145 j146 j147 j148 j149 j150 j151 j152 j153 j154 j155 j156 j157 j158 j159 j160 j161 j162 j163 j164 j165 j166 j167 j168 : AV) (H : List Ob) (kp : Ko) : awp Try.prog runnellaw14_VmLazy_ann runnellaw14_VmLazy_c24 (keepS [1, 6, 9999] 0 (j0 :: j1 :: j2 :: j3 :: j4 :: j5 :: j6 :: j7 :: j8 :: j9 :: j10 :: j11 :: j12 :: j13 :: j14 :: j15 :: j16 :: j17 :: j18 :: j19 :: j20 :: j21 :: j22 :: j23 :: j24 :: j25 :: j26 :: j27 :: j28 :: j29 :: j30 :: j31 :: j32 :: j33 :: j34 :: j35 :: j36 :: j37 :: j38 :: j39 :: j40 :: j41 :: j42 :: j43 :: j44 :: j45 :: j46 :: j47 :: j48 :: j49 :: j50 :: j51 :: j52 :: j53 :: j54 :: j55 :: j56 :: j57 :: j58 :: j59 :: j60 :: j61 :: j62 :: j63 :: j64 :: j65 :: j66 :: j67 :: j68 :: j69 :: j70 :: j71 :: j72 :: j73 :: j74 :: j75 :: j76 :: j77 :: j78 :: j79 :: j80 :: j81 :: j82 :: j83 :: j84 :: j85 :: j86 :: j87 :: j88 :: j89 :: j90 :: j91 :: j92 :: j93 :: j94 :: j95 :: j96 :: j97 :: j98 :: j99 :: j100 :: j101 :: j102 :: j103 :: j104 :: j105 :: j106 :: j107 :: j108 :: j109 :: j110 :: j111 :: j112 :: j113 :: j114 :: j115 :: j116 :: j117 :: j118 :: j119 :: j120 :: j121 :: j122 :: j123 :: j124 :: j125 :: j126 :: j127 :: j128 :: j129 :: j130 :: j131 :: j132 :: j133 :: j134 :: j135 :: j136 :: j137 :: j138 :: j139 :: j140 :: j141 :: j142 :: j143 :: j144 :: j145 :: j146 :: j147 :: j148 :: j149 :: j150 :: j151 :: j152 :: j153 :: j154 :: j155 :: j156 :: j157 :: j158 :: j159 :: j160 :: j161 :: j162 :: j163 :: j164 :: j165 :: j166 :: j167 :: j168 :: [])) H kp = runnellaw14_VmLazy_P24 j1 j6 H (awp Try.prog runnellaw14_VmLazy_ann) kp :=
  (awpX_eq Try.prog runnellaw14_VmLazy_ann runnellaw14_VmLazy_cut runnellaw14_VmLazy_c24 (keepS [1, 6, 9999] 0 (j0 :: j1 :: j2 :: j3 :: j4 :: j5 :: j6 :: j7 :: j8 :: j9 :: j10 :: j11 :: j12 :: j13 :: j14 :: j15 :: j16 :: j17 :: j18 :: j19 :: j20 :: j21 :: j22 :: j23 :: j24 :: j25 :: j26 :: j27 :: j28 :: j29 :: j30 :: j31 :: j32 :: j33 :: j34 :: j35 :: j36 :: j37 :: j38 :: j39 :: j40 :: j41 :: j42 :: j43 :: j44 :: j45 :: j46 :: j47 :: j48 :: j49 :: j50 :: j51 :: j52 :: j53 :: j54 :: j55 :: j56 :: j57 :: j58 :: j59 :: j60 :: j61 :: j62 :: j63 :: j64 :: j65 :: j66 :: j67 :: j68 :: j69 :: j70 :: j71 :: j72 :: j73 :: j74 :: j75 :: j76 :: j77 :: j78 :: j79 :: j80 :: j81 :: j82 :: j83 :: j84 :: j85 :: j86 :: j87 :: j88 :: j89 :: j90 :: j91 :: j92 :: j93 :: j94 :: j95 :: j96 :: j97 :: j98 :: j99 :: j100 :: j101 :: j102 :: j103 :: j104 :: j105 :: j106 :: j107 :: j108 :: j109 :: j110 :: j111 :: j112 :: j113 :: j114 :: j115 :: j116 :: j117 :: j118 :: j119 :: j120 :: j121 :: j122 :: j123 :: j124 :: j125 :: j126 :: j127 :: j128 :: j129 :: j130 :: j131 :: j132 :: j133 :: j134 :: j135 :: j136 :: j137 :: j138 :: j139 :: j140 :: j141 :: j142 :: j143 :: j144 :: j145 :: j146 :: j147 :: j148 :: j149 :: j150 :: j151 :: j152 :: j153 :: j154 :: j155 :: j156 :: j157 :: j158 :: j159 :: j160 :: j161 :: j162 :: j163 :: j164 :: j165 :: j166 :: j167 :: j168 :: [])) H kp).symm.trans (runnellaw14_VmLazy_P24_x j0 j1 j2 j3 j4 j5 j6 j7 j8 j9 j10 j11 j12 j13 j14 j15 j16 j17 j18 j19 j20 j21 j22 j23 j24 j25 j26 j27 j28 j29 j30 j31 j32 j33 j34 j35 j36 j37 j38 j39 j40 j41 j42 j43 j44 j45 j46 j47 j48 j49 j50 j51 j52 j53 j54 j55 j56 j57 j58 j59 j60 j61 j62 j63 j64 j65 j66 j67 j68 j69 j70 j71 j72 j73 j74 j75 j76 j77 j78 j79 j80 j81 j82 j83 j84 j85 j86 j87 j88 j89 j90 j91 j92 j93 j94 j95 j96 j97 j98 j99 j100 j101 j102 j103 j104 j105 j106 j107 j108 j109 j110 j111 j112 j113 j114 j115 j116 j117 j118 j119 j120 j121 j122 j123 j124 j125 j126 j127 j128 j129 j130 j131 j132 j133 j134 j135 j136 j137 j138 j139 j140 j141 j142 j143 j144 j145 j146 j147 j148 j149 j150 j151 j152 j153 j154 j155 j156 j157 j158 j159 j160 j161 j162 j163 j164 j165 j166 j167 j168 H (awp Try.prog runnellaw14_VmLazy_ann) kp)


end Go.Proofs.Ytjendohiohhciaa
end
