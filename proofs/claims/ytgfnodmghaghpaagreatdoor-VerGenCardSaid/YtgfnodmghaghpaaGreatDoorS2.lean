/- Made by program (Gen.lean): functions of the dump, over trees. -/
import Derived.Test.YtgfnodmghaghpaaGreatDoorS1

section
/- Made by program (Gen.lean): functions of the dump, over trees. -/
set_option maxRecDepth 4000
set_option linter.unusedVariables false
namespace Go.Proofs.YtgfnodmghaghpaaGreatDoor
open Go Go.Abs

/- runnel/ver.Check -/
def ver_Check_L1 (q1s4 q1s9 q1s41 y0 : AV) (H : List Ob) (B1 : List AV → List Ob → Prop) (K : AV → List Ob → Prop) : Prop :=
  aBin false false .lss y0 q1s41 fun v38 =>
  aGuard v38
  (aNilCheck q1s9 fun v39 =>
  aFieldAddr 3 v39 fun v40 =>
  aLoad false 1 v40 H fun v41 =>
  aIndexAddr 1 v41 y0 fun v42 =>
  aLoad false 1 v42 H fun v43 =>
  aBin false true .eql v43 (.p (.raw (.pointer none))) fun v44 =>
  aGuard v44
  (aBin false false .add y0 (.p (.int .i64 1)) fun v45 =>
  B1 [v45] H)
  (aCall Tryz.prog (.p (.func ver_checker_place_i [])) [q1s9, y0] H fun v46 h47 =>
  aBin false false .neq v46 (.p (.int .i64 0)) fun v48 =>
  aGuard v48
  (aBuild [(.p (.int .i64 0)), (.full [])] [] fun v49 =>
  aStore 2 q1s4 v49 h47 fun _ h51 =>
  aLoad true 2 q1s4 h51 fun v52 =>
  K (.tup [v52, y0, v46]) h51)
  (aBin false false .add y0 (.p (.int .i64 1)) fun v53 =>
  B1 [v53] h47)))
  (aNilCheck q1s9 fun v54 =>
  aFieldAddr 4 v54 fun v55 =>
  aLoad false 1 v55 H fun v56 =>
  aBin false true .eql v56 (.p (.raw (.pointer none))) fun v57 =>
  aGuard v57
  (aBuild [(.p (.int .i64 0)), (.full [])] [] fun v58 =>
  aStore 2 q1s4 v58 H fun _ h60 =>
  aLoad true 2 q1s4 h60 fun v61 =>
  K (.tup [v61, (.p (.int .i64 0)), (.p (.int .i64 0))]) h60)
  (aNilCheck q1s9 fun v62 =>
  aFieldAddr 4 v62 fun v63 =>
  aLoad false 1 v63 H fun v64 =>
  aNilCheck v64 fun v65 =>
  aLoad true 2 v65 H fun v66 =>
  aStore 2 q1s4 v66 H fun _ h68 =>
  aLoad true 2 q1s4 h68 fun v69 =>
  K (.tup [v69, (.p (.int .i64 0)), (.p (.int .i64 0))]) h68))

def ver_Check (x0 x1 : AV) (H : List Ob) (K : AV → List Ob → Prop) : Prop :=
  aBox x1 H fun v0 h1 =>
  aAlloc [(.p (.int .i64 0)), (.full [])] h1 fun v2 h3 =>
  aCall Tryz.prog (.p (.func code_Check_i [])) [x0] h3 fun v4 h5 =>
  aExtract v4 0 fun v6 =>
  aExtract v4 1 fun v7 =>
  aBin false false .neq v7 (.p (.int .i64 0)) fun v8 =>
  aGuard v8
  (aBuild [(.p (.int .i64 0)), (.full [])] [] fun v9 =>
  aStore 2 v2 v9 h5 fun _ h11 =>
  aLoad true 2 v2 h11 fun v12 =>
  K (.tup [v12, v6, v7]) h11)
  (aLoad true 2 v0 h5 fun v13 =>
  aCall Tryz.prog (.p (.func typ_Check_i [])) [v13] h5 fun v14 h15 =>
  aBin false false .neq v14 (.p (.int .i64 0)) fun v16 =>
  aGuard v16
  (aBuild [(.p (.int .i64 0)), (.full [])] [] fun v17 =>
  aStore 2 v2 v17 h15 fun _ h19 =>
  aLoad true 2 v2 h19 fun v20 =>
  K (.tup [v20, (.p (.int .i64 0)), (.p (.int .i64 5))]) h19)
  (aLoad true 2 v0 h15 fun v21 =>
  aLen true false x0 fun v22 =>
  aMake 1 [(.p (.raw (.pointer none)))] v22 v22 h15 fun v23 h24 =>
  aBuild [(.full []), (.p (.int .i64 0)), (.full []), (.full []), (.p (.raw (.pointer none)))] [(0, 1, x0), (1, 2, v21), (3, 1, v23)] fun v25 =>
  aBox v25 h24 fun v26 h27 =>
  aNilCheck v26 fun v28 =>
  aFieldAddr 3 v28 fun v29 =>
  aLoad false 1 v29 h27 fun v30 =>
  aBuild [(.full [])] [] fun v31 =>
  aBox v31 h27 fun v32 h33 =>
  aIndexAddr 1 v30 (.p (.int .i64 0)) fun v34 =>
  aStore 1 v34 v32 h33 fun _ h36 =>
  aLen false false x0 fun v37 =>
  aLoopN 1 [(.p (.int .i64 0))] h36 fun xs H B1 => ver_Check_L1 v2 v26 v37 (xs.getD 0 .top) H B1 K))

def ver_Check_ann : Nat → List Nat := fun k => match k with | 9 => [42] | _ => []

theorem ver_Check_eq (x0 x1 : AV) (H : List Ob) (r : AV) (Ho : List Ob) : aBody Tryz.prog ver_Check_ann Tryz.f12 H [x0, x1] r Ho = ver_Check x0 x1 H (fun v H' => Gives H.length v H' r Ho) := by kernel_rfl

theorem ver_Check_fnH {x0 x1 : AV} {Hin : List Ob} {r : AV} {Ho : List Ob} (h : ver_Check x0 x1 Hin (fun v H' => Gives Hin.length v H' r Ho)) : Abs.Fn Tryz.prog ver_Check_i Hin [x0, x1] r Ho :=
  fn_intro mixed ver_Check_ann (fn := Tryz.f12) (by kernel_rfl) (by kernel_rfl) (by rw [ver_Check_eq]; exact h)

/- (*runnel/ver.checker).place (in pieces) -/
def ver_checker_place_ann : Nat → List Nat := fun k => match k with | 9 => [50] | 1000999999 => [1] | 2000002 => [0, 1, 5, 6, 9999] | 2000003 => [0, 1, 5, 6, 7, 8, 9999] | 2000005 => [0, 1, 5, 6, 7, 9999] | 2000006 => [0, 1, 5, 6, 9, 10, 9999] | 2000007 => [0, 1, 5, 6, 9, 10, 46, 9999] | 2000008 => [0, 1, 5, 6, 9, 9999] | 2000009 => [0, 1, 5, 6, 48, 49, 50, 9999] | 2000011 => [0, 1, 5, 6, 12, 48, 49, 50, 9999] | 2000012 => [0, 1, 5, 6, 48, 49, 50, 9999] | 2000013 => [0, 1, 5, 6, 9999] | 2000014 => [0, 1, 5, 6, 58, 9999] | 2000015 => [0, 1, 5, 6, 58, 9999] | 2000016 => [0, 1, 5, 6, 58, 9999] | 2000018 => [0, 1, 5, 6, 88, 9999] | 2000020 => [0, 1, 5, 6, 92, 9999] | 2000021 => [0, 1, 5, 6, 9999] | 2000022 => [0, 1, 5, 6, 103, 9999] | 2000023 => [0, 1, 6, 13, 9999] | 2000024 => [0, 1, 6, 13, 110, 9999] | 2000025 => [0, 1, 6, 9999] | 3000001 => [1000] | _ => []
def ver_checker_place_cut : Nat → Bool := fun k => match k with | 2 => true | 3 => true | 5 => true | 6 => true | 7 => true | 8 => true | 9 => true | 11 => true | 12 => true | 13 => true | 14 => true | 15 => true | 16 => true | 18 => true | 20 => true | 21 => true | 22 => true | 23 => true | 24 => true | 25 => true | _ => false
noncomputable def ver_checker_place_c : Code := Tryz.f38.body.getD .skip
noncomputable def ver_checker_place_c2 : Code := (cr (cr ver_checker_place_c))
noncomputable def ver_checker_place_c3 : Code := (cr (cr (cr ver_checker_place_c)))
noncomputable def ver_checker_place_c5 : Code := (cr (cr (cr (cr ver_checker_place_c))))
noncomputable def ver_checker_place_c6 : Code := (cr (cr (cr (cr (cr ver_checker_place_c)))))
noncomputable def ver_checker_place_c7 : Code := (cr (cl (cr (cr (cr (cr (cr ver_checker_place_c)))))))
noncomputable def ver_checker_place_c8 : Code := (cr (cr (cr (cr (cr (cr ver_checker_place_c))))))
noncomputable def ver_checker_place_c9 : Code := (cr (cl (cr (cr (cr (cr (cr (cr ver_checker_place_c))))))))
noncomputable def ver_checker_place_c11 : Code := (cr (cl (cl (cr (cr (cl (cl (cr (cl (cr (cr (cr (cr (cr (cr ver_checker_place_c)))))))))))))))
noncomputable def ver_checker_place_c12 : Code := (cr (cr (cr (cl (cl (cr (cl (cr (cr (cr (cr (cr (cr ver_checker_place_c)))))))))))))
noncomputable def ver_checker_place_c13 : Code := (cr (cr (cr (cr (cr (cr (cr ver_checker_place_c)))))))
noncomputable def ver_checker_place_c14 : Code := (cr (cl (cl (cl (cr (cr (cr (cr (cr (cr (cr ver_checker_place_c)))))))))))
noncomputable def ver_checker_place_c15 : Code := (cr (cr (cr (cl (cl (cl (cr (cr (cr (cr (cr (cr (cr ver_checker_place_c)))))))))))))
noncomputable def ver_checker_place_c16 : Code := (cr (cl (cl (cr (cr (cr (cr (cr (cr (cr ver_checker_place_c))))))))))
noncomputable def ver_checker_place_c18 : Code := (cr (cr (cr (cl (cl (cr (cr (cr (cr (cr (cr (cr ver_checker_place_c))))))))))))
noncomputable def ver_checker_place_c20 : Code := (cr (cr (cr (cr (cr (cl (cl (cr (cr (cr (cr (cr (cr (cr ver_checker_place_c))))))))))))))
noncomputable def ver_checker_place_c21 : Code := (cr (cr (cr (cr (cr (cr (cr (cr ver_checker_place_c))))))))
noncomputable def ver_checker_place_c22 : Code := (cr (cl (cr (cr (cr (cr (cr (cr (cr (cr ver_checker_place_c))))))))))
noncomputable def ver_checker_place_c23 : Code := (cr (cl (cr (cl (cr (cr (cr (cr (cr (cr (cr (cr ver_checker_place_c))))))))))))
noncomputable def ver_checker_place_c24 : Code := (cr (cr (cl (cr (cl (cr (cr (cr (cr (cr (cr (cr (cr ver_checker_place_c)))))))))))))
noncomputable def ver_checker_place_c25 : Code := (cr (cr (cr (cr (cr (cr (cr (cr (cr ver_checker_place_c)))))))))

def ver_checker_place_P0 (j0 j1 : AV) (H : List Ob) (self : Code → List AV → List Ob → Ko → Prop) (kp : Ko) : Prop :=
  aNilCheck j0 fun v0 =>
  aFieldAddr 0 v0 fun v1 =>
  aNilCheck j0 fun v2 =>
  aFieldAddr 3 v2 fun v3 =>
  (aLoad false 1 v1 H fun v4 =>
  aIndexAddr 7 v4 j1 fun v5 =>
  (aLoad true 7 v5 H fun v6 =>
  (aLoad false 1 v3 H fun v7 =>
  aIndexAddr 1 v7 j1 fun v8 =>
  (aLoad false 1 v8 H fun v9 =>
  (aCall Tryz.prog (.p (.func ver_Stack_typ_Type_Twin_i [])) [v9] H fun v10 h11 =>
  aAlloc [(.p (.str [])), (.p (.int .i64 0)), (.p (.int .i64 0)), (.p (.bool false)), (.p (.str [])), (.full []), (.p (.int .i64 0))] h11 fun v12 h13 =>
  aStore 7 v12 v6 h13 fun _ h15 =>
  self ver_checker_place_c2 (keepS [0, 1, 5, 6, 9999] 0 (j0 :: j1 :: .top :: .top :: (.p (.int .i64 0)) :: v12 :: v10 :: .top :: .top :: .top :: .top :: .top :: .top :: .top :: j0 :: v0 :: v1 :: v4 :: j1 :: v5 :: v6 :: j0 :: v2 :: v3 :: v7 :: j1 :: v8 :: v9 :: v10 :: .top :: .top :: .top :: .top :: .top :: .top :: .top :: .top :: .top :: .top :: .top :: .top :: .top :: .top :: .top :: .top :: .top :: .top :: .top :: .top :: .top :: .top :: .top :: .top :: .top :: .top :: .top :: .top :: .top :: .top :: .top :: .top :: .top :: .top :: .top :: .top :: .top :: .top :: .top :: .top :: .top :: .top :: .top :: .top :: .top :: .top :: .top :: .top :: .top :: .top :: .top :: .top :: .top :: .top :: .top :: .top :: .top :: .top :: .top :: .top :: .top :: .top :: .top :: .top :: .top :: .top :: .top :: .top :: .top :: .top :: .top :: .top :: .top :: .top :: .top :: .top :: .top :: .top :: .top :: .top :: .top :: .top :: .top :: .top :: .top :: .top :: .top :: .top :: [])) h15 kp) ∧
  (aAlloc [(.p (.str [])), (.p (.int .i64 0)), (.p (.int .i64 0)), (.p (.bool false)), (.p (.str [])), (.full []), (.p (.int .i64 0))] H fun v16 h17 =>
  aCall Tryz.prog (.p (.func ver_Stack_typ_Type_Twin_i [])) [v9] h17 fun v18 h19 =>
  aStore 7 v16 v6 h19 fun _ h21 =>
  self ver_checker_place_c2 (keepS [0, 1, 5, 6, 9999] 0 (j0 :: j1 :: .top :: .top :: (.p (.int .i64 0)) :: v16 :: v18 :: .top :: .top :: .top :: .top :: .top :: .top :: .top :: j0 :: v0 :: v1 :: v4 :: j1 :: v5 :: v6 :: j0 :: v2 :: v3 :: v7 :: j1 :: v8 :: v9 :: v18 :: .top :: .top :: .top :: .top :: .top :: .top :: .top :: .top :: .top :: .top :: .top :: .top :: .top :: .top :: .top :: .top :: .top :: .top :: .top :: .top :: .top :: .top :: .top :: .top :: .top :: .top :: .top :: .top :: .top :: .top :: .top :: .top :: .top :: .top :: .top :: .top :: .top :: .top :: .top :: .top :: .top :: .top :: .top :: .top :: .top :: .top :: .top :: .top :: .top :: .top :: .top :: .top :: .top :: .top :: .top :: .top :: .top :: .top :: .top :: .top :: .top :: .top :: .top :: .top :: .top :: .top :: .top :: .top :: .top :: .top :: .top :: .top :: .top :: .top :: .top :: .top :: .top :: .top :: .top :: .top :: .top :: .top :: .top :: .top :: .top :: .top :: .top :: .top :: [])) h21 kp)) ∧
  (aAlloc [(.p (.str [])), (.p (.int .i64 0)), (.p (.int .i64 0)), (.p (.bool false)), (.p (.str [])), (.full []), (.p (.int .i64 0))] H fun v22 h23 =>
  aLoad false 1 v8 h23 fun v24 =>
  aCall Tryz.prog (.p (.func ver_Stack_typ_Type_Twin_i [])) [v24] h23 fun v25 h26 =>
  aStore 7 v22 v6 h26 fun _ h28 =>
  self ver_checker_place_c2 (keepS [0, 1, 5, 6, 9999] 0 (j0 :: j1 :: .top :: .top :: (.p (.int .i64 0)) :: v22 :: v25 :: .top :: .top :: .top :: .top :: .top :: .top :: .top :: j0 :: v0 :: v1 :: v4 :: j1 :: v5 :: v6 :: j0 :: v2 :: v3 :: v7 :: j1 :: v8 :: v24 :: v25 :: .top :: .top :: .top :: .top :: .top :: .top :: .top :: .top :: .top :: .top :: .top :: .top :: .top :: .top :: .top :: .top :: .top :: .top :: .top :: .top :: .top :: .top :: .top :: .top :: .top :: .top :: .top :: .top :: .top :: .top :: .top :: .top :: .top :: .top :: .top :: .top :: .top :: .top :: .top :: .top :: .top :: .top :: .top :: .top :: .top :: .top :: .top :: .top :: .top :: .top :: .top :: .top :: .top :: .top :: .top :: .top :: .top :: .top :: .top :: .top :: .top :: .top :: .top :: .top :: .top :: .top :: .top :: .top :: .top :: .top :: .top :: .top :: .top :: .top :: .top :: .top :: .top :: .top :: .top :: .top :: .top :: .top :: .top :: .top :: .top :: .top :: .top :: .top :: [])) h28 kp)) ∧
  (aAlloc [(.p (.str [])), (.p (.int .i64 0)), (.p (.int .i64 0)), (.p (.bool false)), (.p (.str [])), (.full []), (.p (.int .i64 0))] H fun v29 h30 =>
  aLoad false 1 v3 h30 fun v31 =>
  aIndexAddr 1 v31 j1 fun v32 =>
  aLoad false 1 v32 h30 fun v33 =>
  aCall Tryz.prog (.p (.func ver_Stack_typ_Type_Twin_i [])) [v33] h30 fun v34 h35 =>
  aStore 7 v29 v6 h35 fun _ h37 =>
  self ver_checker_place_c2 (keepS [0, 1, 5, 6, 9999] 0 (j0 :: j1 :: .top :: .top :: (.p (.int .i64 0)) :: v29 :: v34 :: .top :: .top :: .top :: .top :: .top :: .top :: .top :: j0 :: v0 :: v1 :: v4 :: j1 :: v5 :: v6 :: j0 :: v2 :: v3 :: v31 :: j1 :: v32 :: v33 :: v34 :: .top :: .top :: .top :: .top :: .top :: .top :: .top :: .top :: .top :: .top :: .top :: .top :: .top :: .top :: .top :: .top :: .top :: .top :: .top :: .top :: .top :: .top :: .top :: .top :: .top :: .top :: .top :: .top :: .top :: .top :: .top :: .top :: .top :: .top :: .top :: .top :: .top :: .top :: .top :: .top :: .top :: .top :: .top :: .top :: .top :: .top :: .top :: .top :: .top :: .top :: .top :: .top :: .top :: .top :: .top :: .top :: .top :: .top :: .top :: .top :: .top :: .top :: .top :: .top :: .top :: .top :: .top :: .top :: .top :: .top :: .top :: .top :: .top :: .top :: .top :: .top :: .top :: .top :: .top :: .top :: .top :: .top :: .top :: .top :: .top :: .top :: .top :: .top :: [])) h37 kp)) ∧
  (aLoad false 1 v3 H fun v38 =>
  aIndexAddr 1 v38 j1 fun v39 =>
  (aLoad true 7 v5 H fun v40 =>
  (aLoad false 1 v39 H fun v41 =>
  (aCall Tryz.prog (.p (.func ver_Stack_typ_Type_Twin_i [])) [v41] H fun v42 h43 =>
  aAlloc [(.p (.str [])), (.p (.int .i64 0)), (.p (.int .i64 0)), (.p (.bool false)), (.p (.str [])), (.full []), (.p (.int .i64 0))] h43 fun v44 h45 =>
  aStore 7 v44 v40 h45 fun _ h47 =>
  self ver_checker_place_c2 (keepS [0, 1, 5, 6, 9999] 0 (j0 :: j1 :: .top :: .top :: (.p (.int .i64 0)) :: v44 :: v42 :: .top :: .top :: .top :: .top :: .top :: .top :: .top :: j0 :: v0 :: v1 :: v4 :: j1 :: v5 :: v40 :: j0 :: v2 :: v3 :: v38 :: j1 :: v39 :: v41 :: v42 :: .top :: .top :: .top :: .top :: .top :: .top :: .top :: .top :: .top :: .top :: .top :: .top :: .top :: .top :: .top :: .top :: .top :: .top :: .top :: .top :: .top :: .top :: .top :: .top :: .top :: .top :: .top :: .top :: .top :: .top :: .top :: .top :: .top :: .top :: .top :: .top :: .top :: .top :: .top :: .top :: .top :: .top :: .top :: .top :: .top :: .top :: .top :: .top :: .top :: .top :: .top :: .top :: .top :: .top :: .top :: .top :: .top :: .top :: .top :: .top :: .top :: .top :: .top :: .top :: .top :: .top :: .top :: .top :: .top :: .top :: .top :: .top :: .top :: .top :: .top :: .top :: .top :: .top :: .top :: .top :: .top :: .top :: .top :: .top :: .top :: .top :: .top :: .top :: [])) h47 kp) ∧
  (aAlloc [(.p (.str [])), (.p (.int .i64 0)), (.p (.int .i64 0)), (.p (.bool false)), (.p (.str [])), (.full []), (.p (.int .i64 0))] H fun v48 h49 =>
  aCall Tryz.prog (.p (.func ver_Stack_typ_Type_Twin_i [])) [v41] h49 fun v50 h51 =>
  aStore 7 v48 v40 h51 fun _ h53 =>
  self ver_checker_place_c2 (keepS [0, 1, 5, 6, 9999] 0 (j0 :: j1 :: .top :: .top :: (.p (.int .i64 0)) :: v48 :: v50 :: .top :: .top :: .top :: .top :: .top :: .top :: .top :: j0 :: v0 :: v1 :: v4 :: j1 :: v5 :: v40 :: j0 :: v2 :: v3 :: v38 :: j1 :: v39 :: v41 :: v50 :: .top :: .top :: .top :: .top :: .top :: .top :: .top :: .top :: .top :: .top :: .top :: .top :: .top :: .top :: .top :: .top :: .top :: .top :: .top :: .top :: .top :: .top :: .top :: .top :: .top :: .top :: .top :: .top :: .top :: .top :: .top :: .top :: .top :: .top :: .top :: .top :: .top :: .top :: .top :: .top :: .top :: .top :: .top :: .top :: .top :: .top :: .top :: .top :: .top :: .top :: .top :: .top :: .top :: .top :: .top :: .top :: .top :: .top :: .top :: .top :: .top :: .top :: .top :: .top :: .top :: .top :: .top :: .top :: .top :: .top :: .top :: .top :: .top :: .top :: .top :: .top :: .top :: .top :: .top :: .top :: .top :: .top :: .top :: .top :: .top :: .top :: .top :: .top :: [])) h53 kp)) ∧
  (aAlloc [(.p (.str [])), (.p (.int .i64 0)), (.p (.int .i64 0)), (.p (.bool false)), (.p (.str [])), (.full []), (.p (.int .i64 0))] H fun v54 h55 =>
  aLoad false 1 v39 h55 fun v56 =>
  aCall Tryz.prog (.p (.func ver_Stack_typ_Type_Twin_i [])) [v56] h55 fun v57 h58 =>
  aStore 7 v54 v40 h58 fun _ h60 =>
  self ver_checker_place_c2 (keepS [0, 1, 5, 6, 9999] 0 (j0 :: j1 :: .top :: .top :: (.p (.int .i64 0)) :: v54 :: v57 :: .top :: .top :: .top :: .top :: .top :: .top :: .top :: j0 :: v0 :: v1 :: v4 :: j1 :: v5 :: v40 :: j0 :: v2 :: v3 :: v38 :: j1 :: v39 :: v56 :: v57 :: .top :: .top :: .top :: .top :: .top :: .top :: .top :: .top :: .top :: .top :: .top :: .top :: .top :: .top :: .top :: .top :: .top :: .top :: .top :: .top :: .top :: .top :: .top :: .top :: .top :: .top :: .top :: .top :: .top :: .top :: .top :: .top :: .top :: .top :: .top :: .top :: .top :: .top :: .top :: .top :: .top :: .top :: .top :: .top :: .top :: .top :: .top :: .top :: .top :: .top :: .top :: .top :: .top :: .top :: .top :: .top :: .top :: .top :: .top :: .top :: .top :: .top :: .top :: .top :: .top :: .top :: .top :: .top :: .top :: .top :: .top :: .top :: .top :: .top :: .top :: .top :: .top :: .top :: .top :: .top :: .top :: .top :: .top :: .top :: .top :: .top :: .top :: .top :: [])) h60 kp)) ∧
  (aLoad false 1 v39 H fun v61 =>
  (aLoad true 7 v5 H fun v62 =>
  (aCall Tryz.prog (.p (.func ver_Stack_typ_Type_Twin_i [])) [v61] H fun v63 h64 =>
  aAlloc [(.p (.str [])), (.p (.int .i64 0)), (.p (.int .i64 0)), (.p (.bool false)), (.p (.str [])), (.full []), (.p (.int .i64 0))] h64 fun v65 h66 =>
  aStore 7 v65 v62 h66 fun _ h68 =>
  self ver_checker_place_c2 (keepS [0, 1, 5, 6, 9999] 0 (j0 :: j1 :: .top :: .top :: (.p (.int .i64 0)) :: v65 :: v63 :: .top :: .top :: .top :: .top :: .top :: .top :: .top :: j0 :: v0 :: v1 :: v4 :: j1 :: v5 :: v62 :: j0 :: v2 :: v3 :: v38 :: j1 :: v39 :: v61 :: v63 :: .top :: .top :: .top :: .top :: .top :: .top :: .top :: .top :: .top :: .top :: .top :: .top :: .top :: .top :: .top :: .top :: .top :: .top :: .top :: .top :: .top :: .top :: .top :: .top :: .top :: .top :: .top :: .top :: .top :: .top :: .top :: .top :: .top :: .top :: .top :: .top :: .top :: .top :: .top :: .top :: .top :: .top :: .top :: .top :: .top :: .top :: .top :: .top :: .top :: .top :: .top :: .top :: .top :: .top :: .top :: .top :: .top :: .top :: .top :: .top :: .top :: .top :: .top :: .top :: .top :: .top :: .top :: .top :: .top :: .top :: .top :: .top :: .top :: .top :: .top :: .top :: .top :: .top :: .top :: .top :: .top :: .top :: .top :: .top :: .top :: .top :: .top :: .top :: [])) h68 kp) ∧
  (aAlloc [(.p (.str [])), (.p (.int .i64 0)), (.p (.int .i64 0)), (.p (.bool false)), (.p (.str [])), (.full []), (.p (.int .i64 0))] H fun v69 h70 =>
  aCall Tryz.prog (.p (.func ver_Stack_typ_Type_Twin_i [])) [v61] h70 fun v71 h72 =>
  aStore 7 v69 v62 h72 fun _ h74 =>
  self ver_checker_place_c2 (keepS [0, 1, 5, 6, 9999] 0 (j0 :: j1 :: .top :: .top :: (.p (.int .i64 0)) :: v69 :: v71 :: .top :: .top :: .top :: .top :: .top :: .top :: .top :: j0 :: v0 :: v1 :: v4 :: j1 :: v5 :: v62 :: j0 :: v2 :: v3 :: v38 :: j1 :: v39 :: v61 :: v71 :: .top :: .top :: .top :: .top :: .top :: .top :: .top :: .top :: .top :: .top :: .top :: .top :: .top :: .top :: .top :: .top :: .top :: .top :: .top :: .top :: .top :: .top :: .top :: .top :: .top :: .top :: .top :: .top :: .top :: .top :: .top :: .top :: .top :: .top :: .top :: .top :: .top :: .top :: .top :: .top :: .top :: .top :: .top :: .top :: .top :: .top :: .top :: .top :: .top :: .top :: .top :: .top :: .top :: .top :: .top :: .top :: .top :: .top :: .top :: .top :: .top :: .top :: .top :: .top :: .top :: .top :: .top :: .top :: .top :: .top :: .top :: .top :: .top :: .top :: .top :: .top :: .top :: .top :: .top :: .top :: .top :: .top :: .top :: .top :: .top :: .top :: .top :: .top :: [])) h74 kp)) ∧
  (aCall Tryz.prog (.p (.func ver_Stack_typ_Type_Twin_i [])) [v61] H fun v75 h76 =>
  (aLoad true 7 v5 h76 fun v77 =>
  aAlloc [(.p (.str [])), (.p (.int .i64 0)), (.p (.int .i64 0)), (.p (.bool false)), (.p (.str [])), (.full []), (.p (.int .i64 0))] h76 fun v78 h79 =>
  aStore 7 v78 v77 h79 fun _ h81 =>
  self ver_checker_place_c2 (keepS [0, 1, 5, 6, 9999] 0 (j0 :: j1 :: .top :: .top :: (.p (.int .i64 0)) :: v78 :: v75 :: .top :: .top :: .top :: .top :: .top :: .top :: .top :: j0 :: v0 :: v1 :: v4 :: j1 :: v5 :: v77 :: j0 :: v2 :: v3 :: v38 :: j1 :: v39 :: v61 :: v75 :: .top :: .top :: .top :: .top :: .top :: .top :: .top :: .top :: .top :: .top :: .top :: .top :: .top :: .top :: .top :: .top :: .top :: .top :: .top :: .top :: .top :: .top :: .top :: .top :: .top :: .top :: .top :: .top :: .top :: .top :: .top :: .top :: .top :: .top :: .top :: .top :: .top :: .top :: .top :: .top :: .top :: .top :: .top :: .top :: .top :: .top :: .top :: .top :: .top :: .top :: .top :: .top :: .top :: .top :: .top :: .top :: .top :: .top :: .top :: .top :: .top :: .top :: .top :: .top :: .top :: .top :: .top :: .top :: .top :: .top :: .top :: .top :: .top :: .top :: .top :: .top :: .top :: .top :: .top :: .top :: .top :: .top :: .top :: .top :: .top :: .top :: .top :: .top :: [])) h81 kp) ∧
  (aAlloc [(.p (.str [])), (.p (.int .i64 0)), (.p (.int .i64 0)), (.p (.bool false)), (.p (.str [])), (.full []), (.p (.int .i64 0))] h76 fun v82 h83 =>
  aLoad true 7 v5 h83 fun v84 =>
  aStore 7 v82 v84 h83 fun _ h86 =>
  self ver_checker_place_c2 (keepS [0, 1, 5, 6, 9999] 0 (j0 :: j1 :: .top :: .top :: (.p (.int .i64 0)) :: v82 :: v75 :: .top :: .top :: .top :: .top :: .top :: .top :: .top :: j0 :: v0 :: v1 :: v4 :: j1 :: v5 :: v84 :: j0 :: v2 :: v3 :: v38 :: j1 :: v39 :: v61 :: v75 :: .top :: .top :: .top :: .top :: .top :: .top :: .top :: .top :: .top :: .top :: .top :: .top :: .top :: .top :: .top :: .top :: .top :: .top :: .top :: .top :: .top :: .top :: .top :: .top :: .top :: .top :: .top :: .top :: .top :: .top :: .top :: .top :: .top :: .top :: .top :: .top :: .top :: .top :: .top :: .top :: .top :: .top :: .top :: .top :: .top :: .top :: .top :: .top :: .top :: .top :: .top :: .top :: .top :: .top :: .top :: .top :: .top :: .top :: .top :: .top :: .top :: .top :: .top :: .top :: .top :: .top :: .top :: .top :: .top :: .top :: .top :: .top :: .top :: .top :: .top :: .top :: .top :: .top :: .top :: .top :: .top :: .top :: .top :: .top :: .top :: .top :: .top :: .top :: [])) h86 kp)) ∧
  (aAlloc [(.p (.str [])), (.p (.int .i64 0)), (.p (.int .i64 0)), (.p (.bool false)), (.p (.str [])), (.full []), (.p (.int .i64 0))] H fun v87 h88 =>
  (aLoad true 7 v5 h88 fun v89 =>
  aCall Tryz.prog (.p (.func ver_Stack_typ_Type_Twin_i [])) [v61] h88 fun v90 h91 =>
  aStore 7 v87 v89 h91 fun _ h93 =>
  self ver_checker_place_c2 (keepS [0, 1, 5, 6, 9999] 0 (j0 :: j1 :: .top :: .top :: (.p (.int .i64 0)) :: v87 :: v90 :: .top :: .top :: .top :: .top :: .top :: .top :: .top :: j0 :: v0 :: v1 :: v4 :: j1 :: v5 :: v89 :: j0 :: v2 :: v3 :: v38 :: j1 :: v39 :: v61 :: v90 :: .top :: .top :: .top :: .top :: .top :: .top :: .top :: .top :: .top :: .top :: .top :: .top :: .top :: .top :: .top :: .top :: .top :: .top :: .top :: .top :: .top :: .top :: .top :: .top :: .top :: .top :: .top :: .top :: .top :: .top :: .top :: .top :: .top :: .top :: .top :: .top :: .top :: .top :: .top :: .top :: .top :: .top :: .top :: .top :: .top :: .top :: .top :: .top :: .top :: .top :: .top :: .top :: .top :: .top :: .top :: .top :: .top :: .top :: .top :: .top :: .top :: .top :: .top :: .top :: .top :: .top :: .top :: .top :: .top :: .top :: .top :: .top :: .top :: .top :: .top :: .top :: .top :: .top :: .top :: .top :: .top :: .top :: .top :: .top :: .top :: .top :: .top :: .top :: [])) h93 kp) ∧
  (aCall Tryz.prog (.p (.func ver_Stack_typ_Type_Twin_i [])) [v61] h88 fun v94 h95 =>
  aLoad true 7 v5 h95 fun v96 =>
  aStore 7 v87 v96 h95 fun _ h98 =>
  self ver_checker_place_c2 (keepS [0, 1, 5, 6, 9999] 0 (j0 :: j1 :: .top :: .top :: (.p (.int .i64 0)) :: v87 :: v94 :: .top :: .top :: .top :: .top :: .top :: .top :: .top :: j0 :: v0 :: v1 :: v4 :: j1 :: v5 :: v96 :: j0 :: v2 :: v3 :: v38 :: j1 :: v39 :: v61 :: v94 :: .top :: .top :: .top :: .top :: .top :: .top :: .top :: .top :: .top :: .top :: .top :: .top :: .top :: .top :: .top :: .top :: .top :: .top :: .top :: .top :: .top :: .top :: .top :: .top :: .top :: .top :: .top :: .top :: .top :: .top :: .top :: .top :: .top :: .top :: .top :: .top :: .top :: .top :: .top :: .top :: .top :: .top :: .top :: .top :: .top :: .top :: .top :: .top :: .top :: .top :: .top :: .top :: .top :: .top :: .top :: .top :: .top :: .top :: .top :: .top :: .top :: .top :: .top :: .top :: .top :: .top :: .top :: .top :: .top :: .top :: .top :: .top :: .top :: .top :: .top :: .top :: .top :: .top :: .top :: .top :: .top :: .top :: .top :: .top :: .top :: .top :: .top :: .top :: [])) h98 kp))) ∧
  (aAlloc [(.p (.str [])), (.p (.int .i64 0)), (.p (.int .i64 0)), (.p (.bool false)), (.p (.str [])), (.full []), (.p (.int .i64 0))] H fun v99 h100 =>
  (aLoad true 7 v5 h100 fun v101 =>
  aLoad false 1 v39 h100 fun v102 =>
  aCall Tryz.prog (.p (.func ver_Stack_typ_Type_Twin_i [])) [v102] h100 fun v103 h104 =>
  aStore 7 v99 v101 h104 fun _ h106 =>
  self ver_checker_place_c2 (keepS [0, 1, 5, 6, 9999] 0 (j0 :: j1 :: .top :: .top :: (.p (.int .i64 0)) :: v99 :: v103 :: .top :: .top :: .top :: .top :: .top :: .top :: .top :: j0 :: v0 :: v1 :: v4 :: j1 :: v5 :: v101 :: j0 :: v2 :: v3 :: v38 :: j1 :: v39 :: v102 :: v103 :: .top :: .top :: .top :: .top :: .top :: .top :: .top :: .top :: .top :: .top :: .top :: .top :: .top :: .top :: .top :: .top :: .top :: .top :: .top :: .top :: .top :: .top :: .top :: .top :: .top :: .top :: .top :: .top :: .top :: .top :: .top :: .top :: .top :: .top :: .top :: .top :: .top :: .top :: .top :: .top :: .top :: .top :: .top :: .top :: .top :: .top :: .top :: .top :: .top :: .top :: .top :: .top :: .top :: .top :: .top :: .top :: .top :: .top :: .top :: .top :: .top :: .top :: .top :: .top :: .top :: .top :: .top :: .top :: .top :: .top :: .top :: .top :: .top :: .top :: .top :: .top :: .top :: .top :: .top :: .top :: .top :: .top :: .top :: .top :: .top :: .top :: .top :: .top :: [])) h106 kp) ∧
  (aLoad false 1 v39 h100 fun v107 =>
  (aLoad true 7 v5 h100 fun v108 =>
  aCall Tryz.prog (.p (.func ver_Stack_typ_Type_Twin_i [])) [v107] h100 fun v109 h110 =>
  aStore 7 v99 v108 h110 fun _ h112 =>
  self ver_checker_place_c2 (keepS [0, 1, 5, 6, 9999] 0 (j0 :: j1 :: .top :: .top :: (.p (.int .i64 0)) :: v99 :: v109 :: .top :: .top :: .top :: .top :: .top :: .top :: .top :: j0 :: v0 :: v1 :: v4 :: j1 :: v5 :: v108 :: j0 :: v2 :: v3 :: v38 :: j1 :: v39 :: v107 :: v109 :: .top :: .top :: .top :: .top :: .top :: .top :: .top :: .top :: .top :: .top :: .top :: .top :: .top :: .top :: .top :: .top :: .top :: .top :: .top :: .top :: .top :: .top :: .top :: .top :: .top :: .top :: .top :: .top :: .top :: .top :: .top :: .top :: .top :: .top :: .top :: .top :: .top :: .top :: .top :: .top :: .top :: .top :: .top :: .top :: .top :: .top :: .top :: .top :: .top :: .top :: .top :: .top :: .top :: .top :: .top :: .top :: .top :: .top :: .top :: .top :: .top :: .top :: .top :: .top :: .top :: .top :: .top :: .top :: .top :: .top :: .top :: .top :: .top :: .top :: .top :: .top :: .top :: .top :: .top :: .top :: .top :: .top :: .top :: .top :: .top :: .top :: .top :: .top :: [])) h112 kp) ∧
  (aCall Tryz.prog (.p (.func ver_Stack_typ_Type_Twin_i [])) [v107] h100 fun v113 h114 =>
  aLoad true 7 v5 h114 fun v115 =>
  aStore 7 v99 v115 h114 fun _ h117 =>
  self ver_checker_place_c2 (keepS [0, 1, 5, 6, 9999] 0 (j0 :: j1 :: .top :: .top :: (.p (.int .i64 0)) :: v99 :: v113 :: .top :: .top :: .top :: .top :: .top :: .top :: .top :: j0 :: v0 :: v1 :: v4 :: j1 :: v5 :: v115 :: j0 :: v2 :: v3 :: v38 :: j1 :: v39 :: v107 :: v113 :: .top :: .top :: .top :: .top :: .top :: .top :: .top :: .top :: .top :: .top :: .top :: .top :: .top :: .top :: .top :: .top :: .top :: .top :: .top :: .top :: .top :: .top :: .top :: .top :: .top :: .top :: .top :: .top :: .top :: .top :: .top :: .top :: .top :: .top :: .top :: .top :: .top :: .top :: .top :: .top :: .top :: .top :: .top :: .top :: .top :: .top :: .top :: .top :: .top :: .top :: .top :: .top :: .top :: .top :: .top :: .top :: .top :: .top :: .top :: .top :: .top :: .top :: .top :: .top :: .top :: .top :: .top :: .top :: .top :: .top :: .top :: .top :: .top :: .top :: .top :: .top :: .top :: .top :: .top :: .top :: .top :: .top :: .top :: .top :: .top :: .top :: .top :: .top :: [])) h117 kp)))) ∧
  (aAlloc [(.p (.str [])), (.p (.int .i64 0)), (.p (.int .i64 0)), (.p (.bool false)), (.p (.str [])), (.full []), (.p (.int .i64 0))] H fun v118 h119 =>
  (aLoad true 7 v5 h119 fun v120 =>
  aLoad false 1 v3 h119 fun v121 =>
  aIndexAddr 1 v121 j1 fun v122 =>
  aLoad false 1 v122 h119 fun v123 =>
  aCall Tryz.prog (.p (.func ver_Stack_typ_Type_Twin_i [])) [v123] h119 fun v124 h125 =>
  aStore 7 v118 v120 h125 fun _ h127 =>
  self ver_checker_place_c2 (keepS [0, 1, 5, 6, 9999] 0 (j0 :: j1 :: .top :: .top :: (.p (.int .i64 0)) :: v118 :: v124 :: .top :: .top :: .top :: .top :: .top :: .top :: .top :: j0 :: v0 :: v1 :: v4 :: j1 :: v5 :: v120 :: j0 :: v2 :: v3 :: v121 :: j1 :: v122 :: v123 :: v124 :: .top :: .top :: .top :: .top :: .top :: .top :: .top :: .top :: .top :: .top :: .top :: .top :: .top :: .top :: .top :: .top :: .top :: .top :: .top :: .top :: .top :: .top :: .top :: .top :: .top :: .top :: .top :: .top :: .top :: .top :: .top :: .top :: .top :: .top :: .top :: .top :: .top :: .top :: .top :: .top :: .top :: .top :: .top :: .top :: .top :: .top :: .top :: .top :: .top :: .top :: .top :: .top :: .top :: .top :: .top :: .top :: .top :: .top :: .top :: .top :: .top :: .top :: .top :: .top :: .top :: .top :: .top :: .top :: .top :: .top :: .top :: .top :: .top :: .top :: .top :: .top :: .top :: .top :: .top :: .top :: .top :: .top :: .top :: .top :: .top :: .top :: .top :: .top :: [])) h127 kp) ∧
  (aLoad false 1 v3 h119 fun v128 =>
  aIndexAddr 1 v128 j1 fun v129 =>
  (aLoad true 7 v5 h119 fun v130 =>
  aLoad false 1 v129 h119 fun v131 =>
  aCall Tryz.prog (.p (.func ver_Stack_typ_Type_Twin_i [])) [v131] h119 fun v132 h133 =>
  aStore 7 v118 v130 h133 fun _ h135 =>
  self ver_checker_place_c2 (keepS [0, 1, 5, 6, 9999] 0 (j0 :: j1 :: .top :: .top :: (.p (.int .i64 0)) :: v118 :: v132 :: .top :: .top :: .top :: .top :: .top :: .top :: .top :: j0 :: v0 :: v1 :: v4 :: j1 :: v5 :: v130 :: j0 :: v2 :: v3 :: v128 :: j1 :: v129 :: v131 :: v132 :: .top :: .top :: .top :: .top :: .top :: .top :: .top :: .top :: .top :: .top :: .top :: .top :: .top :: .top :: .top :: .top :: .top :: .top :: .top :: .top :: .top :: .top :: .top :: .top :: .top :: .top :: .top :: .top :: .top :: .top :: .top :: .top :: .top :: .top :: .top :: .top :: .top :: .top :: .top :: .top :: .top :: .top :: .top :: .top :: .top :: .top :: .top :: .top :: .top :: .top :: .top :: .top :: .top :: .top :: .top :: .top :: .top :: .top :: .top :: .top :: .top :: .top :: .top :: .top :: .top :: .top :: .top :: .top :: .top :: .top :: .top :: .top :: .top :: .top :: .top :: .top :: .top :: .top :: .top :: .top :: .top :: .top :: .top :: .top :: .top :: .top :: .top :: .top :: [])) h135 kp) ∧
  (aLoad false 1 v129 h119 fun v136 =>
  (aLoad true 7 v5 h119 fun v137 =>
  aCall Tryz.prog (.p (.func ver_Stack_typ_Type_Twin_i [])) [v136] h119 fun v138 h139 =>
  aStore 7 v118 v137 h139 fun _ h141 =>
  self ver_checker_place_c2 (keepS [0, 1, 5, 6, 9999] 0 (j0 :: j1 :: .top :: .top :: (.p (.int .i64 0)) :: v118 :: v138 :: .top :: .top :: .top :: .top :: .top :: .top :: .top :: j0 :: v0 :: v1 :: v4 :: j1 :: v5 :: v137 :: j0 :: v2 :: v3 :: v128 :: j1 :: v129 :: v136 :: v138 :: .top :: .top :: .top :: .top :: .top :: .top :: .top :: .top :: .top :: .top :: .top :: .top :: .top :: .top :: .top :: .top :: .top :: .top :: .top :: .top :: .top :: .top :: .top :: .top :: .top :: .top :: .top :: .top :: .top :: .top :: .top :: .top :: .top :: .top :: .top :: .top :: .top :: .top :: .top :: .top :: .top :: .top :: .top :: .top :: .top :: .top :: .top :: .top :: .top :: .top :: .top :: .top :: .top :: .top :: .top :: .top :: .top :: .top :: .top :: .top :: .top :: .top :: .top :: .top :: .top :: .top :: .top :: .top :: .top :: .top :: .top :: .top :: .top :: .top :: .top :: .top :: .top :: .top :: .top :: .top :: .top :: .top :: .top :: .top :: .top :: .top :: .top :: .top :: [])) h141 kp) ∧
  (aCall Tryz.prog (.p (.func ver_Stack_typ_Type_Twin_i [])) [v136] h119 fun v142 h143 =>
  aLoad true 7 v5 h143 fun v144 =>
  aStore 7 v118 v144 h143 fun _ h146 =>
  self ver_checker_place_c2 (keepS [0, 1, 5, 6, 9999] 0 (j0 :: j1 :: .top :: .top :: (.p (.int .i64 0)) :: v118 :: v142 :: .top :: .top :: .top :: .top :: .top :: .top :: .top :: j0 :: v0 :: v1 :: v4 :: j1 :: v5 :: v144 :: j0 :: v2 :: v3 :: v128 :: j1 :: v129 :: v136 :: v142 :: .top :: .top :: .top :: .top :: .top :: .top :: .top :: .top :: .top :: .top :: .top :: .top :: .top :: .top :: .top :: .top :: .top :: .top :: .top :: .top :: .top :: .top :: .top :: .top :: .top :: .top :: .top :: .top :: .top :: .top :: .top :: .top :: .top :: .top :: .top :: .top :: .top :: .top :: .top :: .top :: .top :: .top :: .top :: .top :: .top :: .top :: .top :: .top :: .top :: .top :: .top :: .top :: .top :: .top :: .top :: .top :: .top :: .top :: .top :: .top :: .top :: .top :: .top :: .top :: .top :: .top :: .top :: .top :: .top :: .top :: .top :: .top :: .top :: .top :: .top :: .top :: .top :: .top :: .top :: .top :: .top :: .top :: .top :: .top :: .top :: .top :: .top :: .top :: [])) h146 kp))))) ∧
  (aLoad false 1 v3 H fun v147 =>
  aIndexAddr 1 v147 j1 fun v148 =>
  (aLoad false 1 v1 H fun v149 =>
  aIndexAddr 7 v149 j1 fun v150 =>
  (aLoad true 7 v150 H fun v151 =>
  (aLoad false 1 v148 H fun v152 =>
  (aCall Tryz.prog (.p (.func ver_Stack_typ_Type_Twin_i [])) [v152] H fun v153 h154 =>
  aAlloc [(.p (.str [])), (.p (.int .i64 0)), (.p (.int .i64 0)), (.p (.bool false)), (.p (.str [])), (.full []), (.p (.int .i64 0))] h154 fun v155 h156 =>
  aStore 7 v155 v151 h156 fun _ h158 =>
  self ver_checker_place_c2 (keepS [0, 1, 5, 6, 9999] 0 (j0 :: j1 :: .top :: .top :: (.p (.int .i64 0)) :: v155 :: v153 :: .top :: .top :: .top :: .top :: .top :: .top :: .top :: j0 :: v0 :: v1 :: v149 :: j1 :: v150 :: v151 :: j0 :: v2 :: v3 :: v147 :: j1 :: v148 :: v152 :: v153 :: .top :: .top :: .top :: .top :: .top :: .top :: .top :: .top :: .top :: .top :: .top :: .top :: .top :: .top :: .top :: .top :: .top :: .top :: .top :: .top :: .top :: .top :: .top :: .top :: .top :: .top :: .top :: .top :: .top :: .top :: .top :: .top :: .top :: .top :: .top :: .top :: .top :: .top :: .top :: .top :: .top :: .top :: .top :: .top :: .top :: .top :: .top :: .top :: .top :: .top :: .top :: .top :: .top :: .top :: .top :: .top :: .top :: .top :: .top :: .top :: .top :: .top :: .top :: .top :: .top :: .top :: .top :: .top :: .top :: .top :: .top :: .top :: .top :: .top :: .top :: .top :: .top :: .top :: .top :: .top :: .top :: .top :: .top :: .top :: .top :: .top :: .top :: .top :: [])) h158 kp) ∧
  (aAlloc [(.p (.str [])), (.p (.int .i64 0)), (.p (.int .i64 0)), (.p (.bool false)), (.p (.str [])), (.full []), (.p (.int .i64 0))] H fun v159 h160 =>
  aCall Tryz.prog (.p (.func ver_Stack_typ_Type_Twin_i [])) [v152] h160 fun v161 h162 =>
  aStore 7 v159 v151 h162 fun _ h164 =>
  self ver_checker_place_c2 (keepS [0, 1, 5, 6, 9999] 0 (j0 :: j1 :: .top :: .top :: (.p (.int .i64 0)) :: v159 :: v161 :: .top :: .top :: .top :: .top :: .top :: .top :: .top :: j0 :: v0 :: v1 :: v149 :: j1 :: v150 :: v151 :: j0 :: v2 :: v3 :: v147 :: j1 :: v148 :: v152 :: v161 :: .top :: .top :: .top :: .top :: .top :: .top :: .top :: .top :: .top :: .top :: .top :: .top :: .top :: .top :: .top :: .top :: .top :: .top :: .top :: .top :: .top :: .top :: .top :: .top :: .top :: .top :: .top :: .top :: .top :: .top :: .top :: .top :: .top :: .top :: .top :: .top :: .top :: .top :: .top :: .top :: .top :: .top :: .top :: .top :: .top :: .top :: .top :: .top :: .top :: .top :: .top :: .top :: .top :: .top :: .top :: .top :: .top :: .top :: .top :: .top :: .top :: .top :: .top :: .top :: .top :: .top :: .top :: .top :: .top :: .top :: .top :: .top :: .top :: .top :: .top :: .top :: .top :: .top :: .top :: .top :: .top :: .top :: .top :: .top :: .top :: .top :: .top :: .top :: [])) h164 kp)) ∧
  (aAlloc [(.p (.str [])), (.p (.int .i64 0)), (.p (.int .i64 0)), (.p (.bool false)), (.p (.str [])), (.full []), (.p (.int .i64 0))] H fun v165 h166 =>
  aLoad false 1 v148 h166 fun v167 =>
  aCall Tryz.prog (.p (.func ver_Stack_typ_Type_Twin_i [])) [v167] h166 fun v168 h169 =>
  aStore 7 v165 v151 h169 fun _ h171 =>
  self ver_checker_place_c2 (keepS [0, 1, 5, 6, 9999] 0 (j0 :: j1 :: .top :: .top :: (.p (.int .i64 0)) :: v165 :: v168 :: .top :: .top :: .top :: .top :: .top :: .top :: .top :: j0 :: v0 :: v1 :: v149 :: j1 :: v150 :: v151 :: j0 :: v2 :: v3 :: v147 :: j1 :: v148 :: v167 :: v168 :: .top :: .top :: .top :: .top :: .top :: .top :: .top :: .top :: .top :: .top :: .top :: .top :: .top :: .top :: .top :: .top :: .top :: .top :: .top :: .top :: .top :: .top :: .top :: .top :: .top :: .top :: .top :: .top :: .top :: .top :: .top :: .top :: .top :: .top :: .top :: .top :: .top :: .top :: .top :: .top :: .top :: .top :: .top :: .top :: .top :: .top :: .top :: .top :: .top :: .top :: .top :: .top :: .top :: .top :: .top :: .top :: .top :: .top :: .top :: .top :: .top :: .top :: .top :: .top :: .top :: .top :: .top :: .top :: .top :: .top :: .top :: .top :: .top :: .top :: .top :: .top :: .top :: .top :: .top :: .top :: .top :: .top :: .top :: .top :: .top :: .top :: .top :: .top :: [])) h171 kp)) ∧
  (aLoad false 1 v148 H fun v172 =>
  (aLoad true 7 v150 H fun v173 =>
  (aCall Tryz.prog (.p (.func ver_Stack_typ_Type_Twin_i [])) [v172] H fun v174 h175 =>
  aAlloc [(.p (.str [])), (.p (.int .i64 0)), (.p (.int .i64 0)), (.p (.bool false)), (.p (.str [])), (.full []), (.p (.int .i64 0))] h175 fun v176 h177 =>
  aStore 7 v176 v173 h177 fun _ h179 =>
  self ver_checker_place_c2 (keepS [0, 1, 5, 6, 9999] 0 (j0 :: j1 :: .top :: .top :: (.p (.int .i64 0)) :: v176 :: v174 :: .top :: .top :: .top :: .top :: .top :: .top :: .top :: j0 :: v0 :: v1 :: v149 :: j1 :: v150 :: v173 :: j0 :: v2 :: v3 :: v147 :: j1 :: v148 :: v172 :: v174 :: .top :: .top :: .top :: .top :: .top :: .top :: .top :: .top :: .top :: .top :: .top :: .top :: .top :: .top :: .top :: .top :: .top :: .top :: .top :: .top :: .top :: .top :: .top :: .top :: .top :: .top :: .top :: .top :: .top :: .top :: .top :: .top :: .top :: .top :: .top :: .top :: .top :: .top :: .top :: .top :: .top :: .top :: .top :: .top :: .top :: .top :: .top :: .top :: .top :: .top :: .top :: .top :: .top :: .top :: .top :: .top :: .top :: .top :: .top :: .top :: .top :: .top :: .top :: .top :: .top :: .top :: .top :: .top :: .top :: .top :: .top :: .top :: .top :: .top :: .top :: .top :: .top :: .top :: .top :: .top :: .top :: .top :: .top :: .top :: .top :: .top :: .top :: .top :: [])) h179 kp) ∧
  (aAlloc [(.p (.str [])), (.p (.int .i64 0)), (.p (.int .i64 0)), (.p (.bool false)), (.p (.str [])), (.full []), (.p (.int .i64 0))] H fun v180 h181 =>
  aCall Tryz.prog (.p (.func ver_Stack_typ_Type_Twin_i [])) [v172] h181 fun v182 h183 =>
  aStore 7 v180 v173 h183 fun _ h185 =>
  self ver_checker_place_c2 (keepS [0, 1, 5, 6, 9999] 0 (j0 :: j1 :: .top :: .top :: (.p (.int .i64 0)) :: v180 :: v182 :: .top :: .top :: .top :: .top :: .top :: .top :: .top :: j0 :: v0 :: v1 :: v149 :: j1 :: v150 :: v173 :: j0 :: v2 :: v3 :: v147 :: j1 :: v148 :: v172 :: v182 :: .top :: .top :: .top :: .top :: .top :: .top :: .top :: .top :: .top :: .top :: .top :: .top :: .top :: .top :: .top :: .top :: .top :: .top :: .top :: .top :: .top :: .top :: .top :: .top :: .top :: .top :: .top :: .top :: .top :: .top :: .top :: .top :: .top :: .top :: .top :: .top :: .top :: .top :: .top :: .top :: .top :: .top :: .top :: .top :: .top :: .top :: .top :: .top :: .top :: .top :: .top :: .top :: .top :: .top :: .top :: .top :: .top :: .top :: .top :: .top :: .top :: .top :: .top :: .top :: .top :: .top :: .top :: .top :: .top :: .top :: .top :: .top :: .top :: .top :: .top :: .top :: .top :: .top :: .top :: .top :: .top :: .top :: .top :: .top :: .top :: .top :: .top :: .top :: [])) h185 kp)) ∧
  (aCall Tryz.prog (.p (.func ver_Stack_typ_Type_Twin_i [])) [v172] H fun v186 h187 =>
  (aLoad true 7 v150 h187 fun v188 =>
  aAlloc [(.p (.str [])), (.p (.int .i64 0)), (.p (.int .i64 0)), (.p (.bool false)), (.p (.str [])), (.full []), (.p (.int .i64 0))] h187 fun v189 h190 =>
  aStore 7 v189 v188 h190 fun _ h192 =>
  self ver_checker_place_c2 (keepS [0, 1, 5, 6, 9999] 0 (j0 :: j1 :: .top :: .top :: (.p (.int .i64 0)) :: v189 :: v186 :: .top :: .top :: .top :: .top :: .top :: .top :: .top :: j0 :: v0 :: v1 :: v149 :: j1 :: v150 :: v188 :: j0 :: v2 :: v3 :: v147 :: j1 :: v148 :: v172 :: v186 :: .top :: .top :: .top :: .top :: .top :: .top :: .top :: .top :: .top :: .top :: .top :: .top :: .top :: .top :: .top :: .top :: .top :: .top :: .top :: .top :: .top :: .top :: .top :: .top :: .top :: .top :: .top :: .top :: .top :: .top :: .top :: .top :: .top :: .top :: .top :: .top :: .top :: .top :: .top :: .top :: .top :: .top :: .top :: .top :: .top :: .top :: .top :: .top :: .top :: .top :: .top :: .top :: .top :: .top :: .top :: .top :: .top :: .top :: .top :: .top :: .top :: .top :: .top :: .top :: .top :: .top :: .top :: .top :: .top :: .top :: .top :: .top :: .top :: .top :: .top :: .top :: .top :: .top :: .top :: .top :: .top :: .top :: .top :: .top :: .top :: .top :: .top :: .top :: [])) h192 kp) ∧
  (aAlloc [(.p (.str [])), (.p (.int .i64 0)), (.p (.int .i64 0)), (.p (.bool false)), (.p (.str [])), (.full []), (.p (.int .i64 0))] h187 fun v193 h194 =>
  aLoad true 7 v150 h194 fun v195 =>
  aStore 7 v193 v195 h194 fun _ h197 =>
  self ver_checker_place_c2 (keepS [0, 1, 5, 6, 9999] 0 (j0 :: j1 :: .top :: .top :: (.p (.int .i64 0)) :: v193 :: v186 :: .top :: .top :: .top :: .top :: .top :: .top :: .top :: j0 :: v0 :: v1 :: v149 :: j1 :: v150 :: v195 :: j0 :: v2 :: v3 :: v147 :: j1 :: v148 :: v172 :: v186 :: .top :: .top :: .top :: .top :: .top :: .top :: .top :: .top :: .top :: .top :: .top :: .top :: .top :: .top :: .top :: .top :: .top :: .top :: .top :: .top :: .top :: .top :: .top :: .top :: .top :: .top :: .top :: .top :: .top :: .top :: .top :: .top :: .top :: .top :: .top :: .top :: .top :: .top :: .top :: .top :: .top :: .top :: .top :: .top :: .top :: .top :: .top :: .top :: .top :: .top :: .top :: .top :: .top :: .top :: .top :: .top :: .top :: .top :: .top :: .top :: .top :: .top :: .top :: .top :: .top :: .top :: .top :: .top :: .top :: .top :: .top :: .top :: .top :: .top :: .top :: .top :: .top :: .top :: .top :: .top :: .top :: .top :: .top :: .top :: .top :: .top :: .top :: .top :: [])) h197 kp)) ∧
  (aAlloc [(.p (.str [])), (.p (.int .i64 0)), (.p (.int .i64 0)), (.p (.bool false)), (.p (.str [])), (.full []), (.p (.int .i64 0))] H fun v198 h199 =>
  (aLoad true 7 v150 h199 fun v200 =>
  aCall Tryz.prog (.p (.func ver_Stack_typ_Type_Twin_i [])) [v172] h199 fun v201 h202 =>
  aStore 7 v198 v200 h202 fun _ h204 =>
  self ver_checker_place_c2 (keepS [0, 1, 5, 6, 9999] 0 (j0 :: j1 :: .top :: .top :: (.p (.int .i64 0)) :: v198 :: v201 :: .top :: .top :: .top :: .top :: .top :: .top :: .top :: j0 :: v0 :: v1 :: v149 :: j1 :: v150 :: v200 :: j0 :: v2 :: v3 :: v147 :: j1 :: v148 :: v172 :: v201 :: .top :: .top :: .top :: .top :: .top :: .top :: .top :: .top :: .top :: .top :: .top :: .top :: .top :: .top :: .top :: .top :: .top :: .top :: .top :: .top :: .top :: .top :: .top :: .top :: .top :: .top :: .top :: .top :: .top :: .top :: .top :: .top :: .top :: .top :: .top :: .top :: .top :: .top :: .top :: .top :: .top :: .top :: .top :: .top :: .top :: .top :: .top :: .top :: .top :: .top :: .top :: .top :: .top :: .top :: .top :: .top :: .top :: .top :: .top :: .top :: .top :: .top :: .top :: .top :: .top :: .top :: .top :: .top :: .top :: .top :: .top :: .top :: .top :: .top :: .top :: .top :: .top :: .top :: .top :: .top :: .top :: .top :: .top :: .top :: .top :: .top :: .top :: .top :: [])) h204 kp) ∧
  (aCall Tryz.prog (.p (.func ver_Stack_typ_Type_Twin_i [])) [v172] h199 fun v205 h206 =>
  aLoad true 7 v150 h206 fun v207 =>
  aStore 7 v198 v207 h206 fun _ h209 =>
  self ver_checker_place_c2 (keepS [0, 1, 5, 6, 9999] 0 (j0 :: j1 :: .top :: .top :: (.p (.int .i64 0)) :: v198 :: v205 :: .top :: .top :: .top :: .top :: .top :: .top :: .top :: j0 :: v0 :: v1 :: v149 :: j1 :: v150 :: v207 :: j0 :: v2 :: v3 :: v147 :: j1 :: v148 :: v172 :: v205 :: .top :: .top :: .top :: .top :: .top :: .top :: .top :: .top :: .top :: .top :: .top :: .top :: .top :: .top :: .top :: .top :: .top :: .top :: .top :: .top :: .top :: .top :: .top :: .top :: .top :: .top :: .top :: .top :: .top :: .top :: .top :: .top :: .top :: .top :: .top :: .top :: .top :: .top :: .top :: .top :: .top :: .top :: .top :: .top :: .top :: .top :: .top :: .top :: .top :: .top :: .top :: .top :: .top :: .top :: .top :: .top :: .top :: .top :: .top :: .top :: .top :: .top :: .top :: .top :: .top :: .top :: .top :: .top :: .top :: .top :: .top :: .top :: .top :: .top :: .top :: .top :: .top :: .top :: .top :: .top :: .top :: .top :: .top :: .top :: .top :: .top :: .top :: .top :: [])) h209 kp))) ∧
  (aAlloc [(.p (.str [])), (.p (.int .i64 0)), (.p (.int .i64 0)), (.p (.bool false)), (.p (.str [])), (.full []), (.p (.int .i64 0))] H fun v210 h211 =>
  (aLoad true 7 v150 h211 fun v212 =>
  aLoad false 1 v148 h211 fun v213 =>
  aCall Tryz.prog (.p (.func ver_Stack_typ_Type_Twin_i [])) [v213] h211 fun v214 h215 =>
  aStore 7 v210 v212 h215 fun _ h217 =>
  self ver_checker_place_c2 (keepS [0, 1, 5, 6, 9999] 0 (j0 :: j1 :: .top :: .top :: (.p (.int .i64 0)) :: v210 :: v214 :: .top :: .top :: .top :: .top :: .top :: .top :: .top :: j0 :: v0 :: v1 :: v149 :: j1 :: v150 :: v212 :: j0 :: v2 :: v3 :: v147 :: j1 :: v148 :: v213 :: v214 :: .top :: .top :: .top :: .top :: .top :: .top :: .top :: .top :: .top :: .top :: .top :: .top :: .top :: .top :: .top :: .top :: .top :: .top :: .top :: .top :: .top :: .top :: .top :: .top :: .top :: .top :: .top :: .top :: .top :: .top :: .top :: .top :: .top :: .top :: .top :: .top :: .top :: .top :: .top :: .top :: .top :: .top :: .top :: .top :: .top :: .top :: .top :: .top :: .top :: .top :: .top :: .top :: .top :: .top :: .top :: .top :: .top :: .top :: .top :: .top :: .top :: .top :: .top :: .top :: .top :: .top :: .top :: .top :: .top :: .top :: .top :: .top :: .top :: .top :: .top :: .top :: .top :: .top :: .top :: .top :: .top :: .top :: .top :: .top :: .top :: .top :: .top :: .top :: [])) h217 kp) ∧
  (aLoad false 1 v148 h211 fun v218 =>
  (aLoad true 7 v150 h211 fun v219 =>
  aCall Tryz.prog (.p (.func ver_Stack_typ_Type_Twin_i [])) [v218] h211 fun v220 h221 =>
  aStore 7 v210 v219 h221 fun _ h223 =>
  self ver_checker_place_c2 (keepS [0, 1, 5, 6, 9999] 0 (j0 :: j1 :: .top :: .top :: (.p (.int .i64 0)) :: v210 :: v220 :: .top :: .top :: .top :: .top :: .top :: .top :: .top :: j0 :: v0 :: v1 :: v149 :: j1 :: v150 :: v219 :: j0 :: v2 :: v3 :: v147 :: j1 :: v148 :: v218 :: v220 :: .top :: .top :: .top :: .top :: .top :: .top :: .top :: .top :: .top :: .top :: .top :: .top :: .top :: .top :: .top :: .top :: .top :: .top :: .top :: .top :: .top :: .top :: .top :: .top :: .top :: .top :: .top :: .top :: .top :: .top :: .top :: .top :: .top :: .top :: .top :: .top :: .top :: .top :: .top :: .top :: .top :: .top :: .top :: .top :: .top :: .top :: .top :: .top :: .top :: .top :: .top :: .top :: .top :: .top :: .top :: .top :: .top :: .top :: .top :: .top :: .top :: .top :: .top :: .top :: .top :: .top :: .top :: .top :: .top :: .top :: .top :: .top :: .top :: .top :: .top :: .top :: .top :: .top :: .top :: .top :: .top :: .top :: .top :: .top :: .top :: .top :: .top :: .top :: [])) h223 kp) ∧
  (aCall Tryz.prog (.p (.func ver_Stack_typ_Type_Twin_i [])) [v218] h211 fun v224 h225 =>
  aLoad true 7 v150 h225 fun v226 =>
  aStore 7 v210 v226 h225 fun _ h228 =>
  self ver_checker_place_c2 (keepS [0, 1, 5, 6, 9999] 0 (j0 :: j1 :: .top :: .top :: (.p (.int .i64 0)) :: v210 :: v224 :: .top :: .top :: .top :: .top :: .top :: .top :: .top :: j0 :: v0 :: v1 :: v149 :: j1 :: v150 :: v226 :: j0 :: v2 :: v3 :: v147 :: j1 :: v148 :: v218 :: v224 :: .top :: .top :: .top :: .top :: .top :: .top :: .top :: .top :: .top :: .top :: .top :: .top :: .top :: .top :: .top :: .top :: .top :: .top :: .top :: .top :: .top :: .top :: .top :: .top :: .top :: .top :: .top :: .top :: .top :: .top :: .top :: .top :: .top :: .top :: .top :: .top :: .top :: .top :: .top :: .top :: .top :: .top :: .top :: .top :: .top :: .top :: .top :: .top :: .top :: .top :: .top :: .top :: .top :: .top :: .top :: .top :: .top :: .top :: .top :: .top :: .top :: .top :: .top :: .top :: .top :: .top :: .top :: .top :: .top :: .top :: .top :: .top :: .top :: .top :: .top :: .top :: .top :: .top :: .top :: .top :: .top :: .top :: .top :: .top :: .top :: .top :: .top :: .top :: [])) h228 kp)))) ∧
  (aLoad false 1 v148 H fun v229 =>
  (aLoad false 1 v1 H fun v230 =>
  aIndexAddr 7 v230 j1 fun v231 =>
  (aLoad true 7 v231 H fun v232 =>
  (aCall Tryz.prog (.p (.func ver_Stack_typ_Type_Twin_i [])) [v229] H fun v233 h234 =>
  aAlloc [(.p (.str [])), (.p (.int .i64 0)), (.p (.int .i64 0)), (.p (.bool false)), (.p (.str [])), (.full []), (.p (.int .i64 0))] h234 fun v235 h236 =>
  aStore 7 v235 v232 h236 fun _ h238 =>
  self ver_checker_place_c2 (keepS [0, 1, 5, 6, 9999] 0 (j0 :: j1 :: .top :: .top :: (.p (.int .i64 0)) :: v235 :: v233 :: .top :: .top :: .top :: .top :: .top :: .top :: .top :: j0 :: v0 :: v1 :: v230 :: j1 :: v231 :: v232 :: j0 :: v2 :: v3 :: v147 :: j1 :: v148 :: v229 :: v233 :: .top :: .top :: .top :: .top :: .top :: .top :: .top :: .top :: .top :: .top :: .top :: .top :: .top :: .top :: .top :: .top :: .top :: .top :: .top :: .top :: .top :: .top :: .top :: .top :: .top :: .top :: .top :: .top :: .top :: .top :: .top :: .top :: .top :: .top :: .top :: .top :: .top :: .top :: .top :: .top :: .top :: .top :: .top :: .top :: .top :: .top :: .top :: .top :: .top :: .top :: .top :: .top :: .top :: .top :: .top :: .top :: .top :: .top :: .top :: .top :: .top :: .top :: .top :: .top :: .top :: .top :: .top :: .top :: .top :: .top :: .top :: .top :: .top :: .top :: .top :: .top :: .top :: .top :: .top :: .top :: .top :: .top :: .top :: .top :: .top :: .top :: .top :: .top :: [])) h238 kp) ∧
  (aAlloc [(.p (.str [])), (.p (.int .i64 0)), (.p (.int .i64 0)), (.p (.bool false)), (.p (.str [])), (.full []), (.p (.int .i64 0))] H fun v239 h240 =>
  aCall Tryz.prog (.p (.func ver_Stack_typ_Type_Twin_i [])) [v229] h240 fun v241 h242 =>
  aStore 7 v239 v232 h242 fun _ h244 =>
  self ver_checker_place_c2 (keepS [0, 1, 5, 6, 9999] 0 (j0 :: j1 :: .top :: .top :: (.p (.int .i64 0)) :: v239 :: v241 :: .top :: .top :: .top :: .top :: .top :: .top :: .top :: j0 :: v0 :: v1 :: v230 :: j1 :: v231 :: v232 :: j0 :: v2 :: v3 :: v147 :: j1 :: v148 :: v229 :: v241 :: .top :: .top :: .top :: .top :: .top :: .top :: .top :: .top :: .top :: .top :: .top :: .top :: .top :: .top :: .top :: .top :: .top :: .top :: .top :: .top :: .top :: .top :: .top :: .top :: .top :: .top :: .top :: .top :: .top :: .top :: .top :: .top :: .top :: .top :: .top :: .top :: .top :: .top :: .top :: .top :: .top :: .top :: .top :: .top :: .top :: .top :: .top :: .top :: .top :: .top :: .top :: .top :: .top :: .top :: .top :: .top :: .top :: .top :: .top :: .top :: .top :: .top :: .top :: .top :: .top :: .top :: .top :: .top :: .top :: .top :: .top :: .top :: .top :: .top :: .top :: .top :: .top :: .top :: .top :: .top :: .top :: .top :: .top :: .top :: .top :: .top :: .top :: .top :: [])) h244 kp)) ∧
  (aCall Tryz.prog (.p (.func ver_Stack_typ_Type_Twin_i [])) [v229] H fun v245 h246 =>
  (aLoad true 7 v231 h246 fun v247 =>
  aAlloc [(.p (.str [])), (.p (.int .i64 0)), (.p (.int .i64 0)), (.p (.bool false)), (.p (.str [])), (.full []), (.p (.int .i64 0))] h246 fun v248 h249 =>
  aStore 7 v248 v247 h249 fun _ h251 =>
  self ver_checker_place_c2 (keepS [0, 1, 5, 6, 9999] 0 (j0 :: j1 :: .top :: .top :: (.p (.int .i64 0)) :: v248 :: v245 :: .top :: .top :: .top :: .top :: .top :: .top :: .top :: j0 :: v0 :: v1 :: v230 :: j1 :: v231 :: v247 :: j0 :: v2 :: v3 :: v147 :: j1 :: v148 :: v229 :: v245 :: .top :: .top :: .top :: .top :: .top :: .top :: .top :: .top :: .top :: .top :: .top :: .top :: .top :: .top :: .top :: .top :: .top :: .top :: .top :: .top :: .top :: .top :: .top :: .top :: .top :: .top :: .top :: .top :: .top :: .top :: .top :: .top :: .top :: .top :: .top :: .top :: .top :: .top :: .top :: .top :: .top :: .top :: .top :: .top :: .top :: .top :: .top :: .top :: .top :: .top :: .top :: .top :: .top :: .top :: .top :: .top :: .top :: .top :: .top :: .top :: .top :: .top :: .top :: .top :: .top :: .top :: .top :: .top :: .top :: .top :: .top :: .top :: .top :: .top :: .top :: .top :: .top :: .top :: .top :: .top :: .top :: .top :: .top :: .top :: .top :: .top :: .top :: .top :: [])) h251 kp) ∧
  (aAlloc [(.p (.str [])), (.p (.int .i64 0)), (.p (.int .i64 0)), (.p (.bool false)), (.p (.str [])), (.full []), (.p (.int .i64 0))] h246 fun v252 h253 =>
  aLoad true 7 v231 h253 fun v254 =>
  aStore 7 v252 v254 h253 fun _ h256 =>
  self ver_checker_place_c2 (keepS [0, 1, 5, 6, 9999] 0 (j0 :: j1 :: .top :: .top :: (.p (.int .i64 0)) :: v252 :: v245 :: .top :: .top :: .top :: .top :: .top :: .top :: .top :: j0 :: v0 :: v1 :: v230 :: j1 :: v231 :: v254 :: j0 :: v2 :: v3 :: v147 :: j1 :: v148 :: v229 :: v245 :: .top :: .top :: .top :: .top :: .top :: .top :: .top :: .top :: .top :: .top :: .top :: .top :: .top :: .top :: .top :: .top :: .top :: .top :: .top :: .top :: .top :: .top :: .top :: .top :: .top :: .top :: .top :: .top :: .top :: .top :: .top :: .top :: .top :: .top :: .top :: .top :: .top :: .top :: .top :: .top :: .top :: .top :: .top :: .top :: .top :: .top :: .top :: .top :: .top :: .top :: .top :: .top :: .top :: .top :: .top :: .top :: .top :: .top :: .top :: .top :: .top :: .top :: .top :: .top :: .top :: .top :: .top :: .top :: .top :: .top :: .top :: .top :: .top :: .top :: .top :: .top :: .top :: .top :: .top :: .top :: .top :: .top :: .top :: .top :: .top :: .top :: .top :: .top :: [])) h256 kp)) ∧
  (aAlloc [(.p (.str [])), (.p (.int .i64 0)), (.p (.int .i64 0)), (.p (.bool false)), (.p (.str [])), (.full []), (.p (.int .i64 0))] H fun v257 h258 =>
  (aLoad true 7 v231 h258 fun v259 =>
  aCall Tryz.prog (.p (.func ver_Stack_typ_Type_Twin_i [])) [v229] h258 fun v260 h261 =>
  aStore 7 v257 v259 h261 fun _ h263 =>
  self ver_checker_place_c2 (keepS [0, 1, 5, 6, 9999] 0 (j0 :: j1 :: .top :: .top :: (.p (.int .i64 0)) :: v257 :: v260 :: .top :: .top :: .top :: .top :: .top :: .top :: .top :: j0 :: v0 :: v1 :: v230 :: j1 :: v231 :: v259 :: j0 :: v2 :: v3 :: v147 :: j1 :: v148 :: v229 :: v260 :: .top :: .top :: .top :: .top :: .top :: .top :: .top :: .top :: .top :: .top :: .top :: .top :: .top :: .top :: .top :: .top :: .top :: .top :: .top :: .top :: .top :: .top :: .top :: .top :: .top :: .top :: .top :: .top :: .top :: .top :: .top :: .top :: .top :: .top :: .top :: .top :: .top :: .top :: .top :: .top :: .top :: .top :: .top :: .top :: .top :: .top :: .top :: .top :: .top :: .top :: .top :: .top :: .top :: .top :: .top :: .top :: .top :: .top :: .top :: .top :: .top :: .top :: .top :: .top :: .top :: .top :: .top :: .top :: .top :: .top :: .top :: .top :: .top :: .top :: .top :: .top :: .top :: .top :: .top :: .top :: .top :: .top :: .top :: .top :: .top :: .top :: .top :: .top :: [])) h263 kp) ∧
  (aCall Tryz.prog (.p (.func ver_Stack_typ_Type_Twin_i [])) [v229] h258 fun v264 h265 =>
  aLoad true 7 v231 h265 fun v266 =>
  aStore 7 v257 v266 h265 fun _ h268 =>
  self ver_checker_place_c2 (keepS [0, 1, 5, 6, 9999] 0 (j0 :: j1 :: .top :: .top :: (.p (.int .i64 0)) :: v257 :: v264 :: .top :: .top :: .top :: .top :: .top :: .top :: .top :: j0 :: v0 :: v1 :: v230 :: j1 :: v231 :: v266 :: j0 :: v2 :: v3 :: v147 :: j1 :: v148 :: v229 :: v264 :: .top :: .top :: .top :: .top :: .top :: .top :: .top :: .top :: .top :: .top :: .top :: .top :: .top :: .top :: .top :: .top :: .top :: .top :: .top :: .top :: .top :: .top :: .top :: .top :: .top :: .top :: .top :: .top :: .top :: .top :: .top :: .top :: .top :: .top :: .top :: .top :: .top :: .top :: .top :: .top :: .top :: .top :: .top :: .top :: .top :: .top :: .top :: .top :: .top :: .top :: .top :: .top :: .top :: .top :: .top :: .top :: .top :: .top :: .top :: .top :: .top :: .top :: .top :: .top :: .top :: .top :: .top :: .top :: .top :: .top :: .top :: .top :: .top :: .top :: .top :: .top :: .top :: .top :: .top :: .top :: .top :: .top :: .top :: .top :: .top :: .top :: .top :: .top :: [])) h268 kp))) ∧
  (aCall Tryz.prog (.p (.func ver_Stack_typ_Type_Twin_i [])) [v229] H fun v269 h270 =>
  (aLoad false 1 v1 h270 fun v271 =>
  aIndexAddr 7 v271 j1 fun v272 =>
  (aLoad true 7 v272 h270 fun v273 =>
  aAlloc [(.p (.str [])), (.p (.int .i64 0)), (.p (.int .i64 0)), (.p (.bool false)), (.p (.str [])), (.full []), (.p (.int .i64 0))] h270 fun v274 h275 =>
  aStore 7 v274 v273 h275 fun _ h277 =>
  self ver_checker_place_c2 (keepS [0, 1, 5, 6, 9999] 0 (j0 :: j1 :: .top :: .top :: (.p (.int .i64 0)) :: v274 :: v269 :: .top :: .top :: .top :: .top :: .top :: .top :: .top :: j0 :: v0 :: v1 :: v271 :: j1 :: v272 :: v273 :: j0 :: v2 :: v3 :: v147 :: j1 :: v148 :: v229 :: v269 :: .top :: .top :: .top :: .top :: .top :: .top :: .top :: .top :: .top :: .top :: .top :: .top :: .top :: .top :: .top :: .top :: .top :: .top :: .top :: .top :: .top :: .top :: .top :: .top :: .top :: .top :: .top :: .top :: .top :: .top :: .top :: .top :: .top :: .top :: .top :: .top :: .top :: .top :: .top :: .top :: .top :: .top :: .top :: .top :: .top :: .top :: .top :: .top :: .top :: .top :: .top :: .top :: .top :: .top :: .top :: .top :: .top :: .top :: .top :: .top :: .top :: .top :: .top :: .top :: .top :: .top :: .top :: .top :: .top :: .top :: .top :: .top :: .top :: .top :: .top :: .top :: .top :: .top :: .top :: .top :: .top :: .top :: .top :: .top :: .top :: .top :: .top :: .top :: [])) h277 kp) ∧
  (aAlloc [(.p (.str [])), (.p (.int .i64 0)), (.p (.int .i64 0)), (.p (.bool false)), (.p (.str [])), (.full []), (.p (.int .i64 0))] h270 fun v278 h279 =>
  aLoad true 7 v272 h279 fun v280 =>
  aStore 7 v278 v280 h279 fun _ h282 =>
  self ver_checker_place_c2 (keepS [0, 1, 5, 6, 9999] 0 (j0 :: j1 :: .top :: .top :: (.p (.int .i64 0)) :: v278 :: v269 :: .top :: .top :: .top :: .top :: .top :: .top :: .top :: j0 :: v0 :: v1 :: v271 :: j1 :: v272 :: v280 :: j0 :: v2 :: v3 :: v147 :: j1 :: v148 :: v229 :: v269 :: .top :: .top :: .top :: .top :: .top :: .top :: .top :: .top :: .top :: .top :: .top :: .top :: .top :: .top :: .top :: .top :: .top :: .top :: .top :: .top :: .top :: .top :: .top :: .top :: .top :: .top :: .top :: .top :: .top :: .top :: .top :: .top :: .top :: .top :: .top :: .top :: .top :: .top :: .top :: .top :: .top :: .top :: .top :: .top :: .top :: .top :: .top :: .top :: .top :: .top :: .top :: .top :: .top :: .top :: .top :: .top :: .top :: .top :: .top :: .top :: .top :: .top :: .top :: .top :: .top :: .top :: .top :: .top :: .top :: .top :: .top :: .top :: .top :: .top :: .top :: .top :: .top :: .top :: .top :: .top :: .top :: .top :: .top :: .top :: .top :: .top :: .top :: .top :: [])) h282 kp)) ∧
  (aAlloc [(.p (.str [])), (.p (.int .i64 0)), (.p (.int .i64 0)), (.p (.bool false)), (.p (.str [])), (.full []), (.p (.int .i64 0))] h270 fun v283 h284 =>
  aLoad false 1 v1 h284 fun v285 =>
  aIndexAddr 7 v285 j1 fun v286 =>
  aLoad true 7 v286 h284 fun v287 =>
  aStore 7 v283 v287 h284 fun _ h289 =>
  self ver_checker_place_c2 (keepS [0, 1, 5, 6, 9999] 0 (j0 :: j1 :: .top :: .top :: (.p (.int .i64 0)) :: v283 :: v269 :: .top :: .top :: .top :: .top :: .top :: .top :: .top :: j0 :: v0 :: v1 :: v285 :: j1 :: v286 :: v287 :: j0 :: v2 :: v3 :: v147 :: j1 :: v148 :: v229 :: v269 :: .top :: .top :: .top :: .top :: .top :: .top :: .top :: .top :: .top :: .top :: .top :: .top :: .top :: .top :: .top :: .top :: .top :: .top :: .top :: .top :: .top :: .top :: .top :: .top :: .top :: .top :: .top :: .top :: .top :: .top :: .top :: .top :: .top :: .top :: .top :: .top :: .top :: .top :: .top :: .top :: .top :: .top :: .top :: .top :: .top :: .top :: .top :: .top :: .top :: .top :: .top :: .top :: .top :: .top :: .top :: .top :: .top :: .top :: .top :: .top :: .top :: .top :: .top :: .top :: .top :: .top :: .top :: .top :: .top :: .top :: .top :: .top :: .top :: .top :: .top :: .top :: .top :: .top :: .top :: .top :: .top :: .top :: .top :: .top :: .top :: .top :: .top :: .top :: [])) h289 kp)) ∧
  (aAlloc [(.p (.str [])), (.p (.int .i64 0)), (.p (.int .i64 0)), (.p (.bool false)), (.p (.str [])), (.full []), (.p (.int .i64 0))] H fun v290 h291 =>
  (aLoad false 1 v1 h291 fun v292 =>
  aIndexAddr 7 v292 j1 fun v293 =>
  (aLoad true 7 v293 h291 fun v294 =>
  aCall Tryz.prog (.p (.func ver_Stack_typ_Type_Twin_i [])) [v229] h291 fun v295 h296 =>
  aStore 7 v290 v294 h296 fun _ h298 =>
  self ver_checker_place_c2 (keepS [0, 1, 5, 6, 9999] 0 (j0 :: j1 :: .top :: .top :: (.p (.int .i64 0)) :: v290 :: v295 :: .top :: .top :: .top :: .top :: .top :: .top :: .top :: j0 :: v0 :: v1 :: v292 :: j1 :: v293 :: v294 :: j0 :: v2 :: v3 :: v147 :: j1 :: v148 :: v229 :: v295 :: .top :: .top :: .top :: .top :: .top :: .top :: .top :: .top :: .top :: .top :: .top :: .top :: .top :: .top :: .top :: .top :: .top :: .top :: .top :: .top :: .top :: .top :: .top :: .top :: .top :: .top :: .top :: .top :: .top :: .top :: .top :: .top :: .top :: .top :: .top :: .top :: .top :: .top :: .top :: .top :: .top :: .top :: .top :: .top :: .top :: .top :: .top :: .top :: .top :: .top :: .top :: .top :: .top :: .top :: .top :: .top :: .top :: .top :: .top :: .top :: .top :: .top :: .top :: .top :: .top :: .top :: .top :: .top :: .top :: .top :: .top :: .top :: .top :: .top :: .top :: .top :: .top :: .top :: .top :: .top :: .top :: .top :: .top :: .top :: .top :: .top :: .top :: .top :: [])) h298 kp) ∧
  (aCall Tryz.prog (.p (.func ver_Stack_typ_Type_Twin_i [])) [v229] h291 fun v299 h300 =>
  aLoad true 7 v293 h300 fun v301 =>
  aStore 7 v290 v301 h300 fun _ h303 =>
  self ver_checker_place_c2 (keepS [0, 1, 5, 6, 9999] 0 (j0 :: j1 :: .top :: .top :: (.p (.int .i64 0)) :: v290 :: v299 :: .top :: .top :: .top :: .top :: .top :: .top :: .top :: j0 :: v0 :: v1 :: v292 :: j1 :: v293 :: v301 :: j0 :: v2 :: v3 :: v147 :: j1 :: v148 :: v229 :: v299 :: .top :: .top :: .top :: .top :: .top :: .top :: .top :: .top :: .top :: .top :: .top :: .top :: .top :: .top :: .top :: .top :: .top :: .top :: .top :: .top :: .top :: .top :: .top :: .top :: .top :: .top :: .top :: .top :: .top :: .top :: .top :: .top :: .top :: .top :: .top :: .top :: .top :: .top :: .top :: .top :: .top :: .top :: .top :: .top :: .top :: .top :: .top :: .top :: .top :: .top :: .top :: .top :: .top :: .top :: .top :: .top :: .top :: .top :: .top :: .top :: .top :: .top :: .top :: .top :: .top :: .top :: .top :: .top :: .top :: .top :: .top :: .top :: .top :: .top :: .top :: .top :: .top :: .top :: .top :: .top :: .top :: .top :: .top :: .top :: .top :: .top :: .top :: .top :: [])) h303 kp)) ∧
  (aCall Tryz.prog (.p (.func ver_Stack_typ_Type_Twin_i [])) [v229] h291 fun v304 h305 =>
  aLoad false 1 v1 h305 fun v306 =>
  aIndexAddr 7 v306 j1 fun v307 =>
  aLoad true 7 v307 h305 fun v308 =>
  aStore 7 v290 v308 h305 fun _ h310 =>
  self ver_checker_place_c2 (keepS [0, 1, 5, 6, 9999] 0 (j0 :: j1 :: .top :: .top :: (.p (.int .i64 0)) :: v290 :: v304 :: .top :: .top :: .top :: .top :: .top :: .top :: .top :: j0 :: v0 :: v1 :: v306 :: j1 :: v307 :: v308 :: j0 :: v2 :: v3 :: v147 :: j1 :: v148 :: v229 :: v304 :: .top :: .top :: .top :: .top :: .top :: .top :: .top :: .top :: .top :: .top :: .top :: .top :: .top :: .top :: .top :: .top :: .top :: .top :: .top :: .top :: .top :: .top :: .top :: .top :: .top :: .top :: .top :: .top :: .top :: .top :: .top :: .top :: .top :: .top :: .top :: .top :: .top :: .top :: .top :: .top :: .top :: .top :: .top :: .top :: .top :: .top :: .top :: .top :: .top :: .top :: .top :: .top :: .top :: .top :: .top :: .top :: .top :: .top :: .top :: .top :: .top :: .top :: .top :: .top :: .top :: .top :: .top :: .top :: .top :: .top :: .top :: .top :: .top :: .top :: .top :: .top :: .top :: .top :: .top :: .top :: .top :: .top :: .top :: .top :: .top :: .top :: .top :: .top :: [])) h310 kp))) ∧
  (aAlloc [(.p (.str [])), (.p (.int .i64 0)), (.p (.int .i64 0)), (.p (.bool false)), (.p (.str [])), (.full []), (.p (.int .i64 0))] H fun v311 h312 =>
  (aLoad false 1 v1 h312 fun v313 =>
  aIndexAddr 7 v313 j1 fun v314 =>
  (aLoad true 7 v314 h312 fun v315 =>
  aLoad false 1 v148 h312 fun v316 =>
  aCall Tryz.prog (.p (.func ver_Stack_typ_Type_Twin_i [])) [v316] h312 fun v317 h318 =>
  aStore 7 v311 v315 h318 fun _ h320 =>
  self ver_checker_place_c2 (keepS [0, 1, 5, 6, 9999] 0 (j0 :: j1 :: .top :: .top :: (.p (.int .i64 0)) :: v311 :: v317 :: .top :: .top :: .top :: .top :: .top :: .top :: .top :: j0 :: v0 :: v1 :: v313 :: j1 :: v314 :: v315 :: j0 :: v2 :: v3 :: v147 :: j1 :: v148 :: v316 :: v317 :: .top :: .top :: .top :: .top :: .top :: .top :: .top :: .top :: .top :: .top :: .top :: .top :: .top :: .top :: .top :: .top :: .top :: .top :: .top :: .top :: .top :: .top :: .top :: .top :: .top :: .top :: .top :: .top :: .top :: .top :: .top :: .top :: .top :: .top :: .top :: .top :: .top :: .top :: .top :: .top :: .top :: .top :: .top :: .top :: .top :: .top :: .top :: .top :: .top :: .top :: .top :: .top :: .top :: .top :: .top :: .top :: .top :: .top :: .top :: .top :: .top :: .top :: .top :: .top :: .top :: .top :: .top :: .top :: .top :: .top :: .top :: .top :: .top :: .top :: .top :: .top :: .top :: .top :: .top :: .top :: .top :: .top :: .top :: .top :: .top :: .top :: .top :: .top :: [])) h320 kp) ∧
  (aLoad false 1 v148 h312 fun v321 =>
  (aLoad true 7 v314 h312 fun v322 =>
  aCall Tryz.prog (.p (.func ver_Stack_typ_Type_Twin_i [])) [v321] h312 fun v323 h324 =>
  aStore 7 v311 v322 h324 fun _ h326 =>
  self ver_checker_place_c2 (keepS [0, 1, 5, 6, 9999] 0 (j0 :: j1 :: .top :: .top :: (.p (.int .i64 0)) :: v311 :: v323 :: .top :: .top :: .top :: .top :: .top :: .top :: .top :: j0 :: v0 :: v1 :: v313 :: j1 :: v314 :: v322 :: j0 :: v2 :: v3 :: v147 :: j1 :: v148 :: v321 :: v323 :: .top :: .top :: .top :: .top :: .top :: .top :: .top :: .top :: .top :: .top :: .top :: .top :: .top :: .top :: .top :: .top :: .top :: .top :: .top :: .top :: .top :: .top :: .top :: .top :: .top :: .top :: .top :: .top :: .top :: .top :: .top :: .top :: .top :: .top :: .top :: .top :: .top :: .top :: .top :: .top :: .top :: .top :: .top :: .top :: .top :: .top :: .top :: .top :: .top :: .top :: .top :: .top :: .top :: .top :: .top :: .top :: .top :: .top :: .top :: .top :: .top :: .top :: .top :: .top :: .top :: .top :: .top :: .top :: .top :: .top :: .top :: .top :: .top :: .top :: .top :: .top :: .top :: .top :: .top :: .top :: .top :: .top :: .top :: .top :: .top :: .top :: .top :: .top :: [])) h326 kp) ∧
  (aCall Tryz.prog (.p (.func ver_Stack_typ_Type_Twin_i [])) [v321] h312 fun v327 h328 =>
  aLoad true 7 v314 h328 fun v329 =>
  aStore 7 v311 v329 h328 fun _ h331 =>
  self ver_checker_place_c2 (keepS [0, 1, 5, 6, 9999] 0 (j0 :: j1 :: .top :: .top :: (.p (.int .i64 0)) :: v311 :: v327 :: .top :: .top :: .top :: .top :: .top :: .top :: .top :: j0 :: v0 :: v1 :: v313 :: j1 :: v314 :: v329 :: j0 :: v2 :: v3 :: v147 :: j1 :: v148 :: v321 :: v327 :: .top :: .top :: .top :: .top :: .top :: .top :: .top :: .top :: .top :: .top :: .top :: .top :: .top :: .top :: .top :: .top :: .top :: .top :: .top :: .top :: .top :: .top :: .top :: .top :: .top :: .top :: .top :: .top :: .top :: .top :: .top :: .top :: .top :: .top :: .top :: .top :: .top :: .top :: .top :: .top :: .top :: .top :: .top :: .top :: .top :: .top :: .top :: .top :: .top :: .top :: .top :: .top :: .top :: .top :: .top :: .top :: .top :: .top :: .top :: .top :: .top :: .top :: .top :: .top :: .top :: .top :: .top :: .top :: .top :: .top :: .top :: .top :: .top :: .top :: .top :: .top :: .top :: .top :: .top :: .top :: .top :: .top :: .top :: .top :: .top :: .top :: .top :: .top :: [])) h331 kp))) ∧
  (aLoad false 1 v148 h312 fun v332 =>
  (aLoad false 1 v1 h312 fun v333 =>
  aIndexAddr 7 v333 j1 fun v334 =>
  (aLoad true 7 v334 h312 fun v335 =>
  aCall Tryz.prog (.p (.func ver_Stack_typ_Type_Twin_i [])) [v332] h312 fun v336 h337 =>
  aStore 7 v311 v335 h337 fun _ h339 =>
  self ver_checker_place_c2 (keepS [0, 1, 5, 6, 9999] 0 (j0 :: j1 :: .top :: .top :: (.p (.int .i64 0)) :: v311 :: v336 :: .top :: .top :: .top :: .top :: .top :: .top :: .top :: j0 :: v0 :: v1 :: v333 :: j1 :: v334 :: v335 :: j0 :: v2 :: v3 :: v147 :: j1 :: v148 :: v332 :: v336 :: .top :: .top :: .top :: .top :: .top :: .top :: .top :: .top :: .top :: .top :: .top :: .top :: .top :: .top :: .top :: .top :: .top :: .top :: .top :: .top :: .top :: .top :: .top :: .top :: .top :: .top :: .top :: .top :: .top :: .top :: .top :: .top :: .top :: .top :: .top :: .top :: .top :: .top :: .top :: .top :: .top :: .top :: .top :: .top :: .top :: .top :: .top :: .top :: .top :: .top :: .top :: .top :: .top :: .top :: .top :: .top :: .top :: .top :: .top :: .top :: .top :: .top :: .top :: .top :: .top :: .top :: .top :: .top :: .top :: .top :: .top :: .top :: .top :: .top :: .top :: .top :: .top :: .top :: .top :: .top :: .top :: .top :: .top :: .top :: .top :: .top :: .top :: .top :: [])) h339 kp) ∧
  (aCall Tryz.prog (.p (.func ver_Stack_typ_Type_Twin_i [])) [v332] h312 fun v340 h341 =>
  aLoad true 7 v334 h341 fun v342 =>
  aStore 7 v311 v342 h341 fun _ h344 =>
  self ver_checker_place_c2 (keepS [0, 1, 5, 6, 9999] 0 (j0 :: j1 :: .top :: .top :: (.p (.int .i64 0)) :: v311 :: v340 :: .top :: .top :: .top :: .top :: .top :: .top :: .top :: j0 :: v0 :: v1 :: v333 :: j1 :: v334 :: v342 :: j0 :: v2 :: v3 :: v147 :: j1 :: v148 :: v332 :: v340 :: .top :: .top :: .top :: .top :: .top :: .top :: .top :: .top :: .top :: .top :: .top :: .top :: .top :: .top :: .top :: .top :: .top :: .top :: .top :: .top :: .top :: .top :: .top :: .top :: .top :: .top :: .top :: .top :: .top :: .top :: .top :: .top :: .top :: .top :: .top :: .top :: .top :: .top :: .top :: .top :: .top :: .top :: .top :: .top :: .top :: .top :: .top :: .top :: .top :: .top :: .top :: .top :: .top :: .top :: .top :: .top :: .top :: .top :: .top :: .top :: .top :: .top :: .top :: .top :: .top :: .top :: .top :: .top :: .top :: .top :: .top :: .top :: .top :: .top :: .top :: .top :: .top :: .top :: .top :: .top :: .top :: .top :: .top :: .top :: .top :: .top :: .top :: .top :: [])) h344 kp)) ∧
  (aCall Tryz.prog (.p (.func ver_Stack_typ_Type_Twin_i [])) [v332] h312 fun v345 h346 =>
  aLoad false 1 v1 h346 fun v347 =>
  aIndexAddr 7 v347 j1 fun v348 =>
  aLoad true 7 v348 h346 fun v349 =>
  aStore 7 v311 v349 h346 fun _ h351 =>
  self ver_checker_place_c2 (keepS [0, 1, 5, 6, 9999] 0 (j0 :: j1 :: .top :: .top :: (.p (.int .i64 0)) :: v311 :: v345 :: .top :: .top :: .top :: .top :: .top :: .top :: .top :: j0 :: v0 :: v1 :: v347 :: j1 :: v348 :: v349 :: j0 :: v2 :: v3 :: v147 :: j1 :: v148 :: v332 :: v345 :: .top :: .top :: .top :: .top :: .top :: .top :: .top :: .top :: .top :: .top :: .top :: .top :: .top :: .top :: .top :: .top :: .top :: .top :: .top :: .top :: .top :: .top :: .top :: .top :: .top :: .top :: .top :: .top :: .top :: .top :: .top :: .top :: .top :: .top :: .top :: .top :: .top :: .top :: .top :: .top :: .top :: .top :: .top :: .top :: .top :: .top :: .top :: .top :: .top :: .top :: .top :: .top :: .top :: .top :: .top :: .top :: .top :: .top :: .top :: .top :: .top :: .top :: .top :: .top :: .top :: .top :: .top :: .top :: .top :: .top :: .top :: .top :: .top :: .top :: .top :: .top :: .top :: .top :: .top :: .top :: .top :: .top :: .top :: .top :: .top :: .top :: .top :: .top :: [])) h351 kp)))) ∧
  (aAlloc [(.p (.str [])), (.p (.int .i64 0)), (.p (.int .i64 0)), (.p (.bool false)), (.p (.str [])), (.full []), (.p (.int .i64 0))] H fun v352 h353 =>
  (aLoad false 1 v1 h353 fun v354 =>
  aIndexAddr 7 v354 j1 fun v355 =>
  (aLoad true 7 v355 h353 fun v356 =>
  aLoad false 1 v3 h353 fun v357 =>
  aIndexAddr 1 v357 j1 fun v358 =>
  aLoad false 1 v358 h353 fun v359 =>
  aCall Tryz.prog (.p (.func ver_Stack_typ_Type_Twin_i [])) [v359] h353 fun v360 h361 =>
  aStore 7 v352 v356 h361 fun _ h363 =>
  self ver_checker_place_c2 (keepS [0, 1, 5, 6, 9999] 0 (j0 :: j1 :: .top :: .top :: (.p (.int .i64 0)) :: v352 :: v360 :: .top :: .top :: .top :: .top :: .top :: .top :: .top :: j0 :: v0 :: v1 :: v354 :: j1 :: v355 :: v356 :: j0 :: v2 :: v3 :: v357 :: j1 :: v358 :: v359 :: v360 :: .top :: .top :: .top :: .top :: .top :: .top :: .top :: .top :: .top :: .top :: .top :: .top :: .top :: .top :: .top :: .top :: .top :: .top :: .top :: .top :: .top :: .top :: .top :: .top :: .top :: .top :: .top :: .top :: .top :: .top :: .top :: .top :: .top :: .top :: .top :: .top :: .top :: .top :: .top :: .top :: .top :: .top :: .top :: .top :: .top :: .top :: .top :: .top :: .top :: .top :: .top :: .top :: .top :: .top :: .top :: .top :: .top :: .top :: .top :: .top :: .top :: .top :: .top :: .top :: .top :: .top :: .top :: .top :: .top :: .top :: .top :: .top :: .top :: .top :: .top :: .top :: .top :: .top :: .top :: .top :: .top :: .top :: .top :: .top :: .top :: .top :: .top :: .top :: [])) h363 kp) ∧
  (aLoad false 1 v3 h353 fun v364 =>
  aIndexAddr 1 v364 j1 fun v365 =>
  (aLoad true 7 v355 h353 fun v366 =>
  aLoad false 1 v365 h353 fun v367 =>
  aCall Tryz.prog (.p (.func ver_Stack_typ_Type_Twin_i [])) [v367] h353 fun v368 h369 =>
  aStore 7 v352 v366 h369 fun _ h371 =>
  self ver_checker_place_c2 (keepS [0, 1, 5, 6, 9999] 0 (j0 :: j1 :: .top :: .top :: (.p (.int .i64 0)) :: v352 :: v368 :: .top :: .top :: .top :: .top :: .top :: .top :: .top :: j0 :: v0 :: v1 :: v354 :: j1 :: v355 :: v366 :: j0 :: v2 :: v3 :: v364 :: j1 :: v365 :: v367 :: v368 :: .top :: .top :: .top :: .top :: .top :: .top :: .top :: .top :: .top :: .top :: .top :: .top :: .top :: .top :: .top :: .top :: .top :: .top :: .top :: .top :: .top :: .top :: .top :: .top :: .top :: .top :: .top :: .top :: .top :: .top :: .top :: .top :: .top :: .top :: .top :: .top :: .top :: .top :: .top :: .top :: .top :: .top :: .top :: .top :: .top :: .top :: .top :: .top :: .top :: .top :: .top :: .top :: .top :: .top :: .top :: .top :: .top :: .top :: .top :: .top :: .top :: .top :: .top :: .top :: .top :: .top :: .top :: .top :: .top :: .top :: .top :: .top :: .top :: .top :: .top :: .top :: .top :: .top :: .top :: .top :: .top :: .top :: .top :: .top :: .top :: .top :: .top :: .top :: [])) h371 kp) ∧
  (aLoad false 1 v365 h353 fun v372 =>
  (aLoad true 7 v355 h353 fun v373 =>
  aCall Tryz.prog (.p (.func ver_Stack_typ_Type_Twin_i [])) [v372] h353 fun v374 h375 =>
  aStore 7 v352 v373 h375 fun _ h377 =>
  self ver_checker_place_c2 (keepS [0, 1, 5, 6, 9999] 0 (j0 :: j1 :: .top :: .top :: (.p (.int .i64 0)) :: v352 :: v374 :: .top :: .top :: .top :: .top :: .top :: .top :: .top :: j0 :: v0 :: v1 :: v354 :: j1 :: v355 :: v373 :: j0 :: v2 :: v3 :: v364 :: j1 :: v365 :: v372 :: v374 :: .top :: .top :: .top :: .top :: .top :: .top :: .top :: .top :: .top :: .top :: .top :: .top :: .top :: .top :: .top :: .top :: .top :: .top :: .top :: .top :: .top :: .top :: .top :: .top :: .top :: .top :: .top :: .top :: .top :: .top :: .top :: .top :: .top :: .top :: .top :: .top :: .top :: .top :: .top :: .top :: .top :: .top :: .top :: .top :: .top :: .top :: .top :: .top :: .top :: .top :: .top :: .top :: .top :: .top :: .top :: .top :: .top :: .top :: .top :: .top :: .top :: .top :: .top :: .top :: .top :: .top :: .top :: .top :: .top :: .top :: .top :: .top :: .top :: .top :: .top :: .top :: .top :: .top :: .top :: .top :: .top :: .top :: .top :: .top :: .top :: .top :: .top :: .top :: [])) h377 kp) ∧
  (aCall Tryz.prog (.p (.func ver_Stack_typ_Type_Twin_i [])) [v372] h353 fun v378 h379 =>
  aLoad true 7 v355 h379 fun v380 =>
  aStore 7 v352 v380 h379 fun _ h382 =>
  self ver_checker_place_c2 (keepS [0, 1, 5, 6, 9999] 0 (j0 :: j1 :: .top :: .top :: (.p (.int .i64 0)) :: v352 :: v378 :: .top :: .top :: .top :: .top :: .top :: .top :: .top :: j0 :: v0 :: v1 :: v354 :: j1 :: v355 :: v380 :: j0 :: v2 :: v3 :: v364 :: j1 :: v365 :: v372 :: v378 :: .top :: .top :: .top :: .top :: .top :: .top :: .top :: .top :: .top :: .top :: .top :: .top :: .top :: .top :: .top :: .top :: .top :: .top :: .top :: .top :: .top :: .top :: .top :: .top :: .top :: .top :: .top :: .top :: .top :: .top :: .top :: .top :: .top :: .top :: .top :: .top :: .top :: .top :: .top :: .top :: .top :: .top :: .top :: .top :: .top :: .top :: .top :: .top :: .top :: .top :: .top :: .top :: .top :: .top :: .top :: .top :: .top :: .top :: .top :: .top :: .top :: .top :: .top :: .top :: .top :: .top :: .top :: .top :: .top :: .top :: .top :: .top :: .top :: .top :: .top :: .top :: .top :: .top :: .top :: .top :: .top :: .top :: .top :: .top :: .top :: .top :: .top :: .top :: [])) h382 kp)))) ∧
  (aLoad false 1 v3 h353 fun v383 =>
  aIndexAddr 1 v383 j1 fun v384 =>
  (aLoad false 1 v1 h353 fun v385 =>
  aIndexAddr 7 v385 j1 fun v386 =>
  (aLoad true 7 v386 h353 fun v387 =>
  aLoad false 1 v384 h353 fun v388 =>
  aCall Tryz.prog (.p (.func ver_Stack_typ_Type_Twin_i [])) [v388] h353 fun v389 h390 =>
  aStore 7 v352 v387 h390 fun _ h392 =>
  self ver_checker_place_c2 (keepS [0, 1, 5, 6, 9999] 0 (j0 :: j1 :: .top :: .top :: (.p (.int .i64 0)) :: v352 :: v389 :: .top :: .top :: .top :: .top :: .top :: .top :: .top :: j0 :: v0 :: v1 :: v385 :: j1 :: v386 :: v387 :: j0 :: v2 :: v3 :: v383 :: j1 :: v384 :: v388 :: v389 :: .top :: .top :: .top :: .top :: .top :: .top :: .top :: .top :: .top :: .top :: .top :: .top :: .top :: .top :: .top :: .top :: .top :: .top :: .top :: .top :: .top :: .top :: .top :: .top :: .top :: .top :: .top :: .top :: .top :: .top :: .top :: .top :: .top :: .top :: .top :: .top :: .top :: .top :: .top :: .top :: .top :: .top :: .top :: .top :: .top :: .top :: .top :: .top :: .top :: .top :: .top :: .top :: .top :: .top :: .top :: .top :: .top :: .top :: .top :: .top :: .top :: .top :: .top :: .top :: .top :: .top :: .top :: .top :: .top :: .top :: .top :: .top :: .top :: .top :: .top :: .top :: .top :: .top :: .top :: .top :: .top :: .top :: .top :: .top :: .top :: .top :: .top :: .top :: [])) h392 kp) ∧
  (aLoad false 1 v384 h353 fun v393 =>
  (aLoad true 7 v386 h353 fun v394 =>
  aCall Tryz.prog (.p (.func ver_Stack_typ_Type_Twin_i [])) [v393] h353 fun v395 h396 =>
  aStore 7 v352 v394 h396 fun _ h398 =>
  self ver_checker_place_c2 (keepS [0, 1, 5, 6, 9999] 0 (j0 :: j1 :: .top :: .top :: (.p (.int .i64 0)) :: v352 :: v395 :: .top :: .top :: .top :: .top :: .top :: .top :: .top :: j0 :: v0 :: v1 :: v385 :: j1 :: v386 :: v394 :: j0 :: v2 :: v3 :: v383 :: j1 :: v384 :: v393 :: v395 :: .top :: .top :: .top :: .top :: .top :: .top :: .top :: .top :: .top :: .top :: .top :: .top :: .top :: .top :: .top :: .top :: .top :: .top :: .top :: .top :: .top :: .top :: .top :: .top :: .top :: .top :: .top :: .top :: .top :: .top :: .top :: .top :: .top :: .top :: .top :: .top :: .top :: .top :: .top :: .top :: .top :: .top :: .top :: .top :: .top :: .top :: .top :: .top :: .top :: .top :: .top :: .top :: .top :: .top :: .top :: .top :: .top :: .top :: .top :: .top :: .top :: .top :: .top :: .top :: .top :: .top :: .top :: .top :: .top :: .top :: .top :: .top :: .top :: .top :: .top :: .top :: .top :: .top :: .top :: .top :: .top :: .top :: .top :: .top :: .top :: .top :: .top :: .top :: [])) h398 kp) ∧
  (aCall Tryz.prog (.p (.func ver_Stack_typ_Type_Twin_i [])) [v393] h353 fun v399 h400 =>
  aLoad true 7 v386 h400 fun v401 =>
  aStore 7 v352 v401 h400 fun _ h403 =>
  self ver_checker_place_c2 (keepS [0, 1, 5, 6, 9999] 0 (j0 :: j1 :: .top :: .top :: (.p (.int .i64 0)) :: v352 :: v399 :: .top :: .top :: .top :: .top :: .top :: .top :: .top :: j0 :: v0 :: v1 :: v385 :: j1 :: v386 :: v401 :: j0 :: v2 :: v3 :: v383 :: j1 :: v384 :: v393 :: v399 :: .top :: .top :: .top :: .top :: .top :: .top :: .top :: .top :: .top :: .top :: .top :: .top :: .top :: .top :: .top :: .top :: .top :: .top :: .top :: .top :: .top :: .top :: .top :: .top :: .top :: .top :: .top :: .top :: .top :: .top :: .top :: .top :: .top :: .top :: .top :: .top :: .top :: .top :: .top :: .top :: .top :: .top :: .top :: .top :: .top :: .top :: .top :: .top :: .top :: .top :: .top :: .top :: .top :: .top :: .top :: .top :: .top :: .top :: .top :: .top :: .top :: .top :: .top :: .top :: .top :: .top :: .top :: .top :: .top :: .top :: .top :: .top :: .top :: .top :: .top :: .top :: .top :: .top :: .top :: .top :: .top :: .top :: .top :: .top :: .top :: .top :: .top :: .top :: [])) h403 kp))) ∧
  (aLoad false 1 v384 h353 fun v404 =>
  (aLoad false 1 v1 h353 fun v405 =>
  aIndexAddr 7 v405 j1 fun v406 =>
  (aLoad true 7 v406 h353 fun v407 =>
  aCall Tryz.prog (.p (.func ver_Stack_typ_Type_Twin_i [])) [v404] h353 fun v408 h409 =>
  aStore 7 v352 v407 h409 fun _ h411 =>
  self ver_checker_place_c2 (keepS [0, 1, 5, 6, 9999] 0 (j0 :: j1 :: .top :: .top :: (.p (.int .i64 0)) :: v352 :: v408 :: .top :: .top :: .top :: .top :: .top :: .top :: .top :: j0 :: v0 :: v1 :: v405 :: j1 :: v406 :: v407 :: j0 :: v2 :: v3 :: v383 :: j1 :: v384 :: v404 :: v408 :: .top :: .top :: .top :: .top :: .top :: .top :: .top :: .top :: .top :: .top :: .top :: .top :: .top :: .top :: .top :: .top :: .top :: .top :: .top :: .top :: .top :: .top :: .top :: .top :: .top :: .top :: .top :: .top :: .top :: .top :: .top :: .top :: .top :: .top :: .top :: .top :: .top :: .top :: .top :: .top :: .top :: .top :: .top :: .top :: .top :: .top :: .top :: .top :: .top :: .top :: .top :: .top :: .top :: .top :: .top :: .top :: .top :: .top :: .top :: .top :: .top :: .top :: .top :: .top :: .top :: .top :: .top :: .top :: .top :: .top :: .top :: .top :: .top :: .top :: .top :: .top :: .top :: .top :: .top :: .top :: .top :: .top :: .top :: .top :: .top :: .top :: .top :: .top :: [])) h411 kp) ∧
  (aCall Tryz.prog (.p (.func ver_Stack_typ_Type_Twin_i [])) [v404] h353 fun v412 h413 =>
  aLoad true 7 v406 h413 fun v414 =>
  aStore 7 v352 v414 h413 fun _ h416 =>
  self ver_checker_place_c2 (keepS [0, 1, 5, 6, 9999] 0 (j0 :: j1 :: .top :: .top :: (.p (.int .i64 0)) :: v352 :: v412 :: .top :: .top :: .top :: .top :: .top :: .top :: .top :: j0 :: v0 :: v1 :: v405 :: j1 :: v406 :: v414 :: j0 :: v2 :: v3 :: v383 :: j1 :: v384 :: v404 :: v412 :: .top :: .top :: .top :: .top :: .top :: .top :: .top :: .top :: .top :: .top :: .top :: .top :: .top :: .top :: .top :: .top :: .top :: .top :: .top :: .top :: .top :: .top :: .top :: .top :: .top :: .top :: .top :: .top :: .top :: .top :: .top :: .top :: .top :: .top :: .top :: .top :: .top :: .top :: .top :: .top :: .top :: .top :: .top :: .top :: .top :: .top :: .top :: .top :: .top :: .top :: .top :: .top :: .top :: .top :: .top :: .top :: .top :: .top :: .top :: .top :: .top :: .top :: .top :: .top :: .top :: .top :: .top :: .top :: .top :: .top :: .top :: .top :: .top :: .top :: .top :: .top :: .top :: .top :: .top :: .top :: .top :: .top :: .top :: .top :: .top :: .top :: .top :: .top :: [])) h416 kp)) ∧
  (aCall Tryz.prog (.p (.func ver_Stack_typ_Type_Twin_i [])) [v404] h353 fun v417 h418 =>
  aLoad false 1 v1 h418 fun v419 =>
  aIndexAddr 7 v419 j1 fun v420 =>
  aLoad true 7 v420 h418 fun v421 =>
  aStore 7 v352 v421 h418 fun _ h423 =>
  self ver_checker_place_c2 (keepS [0, 1, 5, 6, 9999] 0 (j0 :: j1 :: .top :: .top :: (.p (.int .i64 0)) :: v352 :: v417 :: .top :: .top :: .top :: .top :: .top :: .top :: .top :: j0 :: v0 :: v1 :: v419 :: j1 :: v420 :: v421 :: j0 :: v2 :: v3 :: v383 :: j1 :: v384 :: v404 :: v417 :: .top :: .top :: .top :: .top :: .top :: .top :: .top :: .top :: .top :: .top :: .top :: .top :: .top :: .top :: .top :: .top :: .top :: .top :: .top :: .top :: .top :: .top :: .top :: .top :: .top :: .top :: .top :: .top :: .top :: .top :: .top :: .top :: .top :: .top :: .top :: .top :: .top :: .top :: .top :: .top :: .top :: .top :: .top :: .top :: .top :: .top :: .top :: .top :: .top :: .top :: .top :: .top :: .top :: .top :: .top :: .top :: .top :: .top :: .top :: .top :: .top :: .top :: .top :: .top :: .top :: .top :: .top :: .top :: .top :: .top :: .top :: .top :: .top :: .top :: .top :: .top :: .top :: .top :: .top :: .top :: .top :: .top :: .top :: .top :: .top :: .top :: .top :: .top :: [])) h423 kp))))

theorem ver_checker_place_P0_x (j0 j1 : AV) (H : List Ob) (self : Code → List AV → List Ob → Ko → Prop) (kp : Ko) : awpX Tryz.prog ver_checker_place_ann self ver_checker_place_cut ver_checker_place_c (j0 :: j1 :: .top :: .top :: .top :: .top :: .top :: .top :: .top :: .top :: .top :: .top :: .top :: .top :: .top :: .top :: .top :: .top :: .top :: .top :: .top :: .top :: .top :: .top :: .top :: .top :: .top :: .top :: .top :: .top :: .top :: .top :: .top :: .top :: .top :: .top :: .top :: .top :: .top :: .top :: .top :: .top :: .top :: .top :: .top :: .top :: .top :: .top :: .top :: .top :: .top :: .top :: .top :: .top :: .top :: .top :: .top :: .top :: .top :: .top :: .top :: .top :: .top :: .top :: .top :: .top :: .top :: .top :: .top :: .top :: .top :: .top :: .top :: .top :: .top :: .top :: .top :: .top :: .top :: .top :: .top :: .top :: .top :: .top :: .top :: .top :: .top :: .top :: .top :: .top :: .top :: .top :: .top :: .top :: .top :: .top :: .top :: .top :: .top :: .top :: .top :: .top :: .top :: .top :: .top :: .top :: .top :: .top :: .top :: .top :: .top :: .top :: .top :: .top :: .top :: .top :: .top :: []) H kp = ver_checker_place_P0 j0 j1 H self kp := by kernel_rfl

theorem ver_checker_place_c_eq (j0 j1 : AV) (H : List Ob) (kp : Ko) : awp Tryz.prog ver_checker_place_ann ver_checker_place_c (j0 :: j1 :: .top :: .top :: .top :: .top :: .top :: .top :: .top :: .top :: .top :: .top :: .top :: .top :: .top :: .top :: .top :: .top :: .top :: .top :: .top :: .top :: .top :: .top :: .top :: .top :: .top :: .top :: .top :: .top :: .top :: .top :: .top :: .top :: .top :: .top :: .top :: .top :: .top :: .top :: .top :: .top :: .top :: .top :: .top :: .top :: .top :: .top :: .top :: .top :: .top :: .top :: .top :: .top :: .top :: .top :: .top :: .top :: .top :: .top :: .top :: .top :: .top :: .top :: .top :: .top :: .top :: .top :: .top :: .top :: .top :: .top :: .top :: .top :: .top :: .top :: .top :: .top :: .top :: .top :: .top :: .top :: .top :: .top :: .top :: .top :: .top :: .top :: .top :: .top :: .top :: .top :: .top :: .top :: .top :: .top :: .top :: .top :: .top :: .top :: .top :: .top :: .top :: .top :: .top :: .top :: .top :: .top :: .top :: .top :: .top :: .top :: .top :: .top :: .top :: .top :: .top :: []) H kp = ver_checker_place_P0 j0 j1 H (awp Tryz.prog ver_checker_place_ann) kp :=
  (awpX_eq Tryz.prog ver_checker_place_ann ver_checker_place_cut ver_checker_place_c (j0 :: j1 :: .top :: .top :: .top :: .top :: .top :: .top :: .top :: .top :: .top :: .top :: .top :: .top :: .top :: .top :: .top :: .top :: .top :: .top :: .top :: .top :: .top :: .top :: .top :: .top :: .top :: .top :: .top :: .top :: .top :: .top :: .top :: .top :: .top :: .top :: .top :: .top :: .top :: .top :: .top :: .top :: .top :: .top :: .top :: .top :: .top :: .top :: .top :: .top :: .top :: .top :: .top :: .top :: .top :: .top :: .top :: .top :: .top :: .top :: .top :: .top :: .top :: .top :: .top :: .top :: .top :: .top :: .top :: .top :: .top :: .top :: .top :: .top :: .top :: .top :: .top :: .top :: .top :: .top :: .top :: .top :: .top :: .top :: .top :: .top :: .top :: .top :: .top :: .top :: .top :: .top :: .top :: .top :: .top :: .top :: .top :: .top :: .top :: .top :: .top :: .top :: .top :: .top :: .top :: .top :: .top :: .top :: .top :: .top :: .top :: .top :: .top :: .top :: .top :: .top :: .top :: []) H kp).symm.trans (ver_checker_place_P0_x j0 j1 H (awp Tryz.prog ver_checker_place_ann) kp)

theorem ver_checker_place_eq (j0 j1 : AV) (H : List Ob) (r : AV) (Ho : List Ob) : aBody Tryz.prog ver_checker_place_ann Tryz.f38 H [j0, j1] r Ho = ver_checker_place_P0 j0 j1 H (awp Tryz.prog ver_checker_place_ann) (kEnd Tryz.prog [.tmp 4] fun v H' => Gives H.length v H' r Ho) :=
  (show aBody Tryz.prog ver_checker_place_ann Tryz.f38 H [j0, j1] r Ho = awp Tryz.prog ver_checker_place_ann ver_checker_place_c (j0 :: j1 :: .top :: .top :: .top :: .top :: .top :: .top :: .top :: .top :: .top :: .top :: .top :: .top :: .top :: .top :: .top :: .top :: .top :: .top :: .top :: .top :: .top :: .top :: .top :: .top :: .top :: .top :: .top :: .top :: .top :: .top :: .top :: .top :: .top :: .top :: .top :: .top :: .top :: .top :: .top :: .top :: .top :: .top :: .top :: .top :: .top :: .top :: .top :: .top :: .top :: .top :: .top :: .top :: .top :: .top :: .top :: .top :: .top :: .top :: .top :: .top :: .top :: .top :: .top :: .top :: .top :: .top :: .top :: .top :: .top :: .top :: .top :: .top :: .top :: .top :: .top :: .top :: .top :: .top :: .top :: .top :: .top :: .top :: .top :: .top :: .top :: .top :: .top :: .top :: .top :: .top :: .top :: .top :: .top :: .top :: .top :: .top :: .top :: .top :: .top :: .top :: .top :: .top :: .top :: .top :: .top :: .top :: .top :: .top :: .top :: .top :: .top :: .top :: .top :: .top :: .top :: []) H (kEnd Tryz.prog [.tmp 4] fun v H' => Gives H.length v H' r Ho) from by kernel_rfl).trans (ver_checker_place_c_eq j0 j1 H _)

def ver_checker_place_P2 (j0 j1 j5 j6 : AV) (H : List Ob) (self : Code → List AV → List Ob → Ko → Prop) (kp : Ko) : Prop :=
  aLoad true 7 j5 H fun v424 =>
  aCall Tryz.prog (.p (.func ver_arity_i [])) [v424] H fun v425 h426 =>
  aCall Tryz.prog (.p (.func ver_Stack_typ_Type_Pop_i [])) [j6, v425] h426 fun v427 h428 =>
  aExtract v427 0 fun v429 =>
  aExtract v427 1 fun v430 =>
  self ver_checker_place_c3 (keepS [0, 1, 5, 6, 7, 8, 9999] 0 (j0 :: j1 :: .top :: .top :: .top :: j5 :: j6 :: v429 :: v430 :: .top :: .top :: .top :: .top :: .top :: .top :: .top :: .top :: .top :: .top :: .top :: .top :: .top :: .top :: .top :: .top :: .top :: .top :: .top :: .top :: v427 :: j6 :: v424 :: v425 :: v427 :: v429 :: v430 :: .top :: .top :: .top :: .top :: .top :: .top :: .top :: .top :: .top :: .top :: .top :: .top :: .top :: .top :: .top :: .top :: .top :: .top :: .top :: .top :: .top :: .top :: .top :: .top :: .top :: .top :: .top :: .top :: .top :: .top :: .top :: .top :: .top :: .top :: .top :: .top :: .top :: .top :: .top :: .top :: .top :: .top :: .top :: .top :: .top :: .top :: .top :: .top :: .top :: .top :: .top :: .top :: .top :: .top :: .top :: .top :: .top :: .top :: .top :: .top :: .top :: .top :: .top :: .top :: .top :: .top :: .top :: .top :: .top :: .top :: .top :: .top :: .top :: .top :: .top :: .top :: .top :: .top :: .top :: .top :: .top :: [])) h428 kp

theorem ver_checker_place_P2_x (j0 j1 j2 j3 j4 j5 j6 j7 j8 j9 j10 j11 j12 j13 j14 j15 j16 j17 j18 j19 j20 j21 j22 j23 j24 j25 j26 j27 j28 j29 j30 j31 j32 j33 j34 j35 j36 j37 j38 j39 j40 j41 j42 j43 j44 j45 j46 j47 j48 j49 j50 j51 j52 j53 j54 j55 j56 j57 j58 j59 j60 j61 j62 j63 j64 j65 j66 j67 j68 j69 j70 j71 j72 j73 j74 j75 j76 j77 j78 j79 j80 j81 j82 j83 j84 j85 j86 j87 j88 j89 j90 j91 j92 j93 j94 j95 j96 j97 j98 j99 j100 j101 j102 j103 j104 j105 j106 j107 j108 j109 j110 j111 j112 j113 j114 j115 j116 : AV) (H : List Ob) (self : Code → List AV → List Ob → Ko → Prop) (kp : Ko) : awpX Tryz.prog ver_checker_place_ann self ver_checker_place_cut ver_checker_place_c2 (keepS [0, 1, 5, 6, 9999] 0 (j0 :: j1 :: j2 :: j3 :: j4 :: j5 :: j6 :: j7 :: j8 :: j9 :: j10 :: j11 :: j12 :: j13 :: j14 :: j15 :: j16 :: j17 :: j18 :: j19 :: j20 :: j21 :: j22 :: j23 :: j24 :: j25 :: j26 :: j27 :: j28 :: j29 :: j30 :: j31 :: j32 :: j33 :: j34 :: j35 :: j36 :: j37 :: j38 :: j39 :: j40 :: j41 :: j42 :: j43 :: j44 :: j45 :: j46 :: j47 :: j48 :: j49 :: j50 :: j51 :: j52 :: j53 :: j54 :: j55 :: j56 :: j57 :: j58 :: j59 :: j60 :: j61 :: j62 :: j63 :: j64 :: j65 :: j66 :: j67 :: j68 :: j69 :: j70 :: j71 :: j72 :: j73 :: j74 :: j75 :: j76 :: j77 :: j78 :: j79 :: j80 :: j81 :: j82 :: j83 :: j84 :: j85 :: j86 :: j87 :: j88 :: j89 :: j90 :: j91 :: j92 :: j93 :: j94 :: j95 :: j96 :: j97 :: j98 :: j99 :: j100 :: j101 :: j102 :: j103 :: j104 :: j105 :: j106 :: j107 :: j108 :: j109 :: j110 :: j111 :: j112 :: j113 :: j114 :: j115 :: j116 :: [])) H kp = ver_checker_place_P2 j0 j1 j5 j6 H self kp := by kernel_rfl

theorem ver_checker_place_c2_eq (j0 j1 j2 j3 j4 j5 j6 j7 j8 j9 j10 j11 j12 j13 j14 j15 j16 j17 j18 j19 j20 j21 j22 j23 j24 j25 j26 j27 j28 j29 j30 j31 j32 j33 j34 j35 j36 j37 j38 j39 j40 j41 j42 j43 j44 j45 j46 j47 j48 j49 j50 j51 j52 j53 j54 j55 j56 j57 j58 j59 j60 j61 j62 j63 j64 j65 j66 j67 j68 j69 j70 j71 j72 j73 j74 j75 j76 j77 j78 j79 j80 j81 j82 j83 j84 j85 j86 j87 j88 j89 j90 j91 j92 j93 j94 j95 j96 j97 j98 j99 j100 j101 j102 j103 j104 j105 j106 j107 j108 j109 j110 j111 j112 j113 j114 j115 j116 : AV) (H : List Ob) (kp : Ko) : awp Tryz.prog ver_checker_place_ann ver_checker_place_c2 (keepS [0, 1, 5, 6, 9999] 0 (j0 :: j1 :: j2 :: j3 :: j4 :: j5 :: j6 :: j7 :: j8 :: j9 :: j10 :: j11 :: j12 :: j13 :: j14 :: j15 :: j16 :: j17 :: j18 :: j19 :: j20 :: j21 :: j22 :: j23 :: j24 :: j25 :: j26 :: j27 :: j28 :: j29 :: j30 :: j31 :: j32 :: j33 :: j34 :: j35 :: j36 :: j37 :: j38 :: j39 :: j40 :: j41 :: j42 :: j43 :: j44 :: j45 :: j46 :: j47 :: j48 :: j49 :: j50 :: j51 :: j52 :: j53 :: j54 :: j55 :: j56 :: j57 :: j58 :: j59 :: j60 :: j61 :: j62 :: j63 :: j64 :: j65 :: j66 :: j67 :: j68 :: j69 :: j70 :: j71 :: j72 :: j73 :: j74 :: j75 :: j76 :: j77 :: j78 :: j79 :: j80 :: j81 :: j82 :: j83 :: j84 :: j85 :: j86 :: j87 :: j88 :: j89 :: j90 :: j91 :: j92 :: j93 :: j94 :: j95 :: j96 :: j97 :: j98 :: j99 :: j100 :: j101 :: j102 :: j103 :: j104 :: j105 :: j106 :: j107 :: j108 :: j109 :: j110 :: j111 :: j112 :: j113 :: j114 :: j115 :: j116 :: [])) H kp = ver_checker_place_P2 j0 j1 j5 j6 H (awp Tryz.prog ver_checker_place_ann) kp :=
  (awpX_eq Tryz.prog ver_checker_place_ann ver_checker_place_cut ver_checker_place_c2 (keepS [0, 1, 5, 6, 9999] 0 (j0 :: j1 :: j2 :: j3 :: j4 :: j5 :: j6 :: j7 :: j8 :: j9 :: j10 :: j11 :: j12 :: j13 :: j14 :: j15 :: j16 :: j17 :: j18 :: j19 :: j20 :: j21 :: j22 :: j23 :: j24 :: j25 :: j26 :: j27 :: j28 :: j29 :: j30 :: j31 :: j32 :: j33 :: j34 :: j35 :: j36 :: j37 :: j38 :: j39 :: j40 :: j41 :: j42 :: j43 :: j44 :: j45 :: j46 :: j47 :: j48 :: j49 :: j50 :: j51 :: j52 :: j53 :: j54 :: j55 :: j56 :: j57 :: j58 :: j59 :: j60 :: j61 :: j62 :: j63 :: j64 :: j65 :: j66 :: j67 :: j68 :: j69 :: j70 :: j71 :: j72 :: j73 :: j74 :: j75 :: j76 :: j77 :: j78 :: j79 :: j80 :: j81 :: j82 :: j83 :: j84 :: j85 :: j86 :: j87 :: j88 :: j89 :: j90 :: j91 :: j92 :: j93 :: j94 :: j95 :: j96 :: j97 :: j98 :: j99 :: j100 :: j101 :: j102 :: j103 :: j104 :: j105 :: j106 :: j107 :: j108 :: j109 :: j110 :: j111 :: j112 :: j113 :: j114 :: j115 :: j116 :: [])) H kp).symm.trans (ver_checker_place_P2_x j0 j1 j2 j3 j4 j5 j6 j7 j8 j9 j10 j11 j12 j13 j14 j15 j16 j17 j18 j19 j20 j21 j22 j23 j24 j25 j26 j27 j28 j29 j30 j31 j32 j33 j34 j35 j36 j37 j38 j39 j40 j41 j42 j43 j44 j45 j46 j47 j48 j49 j50 j51 j52 j53 j54 j55 j56 j57 j58 j59 j60 j61 j62 j63 j64 j65 j66 j67 j68 j69 j70 j71 j72 j73 j74 j75 j76 j77 j78 j79 j80 j81 j82 j83 j84 j85 j86 j87 j88 j89 j90 j91 j92 j93 j94 j95 j96 j97 j98 j99 j100 j101 j102 j103 j104 j105 j106 j107 j108 j109 j110 j111 j112 j113 j114 j115 j116 H (awp Tryz.prog ver_checker_place_ann) kp)

def ver_checker_place_P3 (j0 j1 j5 j6 j7 j8 : AV) (H : List Ob) (self : Code → List AV → List Ob → Ko → Prop) (kp : Ko) : Prop :=
  aUn .not j8 fun v431 =>
  aGuard v431
  (kp .ret (j0 :: j1 :: .top :: .top :: (.p (.int .i64 12)) :: j5 :: j6 :: j7 :: j8 :: .top :: .top :: .top :: .top :: .top :: .top :: .top :: .top :: .top :: .top :: .top :: .top :: .top :: .top :: .top :: .top :: .top :: .top :: .top :: .top :: .top :: .top :: .top :: .top :: .top :: .top :: .top :: j8 :: (.p (.bool true)) :: .top :: .top :: .top :: .top :: .top :: .top :: .top :: .top :: .top :: .top :: .top :: .top :: .top :: .top :: .top :: .top :: .top :: .top :: .top :: .top :: .top :: .top :: .top :: .top :: .top :: .top :: .top :: .top :: .top :: .top :: .top :: .top :: .top :: .top :: .top :: .top :: .top :: .top :: .top :: .top :: .top :: .top :: .top :: .top :: .top :: .top :: .top :: .top :: .top :: .top :: .top :: .top :: .top :: .top :: .top :: .top :: .top :: .top :: .top :: .top :: .top :: .top :: .top :: .top :: .top :: .top :: .top :: .top :: .top :: .top :: .top :: .top :: .top :: .top :: .top :: .top :: .top :: .top :: .top :: []) H)
  (self ver_checker_place_c5 (keepS [0, 1, 5, 6, 7, 9999] 0 (j0 :: j1 :: .top :: .top :: .top :: j5 :: j6 :: j7 :: j8 :: .top :: .top :: .top :: .top :: .top :: .top :: .top :: .top :: .top :: .top :: .top :: .top :: .top :: .top :: .top :: .top :: .top :: .top :: .top :: .top :: .top :: .top :: .top :: .top :: .top :: .top :: .top :: j8 :: (.p (.bool false)) :: .top :: .top :: .top :: .top :: .top :: .top :: .top :: .top :: .top :: .top :: .top :: .top :: .top :: .top :: .top :: .top :: .top :: .top :: .top :: .top :: .top :: .top :: .top :: .top :: .top :: .top :: .top :: .top :: .top :: .top :: .top :: .top :: .top :: .top :: .top :: .top :: .top :: .top :: .top :: .top :: .top :: .top :: .top :: .top :: .top :: .top :: .top :: .top :: .top :: .top :: .top :: .top :: .top :: .top :: .top :: .top :: .top :: .top :: .top :: .top :: .top :: .top :: .top :: .top :: .top :: .top :: .top :: .top :: .top :: .top :: .top :: .top :: .top :: .top :: .top :: .top :: .top :: .top :: .top :: [])) H kp)

theorem ver_checker_place_P3_x (j0 j1 j2 j3 j4 j5 j6 j7 j8 j9 j10 j11 j12 j13 j14 j15 j16 j17 j18 j19 j20 j21 j22 j23 j24 j25 j26 j27 j28 j29 j30 j31 j32 j33 j34 j35 j36 j37 j38 j39 j40 j41 j42 j43 j44 j45 j46 j47 j48 j49 j50 j51 j52 j53 j54 j55 j56 j57 j58 j59 j60 j61 j62 j63 j64 j65 j66 j67 j68 j69 j70 j71 j72 j73 j74 j75 j76 j77 j78 j79 j80 j81 j82 j83 j84 j85 j86 j87 j88 j89 j90 j91 j92 j93 j94 j95 j96 j97 j98 j99 j100 j101 j102 j103 j104 j105 j106 j107 j108 j109 j110 j111 j112 j113 j114 j115 j116 : AV) (H : List Ob) (self : Code → List AV → List Ob → Ko → Prop) (kp : Ko) : awpX Tryz.prog ver_checker_place_ann self ver_checker_place_cut ver_checker_place_c3 (keepS [0, 1, 5, 6, 7, 8, 9999] 0 (j0 :: j1 :: j2 :: j3 :: j4 :: j5 :: j6 :: j7 :: j8 :: j9 :: j10 :: j11 :: j12 :: j13 :: j14 :: j15 :: j16 :: j17 :: j18 :: j19 :: j20 :: j21 :: j22 :: j23 :: j24 :: j25 :: j26 :: j27 :: j28 :: j29 :: j30 :: j31 :: j32 :: j33 :: j34 :: j35 :: j36 :: j37 :: j38 :: j39 :: j40 :: j41 :: j42 :: j43 :: j44 :: j45 :: j46 :: j47 :: j48 :: j49 :: j50 :: j51 :: j52 :: j53 :: j54 :: j55 :: j56 :: j57 :: j58 :: j59 :: j60 :: j61 :: j62 :: j63 :: j64 :: j65 :: j66 :: j67 :: j68 :: j69 :: j70 :: j71 :: j72 :: j73 :: j74 :: j75 :: j76 :: j77 :: j78 :: j79 :: j80 :: j81 :: j82 :: j83 :: j84 :: j85 :: j86 :: j87 :: j88 :: j89 :: j90 :: j91 :: j92 :: j93 :: j94 :: j95 :: j96 :: j97 :: j98 :: j99 :: j100 :: j101 :: j102 :: j103 :: j104 :: j105 :: j106 :: j107 :: j108 :: j109 :: j110 :: j111 :: j112 :: j113 :: j114 :: j115 :: j116 :: [])) H kp = ver_checker_place_P3 j0 j1 j5 j6 j7 j8 H self kp := by kernel_rfl

theorem ver_checker_place_c3_eq (j0 j1 j2 j3 j4 j5 j6 j7 j8 j9 j10 j11 j12 j13 j14 j15 j16 j17 j18 j19 j20 j21 j22 j23 j24 j25 j26 j27 j28 j29 j30 j31 j32 j33 j34 j35 j36 j37 j38 j39 j40 j41 j42 j43 j44 j45 j46 j47 j48 j49 j50 j51 j52 j53 j54 j55 j56 j57 j58 j59 j60 j61 j62 j63 j64 j65 j66 j67 j68 j69 j70 j71 j72 j73 j74 j75 j76 j77 j78 j79 j80 j81 j82 j83 j84 j85 j86 j87 j88 j89 j90 j91 j92 j93 j94 j95 j96 j97 j98 j99 j100 j101 j102 j103 j104 j105 j106 j107 j108 j109 j110 j111 j112 j113 j114 j115 j116 : AV) (H : List Ob) (kp : Ko) : awp Tryz.prog ver_checker_place_ann ver_checker_place_c3 (keepS [0, 1, 5, 6, 7, 8, 9999] 0 (j0 :: j1 :: j2 :: j3 :: j4 :: j5 :: j6 :: j7 :: j8 :: j9 :: j10 :: j11 :: j12 :: j13 :: j14 :: j15 :: j16 :: j17 :: j18 :: j19 :: j20 :: j21 :: j22 :: j23 :: j24 :: j25 :: j26 :: j27 :: j28 :: j29 :: j30 :: j31 :: j32 :: j33 :: j34 :: j35 :: j36 :: j37 :: j38 :: j39 :: j40 :: j41 :: j42 :: j43 :: j44 :: j45 :: j46 :: j47 :: j48 :: j49 :: j50 :: j51 :: j52 :: j53 :: j54 :: j55 :: j56 :: j57 :: j58 :: j59 :: j60 :: j61 :: j62 :: j63 :: j64 :: j65 :: j66 :: j67 :: j68 :: j69 :: j70 :: j71 :: j72 :: j73 :: j74 :: j75 :: j76 :: j77 :: j78 :: j79 :: j80 :: j81 :: j82 :: j83 :: j84 :: j85 :: j86 :: j87 :: j88 :: j89 :: j90 :: j91 :: j92 :: j93 :: j94 :: j95 :: j96 :: j97 :: j98 :: j99 :: j100 :: j101 :: j102 :: j103 :: j104 :: j105 :: j106 :: j107 :: j108 :: j109 :: j110 :: j111 :: j112 :: j113 :: j114 :: j115 :: j116 :: [])) H kp = ver_checker_place_P3 j0 j1 j5 j6 j7 j8 H (awp Tryz.prog ver_checker_place_ann) kp :=
  (awpX_eq Tryz.prog ver_checker_place_ann ver_checker_place_cut ver_checker_place_c3 (keepS [0, 1, 5, 6, 7, 8, 9999] 0 (j0 :: j1 :: j2 :: j3 :: j4 :: j5 :: j6 :: j7 :: j8 :: j9 :: j10 :: j11 :: j12 :: j13 :: j14 :: j15 :: j16 :: j17 :: j18 :: j19 :: j20 :: j21 :: j22 :: j23 :: j24 :: j25 :: j26 :: j27 :: j28 :: j29 :: j30 :: j31 :: j32 :: j33 :: j34 :: j35 :: j36 :: j37 :: j38 :: j39 :: j40 :: j41 :: j42 :: j43 :: j44 :: j45 :: j46 :: j47 :: j48 :: j49 :: j50 :: j51 :: j52 :: j53 :: j54 :: j55 :: j56 :: j57 :: j58 :: j59 :: j60 :: j61 :: j62 :: j63 :: j64 :: j65 :: j66 :: j67 :: j68 :: j69 :: j70 :: j71 :: j72 :: j73 :: j74 :: j75 :: j76 :: j77 :: j78 :: j79 :: j80 :: j81 :: j82 :: j83 :: j84 :: j85 :: j86 :: j87 :: j88 :: j89 :: j90 :: j91 :: j92 :: j93 :: j94 :: j95 :: j96 :: j97 :: j98 :: j99 :: j100 :: j101 :: j102 :: j103 :: j104 :: j105 :: j106 :: j107 :: j108 :: j109 :: j110 :: j111 :: j112 :: j113 :: j114 :: j115 :: j116 :: [])) H kp).symm.trans (ver_checker_place_P3_x j0 j1 j2 j3 j4 j5 j6 j7 j8 j9 j10 j11 j12 j13 j14 j15 j16 j17 j18 j19 j20 j21 j22 j23 j24 j25 j26 j27 j28 j29 j30 j31 j32 j33 j34 j35 j36 j37 j38 j39 j40 j41 j42 j43 j44 j45 j46 j47 j48 j49 j50 j51 j52 j53 j54 j55 j56 j57 j58 j59 j60 j61 j62 j63 j64 j65 j66 j67 j68 j69 j70 j71 j72 j73 j74 j75 j76 j77 j78 j79 j80 j81 j82 j83 j84 j85 j86 j87 j88 j89 j90 j91 j92 j93 j94 j95 j96 j97 j98 j99 j100 j101 j102 j103 j104 j105 j106 j107 j108 j109 j110 j111 j112 j113 j114 j115 j116 H (awp Tryz.prog ver_checker_place_ann) kp)

def ver_checker_place_P5 (j0 j1 j5 j6 j7 : AV) (H : List Ob) (self : Code → List AV → List Ob → Ko → Prop) (kp : Ko) : Prop :=
  aLoad true 7 j5 H fun v432 =>
  aCall Tryz.prog (.p (.func ver_checker_comes_i [])) [j0, v432, j7] H fun v433 h434 =>
  aExtract v433 0 fun v435 =>
  aExtract v433 1 fun v436 =>
  self ver_checker_place_c6 (keepS [0, 1, 5, 6, 9, 10, 9999] 0 (j0 :: j1 :: .top :: .top :: .top :: j5 :: j6 :: j7 :: .top :: v435 :: v436 :: .top :: .top :: .top :: .top :: .top :: .top :: .top :: .top :: .top :: .top :: .top :: .top :: .top :: .top :: .top :: .top :: .top :: .top :: .top :: .top :: .top :: .top :: .top :: .top :: .top :: .top :: .top :: v433 :: j0 :: v432 :: j7 :: v433 :: v435 :: v436 :: .top :: .top :: .top :: .top :: .top :: .top :: .top :: .top :: .top :: .top :: .top :: .top :: .top :: .top :: .top :: .top :: .top :: .top :: .top :: .top :: .top :: .top :: .top :: .top :: .top :: .top :: .top :: .top :: .top :: .top :: .top :: .top :: .top :: .top :: .top :: .top :: .top :: .top :: .top :: .top :: .top :: .top :: .top :: .top :: .top :: .top :: .top :: .top :: .top :: .top :: .top :: .top :: .top :: .top :: .top :: .top :: .top :: .top :: .top :: .top :: .top :: .top :: .top :: .top :: .top :: .top :: .top :: .top :: .top :: .top :: .top :: .top :: [])) h434 kp

theorem ver_checker_place_P5_x (j0 j1 j2 j3 j4 j5 j6 j7 j8 j9 j10 j11 j12 j13 j14 j15 j16 j17 j18 j19 j20 j21 j22 j23 j24 j25 j26 j27 j28 j29 j30 j31 j32 j33 j34 j35 j36 j37 j38 j39 j40 j41 j42 j43 j44 j45 j46 j47 j48 j49 j50 j51 j52 j53 j54 j55 j56 j57 j58 j59 j60 j61 j62 j63 j64 j65 j66 j67 j68 j69 j70 j71 j72 j73 j74 j75 j76 j77 j78 j79 j80 j81 j82 j83 j84 j85 j86 j87 j88 j89 j90 j91 j92 j93 j94 j95 j96 j97 j98 j99 j100 j101 j102 j103 j104 j105 j106 j107 j108 j109 j110 j111 j112 j113 j114 j115 j116 : AV) (H : List Ob) (self : Code → List AV → List Ob → Ko → Prop) (kp : Ko) : awpX Tryz.prog ver_checker_place_ann self ver_checker_place_cut ver_checker_place_c5 (keepS [0, 1, 5, 6, 7, 9999] 0 (j0 :: j1 :: j2 :: j3 :: j4 :: j5 :: j6 :: j7 :: j8 :: j9 :: j10 :: j11 :: j12 :: j13 :: j14 :: j15 :: j16 :: j17 :: j18 :: j19 :: j20 :: j21 :: j22 :: j23 :: j24 :: j25 :: j26 :: j27 :: j28 :: j29 :: j30 :: j31 :: j32 :: j33 :: j34 :: j35 :: j36 :: j37 :: j38 :: j39 :: j40 :: j41 :: j42 :: j43 :: j44 :: j45 :: j46 :: j47 :: j48 :: j49 :: j50 :: j51 :: j52 :: j53 :: j54 :: j55 :: j56 :: j57 :: j58 :: j59 :: j60 :: j61 :: j62 :: j63 :: j64 :: j65 :: j66 :: j67 :: j68 :: j69 :: j70 :: j71 :: j72 :: j73 :: j74 :: j75 :: j76 :: j77 :: j78 :: j79 :: j80 :: j81 :: j82 :: j83 :: j84 :: j85 :: j86 :: j87 :: j88 :: j89 :: j90 :: j91 :: j92 :: j93 :: j94 :: j95 :: j96 :: j97 :: j98 :: j99 :: j100 :: j101 :: j102 :: j103 :: j104 :: j105 :: j106 :: j107 :: j108 :: j109 :: j110 :: j111 :: j112 :: j113 :: j114 :: j115 :: j116 :: [])) H kp = ver_checker_place_P5 j0 j1 j5 j6 j7 H self kp := by kernel_rfl

theorem ver_checker_place_c5_eq (j0 j1 j2 j3 j4 j5 j6 j7 j8 j9 j10 j11 j12 j13 j14 j15 j16 j17 j18 j19 j20 j21 j22 j23 j24 j25 j26 j27 j28 j29 j30 j31 j32 j33 j34 j35 j36 j37 j38 j39 j40 j41 j42 j43 j44 j45 j46 j47 j48 j49 j50 j51 j52 j53 j54 j55 j56 j57 j58 j59 j60 j61 j62 j63 j64 j65 j66 j67 j68 j69 j70 j71 j72 j73 j74 j75 j76 j77 j78 j79 j80 j81 j82 j83 j84 j85 j86 j87 j88 j89 j90 j91 j92 j93 j94 j95 j96 j97 j98 j99 j100 j101 j102 j103 j104 j105 j106 j107 j108 j109 j110 j111 j112 j113 j114 j115 j116 : AV) (H : List Ob) (kp : Ko) : awp Tryz.prog ver_checker_place_ann ver_checker_place_c5 (keepS [0, 1, 5, 6, 7, 9999] 0 (j0 :: j1 :: j2 :: j3 :: j4 :: j5 :: j6 :: j7 :: j8 :: j9 :: j10 :: j11 :: j12 :: j13 :: j14 :: j15 :: j16 :: j17 :: j18 :: j19 :: j20 :: j21 :: j22 :: j23 :: j24 :: j25 :: j26 :: j27 :: j28 :: j29 :: j30 :: j31 :: j32 :: j33 :: j34 :: j35 :: j36 :: j37 :: j38 :: j39 :: j40 :: j41 :: j42 :: j43 :: j44 :: j45 :: j46 :: j47 :: j48 :: j49 :: j50 :: j51 :: j52 :: j53 :: j54 :: j55 :: j56 :: j57 :: j58 :: j59 :: j60 :: j61 :: j62 :: j63 :: j64 :: j65 :: j66 :: j67 :: j68 :: j69 :: j70 :: j71 :: j72 :: j73 :: j74 :: j75 :: j76 :: j77 :: j78 :: j79 :: j80 :: j81 :: j82 :: j83 :: j84 :: j85 :: j86 :: j87 :: j88 :: j89 :: j90 :: j91 :: j92 :: j93 :: j94 :: j95 :: j96 :: j97 :: j98 :: j99 :: j100 :: j101 :: j102 :: j103 :: j104 :: j105 :: j106 :: j107 :: j108 :: j109 :: j110 :: j111 :: j112 :: j113 :: j114 :: j115 :: j116 :: [])) H kp = ver_checker_place_P5 j0 j1 j5 j6 j7 H (awp Tryz.prog ver_checker_place_ann) kp :=
  (awpX_eq Tryz.prog ver_checker_place_ann ver_checker_place_cut ver_checker_place_c5 (keepS [0, 1, 5, 6, 7, 9999] 0 (j0 :: j1 :: j2 :: j3 :: j4 :: j5 :: j6 :: j7 :: j8 :: j9 :: j10 :: j11 :: j12 :: j13 :: j14 :: j15 :: j16 :: j17 :: j18 :: j19 :: j20 :: j21 :: j22 :: j23 :: j24 :: j25 :: j26 :: j27 :: j28 :: j29 :: j30 :: j31 :: j32 :: j33 :: j34 :: j35 :: j36 :: j37 :: j38 :: j39 :: j40 :: j41 :: j42 :: j43 :: j44 :: j45 :: j46 :: j47 :: j48 :: j49 :: j50 :: j51 :: j52 :: j53 :: j54 :: j55 :: j56 :: j57 :: j58 :: j59 :: j60 :: j61 :: j62 :: j63 :: j64 :: j65 :: j66 :: j67 :: j68 :: j69 :: j70 :: j71 :: j72 :: j73 :: j74 :: j75 :: j76 :: j77 :: j78 :: j79 :: j80 :: j81 :: j82 :: j83 :: j84 :: j85 :: j86 :: j87 :: j88 :: j89 :: j90 :: j91 :: j92 :: j93 :: j94 :: j95 :: j96 :: j97 :: j98 :: j99 :: j100 :: j101 :: j102 :: j103 :: j104 :: j105 :: j106 :: j107 :: j108 :: j109 :: j110 :: j111 :: j112 :: j113 :: j114 :: j115 :: j116 :: [])) H kp).symm.trans (ver_checker_place_P5_x j0 j1 j2 j3 j4 j5 j6 j7 j8 j9 j10 j11 j12 j13 j14 j15 j16 j17 j18 j19 j20 j21 j22 j23 j24 j25 j26 j27 j28 j29 j30 j31 j32 j33 j34 j35 j36 j37 j38 j39 j40 j41 j42 j43 j44 j45 j46 j47 j48 j49 j50 j51 j52 j53 j54 j55 j56 j57 j58 j59 j60 j61 j62 j63 j64 j65 j66 j67 j68 j69 j70 j71 j72 j73 j74 j75 j76 j77 j78 j79 j80 j81 j82 j83 j84 j85 j86 j87 j88 j89 j90 j91 j92 j93 j94 j95 j96 j97 j98 j99 j100 j101 j102 j103 j104 j105 j106 j107 j108 j109 j110 j111 j112 j113 j114 j115 j116 H (awp Tryz.prog ver_checker_place_ann) kp)

def ver_checker_place_P6 (j0 j1 j5 j6 j9 j10 : AV) (H : List Ob) (self : Code → List AV → List Ob → Ko → Prop) (kp : Ko) : Prop :=
  aBin false false .neq j10 (.p (.int .i64 0)) fun v437 =>
  self ver_checker_place_c7 (keepS [0, 1, 5, 6, 9, 10, 46, 9999] 0 (j0 :: j1 :: .top :: .top :: .top :: j5 :: j6 :: .top :: .top :: j9 :: j10 :: .top :: .top :: .top :: .top :: .top :: .top :: .top :: .top :: .top :: .top :: .top :: .top :: .top :: .top :: .top :: .top :: .top :: .top :: .top :: .top :: .top :: .top :: .top :: .top :: .top :: .top :: .top :: .top :: .top :: .top :: .top :: .top :: .top :: .top :: j10 :: v437 :: .top :: .top :: .top :: .top :: .top :: .top :: .top :: .top :: .top :: .top :: .top :: .top :: .top :: .top :: .top :: .top :: .top :: .top :: .top :: .top :: .top :: .top :: .top :: .top :: .top :: .top :: .top :: .top :: .top :: .top :: .top :: .top :: .top :: .top :: .top :: .top :: .top :: .top :: .top :: .top :: .top :: .top :: .top :: .top :: .top :: .top :: .top :: .top :: .top :: .top :: .top :: .top :: .top :: .top :: .top :: .top :: .top :: .top :: .top :: .top :: .top :: .top :: .top :: .top :: .top :: .top :: .top :: .top :: .top :: .top :: [])) H (kSeq self ver_checker_place_c8 [0, 1, 5, 6, 9, 9999] kp)

theorem ver_checker_place_P6_x (j0 j1 j2 j3 j4 j5 j6 j7 j8 j9 j10 j11 j12 j13 j14 j15 j16 j17 j18 j19 j20 j21 j22 j23 j24 j25 j26 j27 j28 j29 j30 j31 j32 j33 j34 j35 j36 j37 j38 j39 j40 j41 j42 j43 j44 j45 j46 j47 j48 j49 j50 j51 j52 j53 j54 j55 j56 j57 j58 j59 j60 j61 j62 j63 j64 j65 j66 j67 j68 j69 j70 j71 j72 j73 j74 j75 j76 j77 j78 j79 j80 j81 j82 j83 j84 j85 j86 j87 j88 j89 j90 j91 j92 j93 j94 j95 j96 j97 j98 j99 j100 j101 j102 j103 j104 j105 j106 j107 j108 j109 j110 j111 j112 j113 j114 j115 j116 : AV) (H : List Ob) (self : Code → List AV → List Ob → Ko → Prop) (kp : Ko) : awpX Tryz.prog ver_checker_place_ann self ver_checker_place_cut ver_checker_place_c6 (keepS [0, 1, 5, 6, 9, 10, 9999] 0 (j0 :: j1 :: j2 :: j3 :: j4 :: j5 :: j6 :: j7 :: j8 :: j9 :: j10 :: j11 :: j12 :: j13 :: j14 :: j15 :: j16 :: j17 :: j18 :: j19 :: j20 :: j21 :: j22 :: j23 :: j24 :: j25 :: j26 :: j27 :: j28 :: j29 :: j30 :: j31 :: j32 :: j33 :: j34 :: j35 :: j36 :: j37 :: j38 :: j39 :: j40 :: j41 :: j42 :: j43 :: j44 :: j45 :: j46 :: j47 :: j48 :: j49 :: j50 :: j51 :: j52 :: j53 :: j54 :: j55 :: j56 :: j57 :: j58 :: j59 :: j60 :: j61 :: j62 :: j63 :: j64 :: j65 :: j66 :: j67 :: j68 :: j69 :: j70 :: j71 :: j72 :: j73 :: j74 :: j75 :: j76 :: j77 :: j78 :: j79 :: j80 :: j81 :: j82 :: j83 :: j84 :: j85 :: j86 :: j87 :: j88 :: j89 :: j90 :: j91 :: j92 :: j93 :: j94 :: j95 :: j96 :: j97 :: j98 :: j99 :: j100 :: j101 :: j102 :: j103 :: j104 :: j105 :: j106 :: j107 :: j108 :: j109 :: j110 :: j111 :: j112 :: j113 :: j114 :: j115 :: j116 :: [])) H kp = ver_checker_place_P6 j0 j1 j5 j6 j9 j10 H self kp := by kernel_rfl

theorem ver_checker_place_c6_eq (j0 j1 j2 j3 j4 j5 j6 j7 j8 j9 j10 j11 j12 j13 j14 j15 j16 j17 j18 j19 j20 j21 j22 j23 j24 j25 j26 j27 j28 j29 j30 j31 j32 j33 j34 j35 j36 j37 j38 j39 j40 j41 j42 j43 j44 j45 j46 j47 j48 j49 j50 j51 j52 j53 j54 j55 j56 j57 j58 j59 j60 j61 j62 j63 j64 j65 j66 j67 j68 j69 j70 j71 j72 j73 j74 j75 j76 j77 j78 j79 j80 j81 j82 j83 j84 j85 j86 j87 j88 j89 j90 j91 j92 j93 j94 j95 j96 j97 j98 j99 j100 j101 j102 j103 j104 j105 j106 j107 j108 j109 j110 j111 j112 j113 j114 j115 j116 : AV) (H : List Ob) (kp : Ko) : awp Tryz.prog ver_checker_place_ann ver_checker_place_c6 (keepS [0, 1, 5, 6, 9, 10, 9999] 0 (j0 :: j1 :: j2 :: j3 :: j4 :: j5 :: j6 :: j7 :: j8 :: j9 :: j10 :: j11 :: j12 :: j13 :: j14 :: j15 :: j16 :: j17 :: j18 :: j19 :: j20 :: j21 :: j22 :: j23 :: j24 :: j25 :: j26 :: j27 :: j28 :: j29 :: j30 :: j31 :: j32 :: j33 :: j34 :: j35 :: j36 :: j37 :: j38 :: j39 :: j40 :: j41 :: j42 :: j43 :: j44 :: j45 :: j46 :: j47 :: j48 :: j49 :: j50 :: j51 :: j52 :: j53 :: j54 :: j55 :: j56 :: j57 :: j58 :: j59 :: j60 :: j61 :: j62 :: j63 :: j64 :: j65 :: j66 :: j67 :: j68 :: j69 :: j70 :: j71 :: j72 :: j73 :: j74 :: j75 :: j76 :: j77 :: j78 :: j79 :: j80 :: j81 :: j82 :: j83 :: j84 :: j85 :: j86 :: j87 :: j88 :: j89 :: j90 :: j91 :: j92 :: j93 :: j94 :: j95 :: j96 :: j97 :: j98 :: j99 :: j100 :: j101 :: j102 :: j103 :: j104 :: j105 :: j106 :: j107 :: j108 :: j109 :: j110 :: j111 :: j112 :: j113 :: j114 :: j115 :: j116 :: [])) H kp = ver_checker_place_P6 j0 j1 j5 j6 j9 j10 H (awp Tryz.prog ver_checker_place_ann) kp :=
  (awpX_eq Tryz.prog ver_checker_place_ann ver_checker_place_cut ver_checker_place_c6 (keepS [0, 1, 5, 6, 9, 10, 9999] 0 (j0 :: j1 :: j2 :: j3 :: j4 :: j5 :: j6 :: j7 :: j8 :: j9 :: j10 :: j11 :: j12 :: j13 :: j14 :: j15 :: j16 :: j17 :: j18 :: j19 :: j20 :: j21 :: j22 :: j23 :: j24 :: j25 :: j26 :: j27 :: j28 :: j29 :: j30 :: j31 :: j32 :: j33 :: j34 :: j35 :: j36 :: j37 :: j38 :: j39 :: j40 :: j41 :: j42 :: j43 :: j44 :: j45 :: j46 :: j47 :: j48 :: j49 :: j50 :: j51 :: j52 :: j53 :: j54 :: j55 :: j56 :: j57 :: j58 :: j59 :: j60 :: j61 :: j62 :: j63 :: j64 :: j65 :: j66 :: j67 :: j68 :: j69 :: j70 :: j71 :: j72 :: j73 :: j74 :: j75 :: j76 :: j77 :: j78 :: j79 :: j80 :: j81 :: j82 :: j83 :: j84 :: j85 :: j86 :: j87 :: j88 :: j89 :: j90 :: j91 :: j92 :: j93 :: j94 :: j95 :: j96 :: j97 :: j98 :: j99 :: j100 :: j101 :: j102 :: j103 :: j104 :: j105 :: j106 :: j107 :: j108 :: j109 :: j110 :: j111 :: j112 :: j113 :: j114 :: j115 :: j116 :: [])) H kp).symm.trans (ver_checker_place_P6_x j0 j1 j2 j3 j4 j5 j6 j7 j8 j9 j10 j11 j12 j13 j14 j15 j16 j17 j18 j19 j20 j21 j22 j23 j24 j25 j26 j27 j28 j29 j30 j31 j32 j33 j34 j35 j36 j37 j38 j39 j40 j41 j42 j43 j44 j45 j46 j47 j48 j49 j50 j51 j52 j53 j54 j55 j56 j57 j58 j59 j60 j61 j62 j63 j64 j65 j66 j67 j68 j69 j70 j71 j72 j73 j74 j75 j76 j77 j78 j79 j80 j81 j82 j83 j84 j85 j86 j87 j88 j89 j90 j91 j92 j93 j94 j95 j96 j97 j98 j99 j100 j101 j102 j103 j104 j105 j106 j107 j108 j109 j110 j111 j112 j113 j114 j115 j116 H (awp Tryz.prog ver_checker_place_ann) kp)

def ver_checker_place_P7 (j0 j1 j5 j6 j9 j10 j46 : AV) (H : List Ob) (_ : Code → List AV → List Ob → Ko → Prop) (kp : Ko) : Prop :=
  aGuard j46
  (kp .ret (j0 :: j1 :: .top :: .top :: j10 :: j5 :: j6 :: .top :: .top :: j9 :: j10 :: .top :: .top :: .top :: .top :: .top :: .top :: .top :: .top :: .top :: .top :: .top :: .top :: .top :: .top :: .top :: .top :: .top :: .top :: .top :: .top :: .top :: .top :: .top :: .top :: .top :: .top :: .top :: .top :: .top :: .top :: .top :: .top :: .top :: .top :: .top :: (.p (.bool true)) :: j10 :: .top :: .top :: .top :: .top :: .top :: .top :: .top :: .top :: .top :: .top :: .top :: .top :: .top :: .top :: .top :: .top :: .top :: .top :: .top :: .top :: .top :: .top :: .top :: .top :: .top :: .top :: .top :: .top :: .top :: .top :: .top :: .top :: .top :: .top :: .top :: .top :: .top :: .top :: .top :: .top :: .top :: .top :: .top :: .top :: .top :: .top :: .top :: .top :: .top :: .top :: .top :: .top :: .top :: .top :: .top :: .top :: .top :: .top :: .top :: .top :: .top :: .top :: .top :: .top :: .top :: .top :: .top :: .top :: .top :: []) H)
  (kp .normal (j0 :: j1 :: .top :: .top :: .top :: j5 :: j6 :: .top :: .top :: j9 :: j10 :: .top :: .top :: .top :: .top :: .top :: .top :: .top :: .top :: .top :: .top :: .top :: .top :: .top :: .top :: .top :: .top :: .top :: .top :: .top :: .top :: .top :: .top :: .top :: .top :: .top :: .top :: .top :: .top :: .top :: .top :: .top :: .top :: .top :: .top :: .top :: (.p (.bool false)) :: .top :: .top :: .top :: .top :: .top :: .top :: .top :: .top :: .top :: .top :: .top :: .top :: .top :: .top :: .top :: .top :: .top :: .top :: .top :: .top :: .top :: .top :: .top :: .top :: .top :: .top :: .top :: .top :: .top :: .top :: .top :: .top :: .top :: .top :: .top :: .top :: .top :: .top :: .top :: .top :: .top :: .top :: .top :: .top :: .top :: .top :: .top :: .top :: .top :: .top :: .top :: .top :: .top :: .top :: .top :: .top :: .top :: .top :: .top :: .top :: .top :: .top :: .top :: .top :: .top :: .top :: .top :: .top :: .top :: .top :: []) H)

theorem ver_checker_place_P7_x (j0 j1 j2 j3 j4 j5 j6 j7 j8 j9 j10 j11 j12 j13 j14 j15 j16 j17 j18 j19 j20 j21 j22 j23 j24 j25 j26 j27 j28 j29 j30 j31 j32 j33 j34 j35 j36 j37 j38 j39 j40 j41 j42 j43 j44 j45 j46 j47 j48 j49 j50 j51 j52 j53 j54 j55 j56 j57 j58 j59 j60 j61 j62 j63 j64 j65 j66 j67 j68 j69 j70 j71 j72 j73 j74 j75 j76 j77 j78 j79 j80 j81 j82 j83 j84 j85 j86 j87 j88 j89 j90 j91 j92 j93 j94 j95 j96 j97 j98 j99 j100 j101 j102 j103 j104 j105 j106 j107 j108 j109 j110 j111 j112 j113 j114 j115 j116 : AV) (H : List Ob) (self : Code → List AV → List Ob → Ko → Prop) (kp : Ko) : awpX Tryz.prog ver_checker_place_ann self ver_checker_place_cut ver_checker_place_c7 (keepS [0, 1, 5, 6, 9, 10, 46, 9999] 0 (j0 :: j1 :: j2 :: j3 :: j4 :: j5 :: j6 :: j7 :: j8 :: j9 :: j10 :: j11 :: j12 :: j13 :: j14 :: j15 :: j16 :: j17 :: j18 :: j19 :: j20 :: j21 :: j22 :: j23 :: j24 :: j25 :: j26 :: j27 :: j28 :: j29 :: j30 :: j31 :: j32 :: j33 :: j34 :: j35 :: j36 :: j37 :: j38 :: j39 :: j40 :: j41 :: j42 :: j43 :: j44 :: j45 :: j46 :: j47 :: j48 :: j49 :: j50 :: j51 :: j52 :: j53 :: j54 :: j55 :: j56 :: j57 :: j58 :: j59 :: j60 :: j61 :: j62 :: j63 :: j64 :: j65 :: j66 :: j67 :: j68 :: j69 :: j70 :: j71 :: j72 :: j73 :: j74 :: j75 :: j76 :: j77 :: j78 :: j79 :: j80 :: j81 :: j82 :: j83 :: j84 :: j85 :: j86 :: j87 :: j88 :: j89 :: j90 :: j91 :: j92 :: j93 :: j94 :: j95 :: j96 :: j97 :: j98 :: j99 :: j100 :: j101 :: j102 :: j103 :: j104 :: j105 :: j106 :: j107 :: j108 :: j109 :: j110 :: j111 :: j112 :: j113 :: j114 :: j115 :: j116 :: [])) H kp = ver_checker_place_P7 j0 j1 j5 j6 j9 j10 j46 H self kp := by kernel_rfl

theorem ver_checker_place_c7_eq (j0 j1 j2 j3 j4 j5 j6 j7 j8 j9 j10 j11 j12 j13 j14 j15 j16 j17 j18 j19 j20 j21 j22 j23 j24 j25 j26 j27 j28 j29 j30 j31 j32 j33 j34 j35 j36 j37 j38 j39 j40 j41 j42 j43 j44 j45 j46 j47 j48 j49 j50 j51 j52 j53 j54 j55 j56 j57 j58 j59 j60 j61 j62 j63 j64 j65 j66 j67 j68 j69 j70 j71 j72 j73 j74 j75 j76 j77 j78 j79 j80 j81 j82 j83 j84 j85 j86 j87 j88 j89 j90 j91 j92 j93 j94 j95 j96 j97 j98 j99 j100 j101 j102 j103 j104 j105 j106 j107 j108 j109 j110 j111 j112 j113 j114 j115 j116 : AV) (H : List Ob) (kp : Ko) : awp Tryz.prog ver_checker_place_ann ver_checker_place_c7 (keepS [0, 1, 5, 6, 9, 10, 46, 9999] 0 (j0 :: j1 :: j2 :: j3 :: j4 :: j5 :: j6 :: j7 :: j8 :: j9 :: j10 :: j11 :: j12 :: j13 :: j14 :: j15 :: j16 :: j17 :: j18 :: j19 :: j20 :: j21 :: j22 :: j23 :: j24 :: j25 :: j26 :: j27 :: j28 :: j29 :: j30 :: j31 :: j32 :: j33 :: j34 :: j35 :: j36 :: j37 :: j38 :: j39 :: j40 :: j41 :: j42 :: j43 :: j44 :: j45 :: j46 :: j47 :: j48 :: j49 :: j50 :: j51 :: j52 :: j53 :: j54 :: j55 :: j56 :: j57 :: j58 :: j59 :: j60 :: j61 :: j62 :: j63 :: j64 :: j65 :: j66 :: j67 :: j68 :: j69 :: j70 :: j71 :: j72 :: j73 :: j74 :: j75 :: j76 :: j77 :: j78 :: j79 :: j80 :: j81 :: j82 :: j83 :: j84 :: j85 :: j86 :: j87 :: j88 :: j89 :: j90 :: j91 :: j92 :: j93 :: j94 :: j95 :: j96 :: j97 :: j98 :: j99 :: j100 :: j101 :: j102 :: j103 :: j104 :: j105 :: j106 :: j107 :: j108 :: j109 :: j110 :: j111 :: j112 :: j113 :: j114 :: j115 :: j116 :: [])) H kp = ver_checker_place_P7 j0 j1 j5 j6 j9 j10 j46 H (awp Tryz.prog ver_checker_place_ann) kp :=
  (awpX_eq Tryz.prog ver_checker_place_ann ver_checker_place_cut ver_checker_place_c7 (keepS [0, 1, 5, 6, 9, 10, 46, 9999] 0 (j0 :: j1 :: j2 :: j3 :: j4 :: j5 :: j6 :: j7 :: j8 :: j9 :: j10 :: j11 :: j12 :: j13 :: j14 :: j15 :: j16 :: j17 :: j18 :: j19 :: j20 :: j21 :: j22 :: j23 :: j24 :: j25 :: j26 :: j27 :: j28 :: j29 :: j30 :: j31 :: j32 :: j33 :: j34 :: j35 :: j36 :: j37 :: j38 :: j39 :: j40 :: j41 :: j42 :: j43 :: j44 :: j45 :: j46 :: j47 :: j48 :: j49 :: j50 :: j51 :: j52 :: j53 :: j54 :: j55 :: j56 :: j57 :: j58 :: j59 :: j60 :: j61 :: j62 :: j63 :: j64 :: j65 :: j66 :: j67 :: j68 :: j69 :: j70 :: j71 :: j72 :: j73 :: j74 :: j75 :: j76 :: j77 :: j78 :: j79 :: j80 :: j81 :: j82 :: j83 :: j84 :: j85 :: j86 :: j87 :: j88 :: j89 :: j90 :: j91 :: j92 :: j93 :: j94 :: j95 :: j96 :: j97 :: j98 :: j99 :: j100 :: j101 :: j102 :: j103 :: j104 :: j105 :: j106 :: j107 :: j108 :: j109 :: j110 :: j111 :: j112 :: j113 :: j114 :: j115 :: j116 :: [])) H kp).symm.trans (ver_checker_place_P7_x j0 j1 j2 j3 j4 j5 j6 j7 j8 j9 j10 j11 j12 j13 j14 j15 j16 j17 j18 j19 j20 j21 j22 j23 j24 j25 j26 j27 j28 j29 j30 j31 j32 j33 j34 j35 j36 j37 j38 j39 j40 j41 j42 j43 j44 j45 j46 j47 j48 j49 j50 j51 j52 j53 j54 j55 j56 j57 j58 j59 j60 j61 j62 j63 j64 j65 j66 j67 j68 j69 j70 j71 j72 j73 j74 j75 j76 j77 j78 j79 j80 j81 j82 j83 j84 j85 j86 j87 j88 j89 j90 j91 j92 j93 j94 j95 j96 j97 j98 j99 j100 j101 j102 j103 j104 j105 j106 j107 j108 j109 j110 j111 j112 j113 j114 j115 j116 H (awp Tryz.prog ver_checker_place_ann) kp)

def ver_checker_place_P8 (j0 j1 j5 j6 j9 : AV) (H : List Ob) (self : Code → List AV → List Ob → Ko → Prop) (kp : Ko) : Prop :=
  aLen false false j9 fun v438 =>
  self ver_checker_place_c9 (keepS [0, 1, 5, 6, 48, 49, 50, 9999] 0 (j0 :: j1 :: .top :: .top :: .top :: j5 :: j6 :: .top :: .top :: j9 :: .top :: .top :: .top :: .top :: .top :: .top :: .top :: .top :: .top :: .top :: .top :: .top :: .top :: .top :: .top :: .top :: .top :: .top :: .top :: .top :: .top :: .top :: .top :: .top :: .top :: .top :: .top :: .top :: .top :: .top :: .top :: .top :: .top :: .top :: .top :: .top :: .top :: .top :: j9 :: v438 :: (.p (.int .i64 0)) :: .top :: .top :: .top :: .top :: .top :: .top :: .top :: .top :: .top :: .top :: .top :: .top :: .top :: .top :: .top :: .top :: .top :: .top :: .top :: .top :: .top :: .top :: .top :: .top :: .top :: .top :: .top :: .top :: .top :: .top :: .top :: .top :: .top :: .top :: .top :: .top :: .top :: .top :: .top :: .top :: .top :: .top :: .top :: .top :: .top :: .top :: .top :: .top :: .top :: .top :: .top :: .top :: .top :: .top :: .top :: .top :: .top :: .top :: .top :: .top :: .top :: .top :: .top :: .top :: .top :: .top :: [])) H (kSeq self ver_checker_place_c13 [0, 1, 5, 6, 9999] kp)

theorem ver_checker_place_P8_x (j0 j1 j2 j3 j4 j5 j6 j7 j8 j9 j10 j11 j12 j13 j14 j15 j16 j17 j18 j19 j20 j21 j22 j23 j24 j25 j26 j27 j28 j29 j30 j31 j32 j33 j34 j35 j36 j37 j38 j39 j40 j41 j42 j43 j44 j45 j46 j47 j48 j49 j50 j51 j52 j53 j54 j55 j56 j57 j58 j59 j60 j61 j62 j63 j64 j65 j66 j67 j68 j69 j70 j71 j72 j73 j74 j75 j76 j77 j78 j79 j80 j81 j82 j83 j84 j85 j86 j87 j88 j89 j90 j91 j92 j93 j94 j95 j96 j97 j98 j99 j100 j101 j102 j103 j104 j105 j106 j107 j108 j109 j110 j111 j112 j113 j114 j115 j116 : AV) (H : List Ob) (self : Code → List AV → List Ob → Ko → Prop) (kp : Ko) : awpX Tryz.prog ver_checker_place_ann self ver_checker_place_cut ver_checker_place_c8 (keepS [0, 1, 5, 6, 9, 9999] 0 (j0 :: j1 :: j2 :: j3 :: j4 :: j5 :: j6 :: j7 :: j8 :: j9 :: j10 :: j11 :: j12 :: j13 :: j14 :: j15 :: j16 :: j17 :: j18 :: j19 :: j20 :: j21 :: j22 :: j23 :: j24 :: j25 :: j26 :: j27 :: j28 :: j29 :: j30 :: j31 :: j32 :: j33 :: j34 :: j35 :: j36 :: j37 :: j38 :: j39 :: j40 :: j41 :: j42 :: j43 :: j44 :: j45 :: j46 :: j47 :: j48 :: j49 :: j50 :: j51 :: j52 :: j53 :: j54 :: j55 :: j56 :: j57 :: j58 :: j59 :: j60 :: j61 :: j62 :: j63 :: j64 :: j65 :: j66 :: j67 :: j68 :: j69 :: j70 :: j71 :: j72 :: j73 :: j74 :: j75 :: j76 :: j77 :: j78 :: j79 :: j80 :: j81 :: j82 :: j83 :: j84 :: j85 :: j86 :: j87 :: j88 :: j89 :: j90 :: j91 :: j92 :: j93 :: j94 :: j95 :: j96 :: j97 :: j98 :: j99 :: j100 :: j101 :: j102 :: j103 :: j104 :: j105 :: j106 :: j107 :: j108 :: j109 :: j110 :: j111 :: j112 :: j113 :: j114 :: j115 :: j116 :: [])) H kp = ver_checker_place_P8 j0 j1 j5 j6 j9 H self kp := by kernel_rfl

theorem ver_checker_place_c8_eq (j0 j1 j2 j3 j4 j5 j6 j7 j8 j9 j10 j11 j12 j13 j14 j15 j16 j17 j18 j19 j20 j21 j22 j23 j24 j25 j26 j27 j28 j29 j30 j31 j32 j33 j34 j35 j36 j37 j38 j39 j40 j41 j42 j43 j44 j45 j46 j47 j48 j49 j50 j51 j52 j53 j54 j55 j56 j57 j58 j59 j60 j61 j62 j63 j64 j65 j66 j67 j68 j69 j70 j71 j72 j73 j74 j75 j76 j77 j78 j79 j80 j81 j82 j83 j84 j85 j86 j87 j88 j89 j90 j91 j92 j93 j94 j95 j96 j97 j98 j99 j100 j101 j102 j103 j104 j105 j106 j107 j108 j109 j110 j111 j112 j113 j114 j115 j116 : AV) (H : List Ob) (kp : Ko) : awp Tryz.prog ver_checker_place_ann ver_checker_place_c8 (keepS [0, 1, 5, 6, 9, 9999] 0 (j0 :: j1 :: j2 :: j3 :: j4 :: j5 :: j6 :: j7 :: j8 :: j9 :: j10 :: j11 :: j12 :: j13 :: j14 :: j15 :: j16 :: j17 :: j18 :: j19 :: j20 :: j21 :: j22 :: j23 :: j24 :: j25 :: j26 :: j27 :: j28 :: j29 :: j30 :: j31 :: j32 :: j33 :: j34 :: j35 :: j36 :: j37 :: j38 :: j39 :: j40 :: j41 :: j42 :: j43 :: j44 :: j45 :: j46 :: j47 :: j48 :: j49 :: j50 :: j51 :: j52 :: j53 :: j54 :: j55 :: j56 :: j57 :: j58 :: j59 :: j60 :: j61 :: j62 :: j63 :: j64 :: j65 :: j66 :: j67 :: j68 :: j69 :: j70 :: j71 :: j72 :: j73 :: j74 :: j75 :: j76 :: j77 :: j78 :: j79 :: j80 :: j81 :: j82 :: j83 :: j84 :: j85 :: j86 :: j87 :: j88 :: j89 :: j90 :: j91 :: j92 :: j93 :: j94 :: j95 :: j96 :: j97 :: j98 :: j99 :: j100 :: j101 :: j102 :: j103 :: j104 :: j105 :: j106 :: j107 :: j108 :: j109 :: j110 :: j111 :: j112 :: j113 :: j114 :: j115 :: j116 :: [])) H kp = ver_checker_place_P8 j0 j1 j5 j6 j9 H (awp Tryz.prog ver_checker_place_ann) kp :=
  (awpX_eq Tryz.prog ver_checker_place_ann ver_checker_place_cut ver_checker_place_c8 (keepS [0, 1, 5, 6, 9, 9999] 0 (j0 :: j1 :: j2 :: j3 :: j4 :: j5 :: j6 :: j7 :: j8 :: j9 :: j10 :: j11 :: j12 :: j13 :: j14 :: j15 :: j16 :: j17 :: j18 :: j19 :: j20 :: j21 :: j22 :: j23 :: j24 :: j25 :: j26 :: j27 :: j28 :: j29 :: j30 :: j31 :: j32 :: j33 :: j34 :: j35 :: j36 :: j37 :: j38 :: j39 :: j40 :: j41 :: j42 :: j43 :: j44 :: j45 :: j46 :: j47 :: j48 :: j49 :: j50 :: j51 :: j52 :: j53 :: j54 :: j55 :: j56 :: j57 :: j58 :: j59 :: j60 :: j61 :: j62 :: j63 :: j64 :: j65 :: j66 :: j67 :: j68 :: j69 :: j70 :: j71 :: j72 :: j73 :: j74 :: j75 :: j76 :: j77 :: j78 :: j79 :: j80 :: j81 :: j82 :: j83 :: j84 :: j85 :: j86 :: j87 :: j88 :: j89 :: j90 :: j91 :: j92 :: j93 :: j94 :: j95 :: j96 :: j97 :: j98 :: j99 :: j100 :: j101 :: j102 :: j103 :: j104 :: j105 :: j106 :: j107 :: j108 :: j109 :: j110 :: j111 :: j112 :: j113 :: j114 :: j115 :: j116 :: [])) H kp).symm.trans (ver_checker_place_P8_x j0 j1 j2 j3 j4 j5 j6 j7 j8 j9 j10 j11 j12 j13 j14 j15 j16 j17 j18 j19 j20 j21 j22 j23 j24 j25 j26 j27 j28 j29 j30 j31 j32 j33 j34 j35 j36 j37 j38 j39 j40 j41 j42 j43 j44 j45 j46 j47 j48 j49 j50 j51 j52 j53 j54 j55 j56 j57 j58 j59 j60 j61 j62 j63 j64 j65 j66 j67 j68 j69 j70 j71 j72 j73 j74 j75 j76 j77 j78 j79 j80 j81 j82 j83 j84 j85 j86 j87 j88 j89 j90 j91 j92 j93 j94 j95 j96 j97 j98 j99 j100 j101 j102 j103 j104 j105 j106 j107 j108 j109 j110 j111 j112 j113 j114 j115 j116 H (awp Tryz.prog ver_checker_place_ann) kp)

def ver_checker_place_L1 (q1s0 q1s1 q1s5 q1s6 q1s48 q1s49 y0 : AV) (H : List Ob) (B1 : List AV → List Ob → Prop) (self : Code → List AV → List Ob → Ko → Prop) (kp : Ko) : Prop :=
  aBin false false .lss y0 q1s49 fun v439 =>
  aGuard v439
  (aIndexAddr 2 q1s48 y0 fun v440 =>
  aLoad true 2 v440 H fun v441 =>
  aAlloc [(.p (.int .i64 0)), (.full [])] H fun v442 h443 =>
  aStore 2 v442 v441 h443 fun _ h445 =>
  self ver_checker_place_c11 (keepS [0, 1, 5, 6, 12, 48, 49, 50, 9999] 0 (q1s0 :: q1s1 :: .top :: .top :: .top :: q1s5 :: q1s6 :: .top :: .top :: .top :: .top :: .top :: v442 :: .top :: .top :: .top :: .top :: .top :: .top :: .top :: .top :: .top :: .top :: .top :: .top :: .top :: .top :: .top :: .top :: .top :: .top :: .top :: .top :: .top :: .top :: .top :: .top :: .top :: .top :: .top :: .top :: .top :: .top :: .top :: .top :: .top :: .top :: .top :: q1s48 :: q1s49 :: y0 :: (.p (.bool true)) :: v440 :: v441 :: .top :: .top :: .top :: .top :: .top :: .top :: .top :: .top :: .top :: .top :: .top :: .top :: .top :: .top :: .top :: .top :: .top :: .top :: .top :: .top :: .top :: .top :: .top :: .top :: .top :: .top :: .top :: .top :: .top :: .top :: .top :: .top :: .top :: .top :: .top :: .top :: .top :: .top :: .top :: .top :: .top :: .top :: .top :: .top :: .top :: .top :: .top :: .top :: .top :: .top :: .top :: .top :: .top :: .top :: .top :: .top :: .top :: .top :: .top :: .top :: .top :: .top :: .top :: [])) h445 (kBlock 1 (kSeq self ver_checker_place_c12 [0, 1, 5, 6, 48, 49, 50, 9999] (kLoop [50] B1 (kBlock 0 kp)))))
  (kp .normal (q1s0 :: q1s1 :: .top :: .top :: .top :: q1s5 :: q1s6 :: .top :: .top :: .top :: .top :: .top :: .top :: .top :: .top :: .top :: .top :: .top :: .top :: .top :: .top :: .top :: .top :: .top :: .top :: .top :: .top :: .top :: .top :: .top :: .top :: .top :: .top :: .top :: .top :: .top :: .top :: .top :: .top :: .top :: .top :: .top :: .top :: .top :: .top :: .top :: .top :: .top :: q1s48 :: q1s49 :: y0 :: (.p (.bool false)) :: .top :: .top :: .top :: .top :: .top :: .top :: .top :: .top :: .top :: .top :: .top :: .top :: .top :: .top :: .top :: .top :: .top :: .top :: .top :: .top :: .top :: .top :: .top :: .top :: .top :: .top :: .top :: .top :: .top :: .top :: .top :: .top :: .top :: .top :: .top :: .top :: .top :: .top :: .top :: .top :: .top :: .top :: .top :: .top :: .top :: .top :: .top :: .top :: .top :: .top :: .top :: .top :: .top :: .top :: .top :: .top :: .top :: .top :: .top :: .top :: .top :: .top :: .top :: .top :: .top :: []) H)

def ver_checker_place_P9 (j0 j1 j5 j6 j48 j49 j50 : AV) (H : List Ob) (self : Code → List AV → List Ob → Ko → Prop) (kp : Ko) : Prop :=
  aLoopN 1 [j50] H fun xs H B1 => ver_checker_place_L1 j0 j1 j5 j6 j48 j49 (xs.getD 0 .top) H B1 self kp

theorem ver_checker_place_P9_x (j0 j1 j2 j3 j4 j5 j6 j7 j8 j9 j10 j11 j12 j13 j14 j15 j16 j17 j18 j19 j20 j21 j22 j23 j24 j25 j26 j27 j28 j29 j30 j31 j32 j33 j34 j35 j36 j37 j38 j39 j40 j41 j42 j43 j44 j45 j46 j47 j48 j49 j50 j51 j52 j53 j54 j55 j56 j57 j58 j59 j60 j61 j62 j63 j64 j65 j66 j67 j68 j69 j70 j71 j72 j73 j74 j75 j76 j77 j78 j79 j80 j81 j82 j83 j84 j85 j86 j87 j88 j89 j90 j91 j92 j93 j94 j95 j96 j97 j98 j99 j100 j101 j102 j103 j104 j105 j106 j107 j108 j109 j110 j111 j112 j113 j114 j115 j116 : AV) (H : List Ob) (self : Code → List AV → List Ob → Ko → Prop) (kp : Ko) : awpX Tryz.prog ver_checker_place_ann self ver_checker_place_cut ver_checker_place_c9 (keepS [0, 1, 5, 6, 48, 49, 50, 9999] 0 (j0 :: j1 :: j2 :: j3 :: j4 :: j5 :: j6 :: j7 :: j8 :: j9 :: j10 :: j11 :: j12 :: j13 :: j14 :: j15 :: j16 :: j17 :: j18 :: j19 :: j20 :: j21 :: j22 :: j23 :: j24 :: j25 :: j26 :: j27 :: j28 :: j29 :: j30 :: j31 :: j32 :: j33 :: j34 :: j35 :: j36 :: j37 :: j38 :: j39 :: j40 :: j41 :: j42 :: j43 :: j44 :: j45 :: j46 :: j47 :: j48 :: j49 :: j50 :: j51 :: j52 :: j53 :: j54 :: j55 :: j56 :: j57 :: j58 :: j59 :: j60 :: j61 :: j62 :: j63 :: j64 :: j65 :: j66 :: j67 :: j68 :: j69 :: j70 :: j71 :: j72 :: j73 :: j74 :: j75 :: j76 :: j77 :: j78 :: j79 :: j80 :: j81 :: j82 :: j83 :: j84 :: j85 :: j86 :: j87 :: j88 :: j89 :: j90 :: j91 :: j92 :: j93 :: j94 :: j95 :: j96 :: j97 :: j98 :: j99 :: j100 :: j101 :: j102 :: j103 :: j104 :: j105 :: j106 :: j107 :: j108 :: j109 :: j110 :: j111 :: j112 :: j113 :: j114 :: j115 :: j116 :: [])) H kp = ver_checker_place_P9 j0 j1 j5 j6 j48 j49 j50 H self kp := by kernel_rfl

theorem ver_checker_place_c9_eq (j0 j1 j2 j3 j4 j5 j6 j7 j8 j9 j10 j11 j12 j13 j14 j15 j16 j17 j18 j19 j20 j21 j22 j23 j24 j25 j26 j27 j28 j29 j30 j31 j32 j33 j34 j35 j36 j37 j38 j39 j40 j41 j42 j43 j44 j45 j46 j47 j48 j49 j50 j51 j52 j53 j54 j55 j56 j57 j58 j59 j60 j61 j62 j63 j64 j65 j66 j67 j68 j69 j70 j71 j72 j73 j74 j75 j76 j77 j78 j79 j80 j81 j82 j83 j84 j85 j86 j87 j88 j89 j90 j91 j92 j93 j94 j95 j96 j97 j98 j99 j100 j101 j102 j103 j104 j105 j106 j107 j108 j109 j110 j111 j112 j113 j114 j115 j116 : AV) (H : List Ob) (kp : Ko) : awp Tryz.prog ver_checker_place_ann ver_checker_place_c9 (keepS [0, 1, 5, 6, 48, 49, 50, 9999] 0 (j0 :: j1 :: j2 :: j3 :: j4 :: j5 :: j6 :: j7 :: j8 :: j9 :: j10 :: j11 :: j12 :: j13 :: j14 :: j15 :: j16 :: j17 :: j18 :: j19 :: j20 :: j21 :: j22 :: j23 :: j24 :: j25 :: j26 :: j27 :: j28 :: j29 :: j30 :: j31 :: j32 :: j33 :: j34 :: j35 :: j36 :: j37 :: j38 :: j39 :: j40 :: j41 :: j42 :: j43 :: j44 :: j45 :: j46 :: j47 :: j48 :: j49 :: j50 :: j51 :: j52 :: j53 :: j54 :: j55 :: j56 :: j57 :: j58 :: j59 :: j60 :: j61 :: j62 :: j63 :: j64 :: j65 :: j66 :: j67 :: j68 :: j69 :: j70 :: j71 :: j72 :: j73 :: j74 :: j75 :: j76 :: j77 :: j78 :: j79 :: j80 :: j81 :: j82 :: j83 :: j84 :: j85 :: j86 :: j87 :: j88 :: j89 :: j90 :: j91 :: j92 :: j93 :: j94 :: j95 :: j96 :: j97 :: j98 :: j99 :: j100 :: j101 :: j102 :: j103 :: j104 :: j105 :: j106 :: j107 :: j108 :: j109 :: j110 :: j111 :: j112 :: j113 :: j114 :: j115 :: j116 :: [])) H kp = ver_checker_place_P9 j0 j1 j5 j6 j48 j49 j50 H (awp Tryz.prog ver_checker_place_ann) kp :=
  (awpX_eq Tryz.prog ver_checker_place_ann ver_checker_place_cut ver_checker_place_c9 (keepS [0, 1, 5, 6, 48, 49, 50, 9999] 0 (j0 :: j1 :: j2 :: j3 :: j4 :: j5 :: j6 :: j7 :: j8 :: j9 :: j10 :: j11 :: j12 :: j13 :: j14 :: j15 :: j16 :: j17 :: j18 :: j19 :: j20 :: j21 :: j22 :: j23 :: j24 :: j25 :: j26 :: j27 :: j28 :: j29 :: j30 :: j31 :: j32 :: j33 :: j34 :: j35 :: j36 :: j37 :: j38 :: j39 :: j40 :: j41 :: j42 :: j43 :: j44 :: j45 :: j46 :: j47 :: j48 :: j49 :: j50 :: j51 :: j52 :: j53 :: j54 :: j55 :: j56 :: j57 :: j58 :: j59 :: j60 :: j61 :: j62 :: j63 :: j64 :: j65 :: j66 :: j67 :: j68 :: j69 :: j70 :: j71 :: j72 :: j73 :: j74 :: j75 :: j76 :: j77 :: j78 :: j79 :: j80 :: j81 :: j82 :: j83 :: j84 :: j85 :: j86 :: j87 :: j88 :: j89 :: j90 :: j91 :: j92 :: j93 :: j94 :: j95 :: j96 :: j97 :: j98 :: j99 :: j100 :: j101 :: j102 :: j103 :: j104 :: j105 :: j106 :: j107 :: j108 :: j109 :: j110 :: j111 :: j112 :: j113 :: j114 :: j115 :: j116 :: [])) H kp).symm.trans (ver_checker_place_P9_x j0 j1 j2 j3 j4 j5 j6 j7 j8 j9 j10 j11 j12 j13 j14 j15 j16 j17 j18 j19 j20 j21 j22 j23 j24 j25 j26 j27 j28 j29 j30 j31 j32 j33 j34 j35 j36 j37 j38 j39 j40 j41 j42 j43 j44 j45 j46 j47 j48 j49 j50 j51 j52 j53 j54 j55 j56 j57 j58 j59 j60 j61 j62 j63 j64 j65 j66 j67 j68 j69 j70 j71 j72 j73 j74 j75 j76 j77 j78 j79 j80 j81 j82 j83 j84 j85 j86 j87 j88 j89 j90 j91 j92 j93 j94 j95 j96 j97 j98 j99 j100 j101 j102 j103 j104 j105 j106 j107 j108 j109 j110 j111 j112 j113 j114 j115 j116 H (awp Tryz.prog ver_checker_place_ann) kp)

def ver_checker_place_P11 (j0 j1 j5 j6 j12 j48 j49 j50 : AV) (H : List Ob) (_ : Code → List AV → List Ob → Ko → Prop) (kp : Ko) : Prop :=
  aLoad true 2 j12 H fun v446 =>
  aCall Tryz.prog (.p (.func ver_Stack_typ_Type_Push_i [])) [j6, v446] H fun v447 h448 =>
  kp .normal (j0 :: j1 :: .top :: .top :: .top :: j5 :: j6 :: .top :: .top :: .top :: .top :: .top :: j12 :: .top :: .top :: .top :: .top :: .top :: .top :: .top :: .top :: .top :: .top :: .top :: .top :: .top :: .top :: .top :: .top :: .top :: .top :: .top :: .top :: .top :: .top :: .top :: .top :: .top :: .top :: .top :: .top :: .top :: .top :: .top :: .top :: .top :: .top :: .top :: j48 :: j49 :: j50 :: .top :: .top :: .top :: j6 :: v446 :: v447 :: .top :: .top :: .top :: .top :: .top :: .top :: .top :: .top :: .top :: .top :: .top :: .top :: .top :: .top :: .top :: .top :: .top :: .top :: .top :: .top :: .top :: .top :: .top :: .top :: .top :: .top :: .top :: .top :: .top :: .top :: .top :: .top :: .top :: .top :: .top :: .top :: .top :: .top :: .top :: .top :: .top :: .top :: .top :: .top :: .top :: .top :: .top :: .top :: .top :: .top :: .top :: .top :: .top :: .top :: .top :: .top :: .top :: .top :: .top :: .top :: []) h448

theorem ver_checker_place_P11_x (j0 j1 j2 j3 j4 j5 j6 j7 j8 j9 j10 j11 j12 j13 j14 j15 j16 j17 j18 j19 j20 j21 j22 j23 j24 j25 j26 j27 j28 j29 j30 j31 j32 j33 j34 j35 j36 j37 j38 j39 j40 j41 j42 j43 j44 j45 j46 j47 j48 j49 j50 j51 j52 j53 j54 j55 j56 j57 j58 j59 j60 j61 j62 j63 j64 j65 j66 j67 j68 j69 j70 j71 j72 j73 j74 j75 j76 j77 j78 j79 j80 j81 j82 j83 j84 j85 j86 j87 j88 j89 j90 j91 j92 j93 j94 j95 j96 j97 j98 j99 j100 j101 j102 j103 j104 j105 j106 j107 j108 j109 j110 j111 j112 j113 j114 j115 j116 : AV) (H : List Ob) (self : Code → List AV → List Ob → Ko → Prop) (kp : Ko) : awpX Tryz.prog ver_checker_place_ann self ver_checker_place_cut ver_checker_place_c11 (keepS [0, 1, 5, 6, 12, 48, 49, 50, 9999] 0 (j0 :: j1 :: j2 :: j3 :: j4 :: j5 :: j6 :: j7 :: j8 :: j9 :: j10 :: j11 :: j12 :: j13 :: j14 :: j15 :: j16 :: j17 :: j18 :: j19 :: j20 :: j21 :: j22 :: j23 :: j24 :: j25 :: j26 :: j27 :: j28 :: j29 :: j30 :: j31 :: j32 :: j33 :: j34 :: j35 :: j36 :: j37 :: j38 :: j39 :: j40 :: j41 :: j42 :: j43 :: j44 :: j45 :: j46 :: j47 :: j48 :: j49 :: j50 :: j51 :: j52 :: j53 :: j54 :: j55 :: j56 :: j57 :: j58 :: j59 :: j60 :: j61 :: j62 :: j63 :: j64 :: j65 :: j66 :: j67 :: j68 :: j69 :: j70 :: j71 :: j72 :: j73 :: j74 :: j75 :: j76 :: j77 :: j78 :: j79 :: j80 :: j81 :: j82 :: j83 :: j84 :: j85 :: j86 :: j87 :: j88 :: j89 :: j90 :: j91 :: j92 :: j93 :: j94 :: j95 :: j96 :: j97 :: j98 :: j99 :: j100 :: j101 :: j102 :: j103 :: j104 :: j105 :: j106 :: j107 :: j108 :: j109 :: j110 :: j111 :: j112 :: j113 :: j114 :: j115 :: j116 :: [])) H kp = ver_checker_place_P11 j0 j1 j5 j6 j12 j48 j49 j50 H self kp := by kernel_rfl

theorem ver_checker_place_c11_eq (j0 j1 j2 j3 j4 j5 j6 j7 j8 j9 j10 j11 j12 j13 j14 j15 j16 j17 j18 j19 j20 j21 j22 j23 j24 j25 j26 j27 j28 j29 j30 j31 j32 j33 j34 j35 j36 j37 j38 j39 j40 j41 j42 j43 j44 j45 j46 j47 j48 j49 j50 j51 j52 j53 j54 j55 j56 j57 j58 j59 j60 j61 j62 j63 j64 j65 j66 j67 j68 j69 j70 j71 j72 j73 j74 j75 j76 j77 j78 j79 j80 j81 j82 j83 j84 j85 j86 j87 j88 j89 j90 j91 j92 j93 j94 j95 j96 j97 j98 j99 j100 j101 j102 j103 j104 j105 j106 j107 j108 j109 j110 j111 j112 j113 j114 j115 j116 : AV) (H : List Ob) (kp : Ko) : awp Tryz.prog ver_checker_place_ann ver_checker_place_c11 (keepS [0, 1, 5, 6, 12, 48, 49, 50, 9999] 0 (j0 :: j1 :: j2 :: j3 :: j4 :: j5 :: j6 :: j7 :: j8 :: j9 :: j10 :: j11 :: j12 :: j13 :: j14 :: j15 :: j16 :: j17 :: j18 :: j19 :: j20 :: j21 :: j22 :: j23 :: j24 :: j25 :: j26 :: j27 :: j28 :: j29 :: j30 :: j31 :: j32 :: j33 :: j34 :: j35 :: j36 :: j37 :: j38 :: j39 :: j40 :: j41 :: j42 :: j43 :: j44 :: j45 :: j46 :: j47 :: j48 :: j49 :: j50 :: j51 :: j52 :: j53 :: j54 :: j55 :: j56 :: j57 :: j58 :: j59 :: j60 :: j61 :: j62 :: j63 :: j64 :: j65 :: j66 :: j67 :: j68 :: j69 :: j70 :: j71 :: j72 :: j73 :: j74 :: j75 :: j76 :: j77 :: j78 :: j79 :: j80 :: j81 :: j82 :: j83 :: j84 :: j85 :: j86 :: j87 :: j88 :: j89 :: j90 :: j91 :: j92 :: j93 :: j94 :: j95 :: j96 :: j97 :: j98 :: j99 :: j100 :: j101 :: j102 :: j103 :: j104 :: j105 :: j106 :: j107 :: j108 :: j109 :: j110 :: j111 :: j112 :: j113 :: j114 :: j115 :: j116 :: [])) H kp = ver_checker_place_P11 j0 j1 j5 j6 j12 j48 j49 j50 H (awp Tryz.prog ver_checker_place_ann) kp :=
  (awpX_eq Tryz.prog ver_checker_place_ann ver_checker_place_cut ver_checker_place_c11 (keepS [0, 1, 5, 6, 12, 48, 49, 50, 9999] 0 (j0 :: j1 :: j2 :: j3 :: j4 :: j5 :: j6 :: j7 :: j8 :: j9 :: j10 :: j11 :: j12 :: j13 :: j14 :: j15 :: j16 :: j17 :: j18 :: j19 :: j20 :: j21 :: j22 :: j23 :: j24 :: j25 :: j26 :: j27 :: j28 :: j29 :: j30 :: j31 :: j32 :: j33 :: j34 :: j35 :: j36 :: j37 :: j38 :: j39 :: j40 :: j41 :: j42 :: j43 :: j44 :: j45 :: j46 :: j47 :: j48 :: j49 :: j50 :: j51 :: j52 :: j53 :: j54 :: j55 :: j56 :: j57 :: j58 :: j59 :: j60 :: j61 :: j62 :: j63 :: j64 :: j65 :: j66 :: j67 :: j68 :: j69 :: j70 :: j71 :: j72 :: j73 :: j74 :: j75 :: j76 :: j77 :: j78 :: j79 :: j80 :: j81 :: j82 :: j83 :: j84 :: j85 :: j86 :: j87 :: j88 :: j89 :: j90 :: j91 :: j92 :: j93 :: j94 :: j95 :: j96 :: j97 :: j98 :: j99 :: j100 :: j101 :: j102 :: j103 :: j104 :: j105 :: j106 :: j107 :: j108 :: j109 :: j110 :: j111 :: j112 :: j113 :: j114 :: j115 :: j116 :: [])) H kp).symm.trans (ver_checker_place_P11_x j0 j1 j2 j3 j4 j5 j6 j7 j8 j9 j10 j11 j12 j13 j14 j15 j16 j17 j18 j19 j20 j21 j22 j23 j24 j25 j26 j27 j28 j29 j30 j31 j32 j33 j34 j35 j36 j37 j38 j39 j40 j41 j42 j43 j44 j45 j46 j47 j48 j49 j50 j51 j52 j53 j54 j55 j56 j57 j58 j59 j60 j61 j62 j63 j64 j65 j66 j67 j68 j69 j70 j71 j72 j73 j74 j75 j76 j77 j78 j79 j80 j81 j82 j83 j84 j85 j86 j87 j88 j89 j90 j91 j92 j93 j94 j95 j96 j97 j98 j99 j100 j101 j102 j103 j104 j105 j106 j107 j108 j109 j110 j111 j112 j113 j114 j115 j116 H (awp Tryz.prog ver_checker_place_ann) kp)

def ver_checker_place_P12 (j0 j1 j5 j6 j48 j49 j50 : AV) (H : List Ob) (_ : Code → List AV → List Ob → Ko → Prop) (kp : Ko) : Prop :=
  aBin false false .add j50 (.p (.int .i64 1)) fun v449 =>
  kp .normal (j0 :: j1 :: .top :: .top :: .top :: j5 :: j6 :: .top :: .top :: .top :: .top :: .top :: .top :: .top :: .top :: .top :: .top :: .top :: .top :: .top :: .top :: .top :: .top :: .top :: .top :: .top :: .top :: .top :: .top :: .top :: .top :: .top :: .top :: .top :: .top :: .top :: .top :: .top :: .top :: .top :: .top :: .top :: .top :: .top :: .top :: .top :: .top :: .top :: j48 :: j49 :: v449 :: .top :: .top :: .top :: .top :: .top :: .top :: v449 :: .top :: .top :: .top :: .top :: .top :: .top :: .top :: .top :: .top :: .top :: .top :: .top :: .top :: .top :: .top :: .top :: .top :: .top :: .top :: .top :: .top :: .top :: .top :: .top :: .top :: .top :: .top :: .top :: .top :: .top :: .top :: .top :: .top :: .top :: .top :: .top :: .top :: .top :: .top :: .top :: .top :: .top :: .top :: .top :: .top :: .top :: .top :: .top :: .top :: .top :: .top :: .top :: .top :: .top :: .top :: .top :: .top :: .top :: .top :: []) H

theorem ver_checker_place_P12_x (j0 j1 j2 j3 j4 j5 j6 j7 j8 j9 j10 j11 j12 j13 j14 j15 j16 j17 j18 j19 j20 j21 j22 j23 j24 j25 j26 j27 j28 j29 j30 j31 j32 j33 j34 j35 j36 j37 j38 j39 j40 j41 j42 j43 j44 j45 j46 j47 j48 j49 j50 j51 j52 j53 j54 j55 j56 j57 j58 j59 j60 j61 j62 j63 j64 j65 j66 j67 j68 j69 j70 j71 j72 j73 j74 j75 j76 j77 j78 j79 j80 j81 j82 j83 j84 j85 j86 j87 j88 j89 j90 j91 j92 j93 j94 j95 j96 j97 j98 j99 j100 j101 j102 j103 j104 j105 j106 j107 j108 j109 j110 j111 j112 j113 j114 j115 j116 : AV) (H : List Ob) (self : Code → List AV → List Ob → Ko → Prop) (kp : Ko) : awpX Tryz.prog ver_checker_place_ann self ver_checker_place_cut ver_checker_place_c12 (keepS [0, 1, 5, 6, 48, 49, 50, 9999] 0 (j0 :: j1 :: j2 :: j3 :: j4 :: j5 :: j6 :: j7 :: j8 :: j9 :: j10 :: j11 :: j12 :: j13 :: j14 :: j15 :: j16 :: j17 :: j18 :: j19 :: j20 :: j21 :: j22 :: j23 :: j24 :: j25 :: j26 :: j27 :: j28 :: j29 :: j30 :: j31 :: j32 :: j33 :: j34 :: j35 :: j36 :: j37 :: j38 :: j39 :: j40 :: j41 :: j42 :: j43 :: j44 :: j45 :: j46 :: j47 :: j48 :: j49 :: j50 :: j51 :: j52 :: j53 :: j54 :: j55 :: j56 :: j57 :: j58 :: j59 :: j60 :: j61 :: j62 :: j63 :: j64 :: j65 :: j66 :: j67 :: j68 :: j69 :: j70 :: j71 :: j72 :: j73 :: j74 :: j75 :: j76 :: j77 :: j78 :: j79 :: j80 :: j81 :: j82 :: j83 :: j84 :: j85 :: j86 :: j87 :: j88 :: j89 :: j90 :: j91 :: j92 :: j93 :: j94 :: j95 :: j96 :: j97 :: j98 :: j99 :: j100 :: j101 :: j102 :: j103 :: j104 :: j105 :: j106 :: j107 :: j108 :: j109 :: j110 :: j111 :: j112 :: j113 :: j114 :: j115 :: j116 :: [])) H kp = ver_checker_place_P12 j0 j1 j5 j6 j48 j49 j50 H self kp := by kernel_rfl

theorem ver_checker_place_c12_eq (j0 j1 j2 j3 j4 j5 j6 j7 j8 j9 j10 j11 j12 j13 j14 j15 j16 j17 j18 j19 j20 j21 j22 j23 j24 j25 j26 j27 j28 j29 j30 j31 j32 j33 j34 j35 j36 j37 j38 j39 j40 j41 j42 j43 j44 j45 j46 j47 j48 j49 j50 j51 j52 j53 j54 j55 j56 j57 j58 j59 j60 j61 j62 j63 j64 j65 j66 j67 j68 j69 j70 j71 j72 j73 j74 j75 j76 j77 j78 j79 j80 j81 j82 j83 j84 j85 j86 j87 j88 j89 j90 j91 j92 j93 j94 j95 j96 j97 j98 j99 j100 j101 j102 j103 j104 j105 j106 j107 j108 j109 j110 j111 j112 j113 j114 j115 j116 : AV) (H : List Ob) (kp : Ko) : awp Tryz.prog ver_checker_place_ann ver_checker_place_c12 (keepS [0, 1, 5, 6, 48, 49, 50, 9999] 0 (j0 :: j1 :: j2 :: j3 :: j4 :: j5 :: j6 :: j7 :: j8 :: j9 :: j10 :: j11 :: j12 :: j13 :: j14 :: j15 :: j16 :: j17 :: j18 :: j19 :: j20 :: j21 :: j22 :: j23 :: j24 :: j25 :: j26 :: j27 :: j28 :: j29 :: j30 :: j31 :: j32 :: j33 :: j34 :: j35 :: j36 :: j37 :: j38 :: j39 :: j40 :: j41 :: j42 :: j43 :: j44 :: j45 :: j46 :: j47 :: j48 :: j49 :: j50 :: j51 :: j52 :: j53 :: j54 :: j55 :: j56 :: j57 :: j58 :: j59 :: j60 :: j61 :: j62 :: j63 :: j64 :: j65 :: j66 :: j67 :: j68 :: j69 :: j70 :: j71 :: j72 :: j73 :: j74 :: j75 :: j76 :: j77 :: j78 :: j79 :: j80 :: j81 :: j82 :: j83 :: j84 :: j85 :: j86 :: j87 :: j88 :: j89 :: j90 :: j91 :: j92 :: j93 :: j94 :: j95 :: j96 :: j97 :: j98 :: j99 :: j100 :: j101 :: j102 :: j103 :: j104 :: j105 :: j106 :: j107 :: j108 :: j109 :: j110 :: j111 :: j112 :: j113 :: j114 :: j115 :: j116 :: [])) H kp = ver_checker_place_P12 j0 j1 j5 j6 j48 j49 j50 H (awp Tryz.prog ver_checker_place_ann) kp :=
  (awpX_eq Tryz.prog ver_checker_place_ann ver_checker_place_cut ver_checker_place_c12 (keepS [0, 1, 5, 6, 48, 49, 50, 9999] 0 (j0 :: j1 :: j2 :: j3 :: j4 :: j5 :: j6 :: j7 :: j8 :: j9 :: j10 :: j11 :: j12 :: j13 :: j14 :: j15 :: j16 :: j17 :: j18 :: j19 :: j20 :: j21 :: j22 :: j23 :: j24 :: j25 :: j26 :: j27 :: j28 :: j29 :: j30 :: j31 :: j32 :: j33 :: j34 :: j35 :: j36 :: j37 :: j38 :: j39 :: j40 :: j41 :: j42 :: j43 :: j44 :: j45 :: j46 :: j47 :: j48 :: j49 :: j50 :: j51 :: j52 :: j53 :: j54 :: j55 :: j56 :: j57 :: j58 :: j59 :: j60 :: j61 :: j62 :: j63 :: j64 :: j65 :: j66 :: j67 :: j68 :: j69 :: j70 :: j71 :: j72 :: j73 :: j74 :: j75 :: j76 :: j77 :: j78 :: j79 :: j80 :: j81 :: j82 :: j83 :: j84 :: j85 :: j86 :: j87 :: j88 :: j89 :: j90 :: j91 :: j92 :: j93 :: j94 :: j95 :: j96 :: j97 :: j98 :: j99 :: j100 :: j101 :: j102 :: j103 :: j104 :: j105 :: j106 :: j107 :: j108 :: j109 :: j110 :: j111 :: j112 :: j113 :: j114 :: j115 :: j116 :: [])) H kp).symm.trans (ver_checker_place_P12_x j0 j1 j2 j3 j4 j5 j6 j7 j8 j9 j10 j11 j12 j13 j14 j15 j16 j17 j18 j19 j20 j21 j22 j23 j24 j25 j26 j27 j28 j29 j30 j31 j32 j33 j34 j35 j36 j37 j38 j39 j40 j41 j42 j43 j44 j45 j46 j47 j48 j49 j50 j51 j52 j53 j54 j55 j56 j57 j58 j59 j60 j61 j62 j63 j64 j65 j66 j67 j68 j69 j70 j71 j72 j73 j74 j75 j76 j77 j78 j79 j80 j81 j82 j83 j84 j85 j86 j87 j88 j89 j90 j91 j92 j93 j94 j95 j96 j97 j98 j99 j100 j101 j102 j103 j104 j105 j106 j107 j108 j109 j110 j111 j112 j113 j114 j115 j116 H (awp Tryz.prog ver_checker_place_ann) kp)

def ver_checker_place_P13 (j0 j1 j5 j6 : AV) (H : List Ob) (self : Code → List AV → List Ob → Ko → Prop) (kp : Ko) : Prop :=
  aCall Tryz.prog (.p (.func ver_Stack_typ_Type_Len_i [])) [j6] H fun v450 h451 =>
  aBin false false .gtr v450 (.p (.int .i64 128)) fun v452 =>
  self ver_checker_place_c14 (keepS [0, 1, 5, 6, 58, 9999] 0 (j0 :: j1 :: .top :: .top :: .top :: j5 :: j6 :: .top :: .top :: .top :: .top :: .top :: .top :: .top :: .top :: .top :: .top :: .top :: .top :: .top :: .top :: .top :: .top :: .top :: .top :: .top :: .top :: .top :: .top :: .top :: .top :: .top :: .top :: .top :: .top :: .top :: .top :: .top :: .top :: .top :: .top :: .top :: .top :: .top :: .top :: .top :: .top :: .top :: .top :: .top :: .top :: .top :: .top :: .top :: .top :: .top :: .top :: .top :: v452 :: j6 :: v450 :: v452 :: .top :: .top :: .top :: .top :: .top :: .top :: .top :: .top :: .top :: .top :: .top :: .top :: .top :: .top :: .top :: .top :: .top :: .top :: .top :: .top :: .top :: .top :: .top :: .top :: .top :: .top :: .top :: .top :: .top :: .top :: .top :: .top :: .top :: .top :: .top :: .top :: .top :: .top :: .top :: .top :: .top :: .top :: .top :: .top :: .top :: .top :: .top :: .top :: .top :: .top :: .top :: .top :: .top :: .top :: .top :: [])) h451 (kSeq self ver_checker_place_c16 [0, 1, 5, 6, 58, 9999] (kBlock 2 (kSeq self ver_checker_place_c21 [0, 1, 5, 6, 9999] kp)))

theorem ver_checker_place_P13_x (j0 j1 j2 j3 j4 j5 j6 j7 j8 j9 j10 j11 j12 j13 j14 j15 j16 j17 j18 j19 j20 j21 j22 j23 j24 j25 j26 j27 j28 j29 j30 j31 j32 j33 j34 j35 j36 j37 j38 j39 j40 j41 j42 j43 j44 j45 j46 j47 j48 j49 j50 j51 j52 j53 j54 j55 j56 j57 j58 j59 j60 j61 j62 j63 j64 j65 j66 j67 j68 j69 j70 j71 j72 j73 j74 j75 j76 j77 j78 j79 j80 j81 j82 j83 j84 j85 j86 j87 j88 j89 j90 j91 j92 j93 j94 j95 j96 j97 j98 j99 j100 j101 j102 j103 j104 j105 j106 j107 j108 j109 j110 j111 j112 j113 j114 j115 j116 : AV) (H : List Ob) (self : Code → List AV → List Ob → Ko → Prop) (kp : Ko) : awpX Tryz.prog ver_checker_place_ann self ver_checker_place_cut ver_checker_place_c13 (keepS [0, 1, 5, 6, 9999] 0 (j0 :: j1 :: j2 :: j3 :: j4 :: j5 :: j6 :: j7 :: j8 :: j9 :: j10 :: j11 :: j12 :: j13 :: j14 :: j15 :: j16 :: j17 :: j18 :: j19 :: j20 :: j21 :: j22 :: j23 :: j24 :: j25 :: j26 :: j27 :: j28 :: j29 :: j30 :: j31 :: j32 :: j33 :: j34 :: j35 :: j36 :: j37 :: j38 :: j39 :: j40 :: j41 :: j42 :: j43 :: j44 :: j45 :: j46 :: j47 :: j48 :: j49 :: j50 :: j51 :: j52 :: j53 :: j54 :: j55 :: j56 :: j57 :: j58 :: j59 :: j60 :: j61 :: j62 :: j63 :: j64 :: j65 :: j66 :: j67 :: j68 :: j69 :: j70 :: j71 :: j72 :: j73 :: j74 :: j75 :: j76 :: j77 :: j78 :: j79 :: j80 :: j81 :: j82 :: j83 :: j84 :: j85 :: j86 :: j87 :: j88 :: j89 :: j90 :: j91 :: j92 :: j93 :: j94 :: j95 :: j96 :: j97 :: j98 :: j99 :: j100 :: j101 :: j102 :: j103 :: j104 :: j105 :: j106 :: j107 :: j108 :: j109 :: j110 :: j111 :: j112 :: j113 :: j114 :: j115 :: j116 :: [])) H kp = ver_checker_place_P13 j0 j1 j5 j6 H self kp := by kernel_rfl

theorem ver_checker_place_c13_eq (j0 j1 j2 j3 j4 j5 j6 j7 j8 j9 j10 j11 j12 j13 j14 j15 j16 j17 j18 j19 j20 j21 j22 j23 j24 j25 j26 j27 j28 j29 j30 j31 j32 j33 j34 j35 j36 j37 j38 j39 j40 j41 j42 j43 j44 j45 j46 j47 j48 j49 j50 j51 j52 j53 j54 j55 j56 j57 j58 j59 j60 j61 j62 j63 j64 j65 j66 j67 j68 j69 j70 j71 j72 j73 j74 j75 j76 j77 j78 j79 j80 j81 j82 j83 j84 j85 j86 j87 j88 j89 j90 j91 j92 j93 j94 j95 j96 j97 j98 j99 j100 j101 j102 j103 j104 j105 j106 j107 j108 j109 j110 j111 j112 j113 j114 j115 j116 : AV) (H : List Ob) (kp : Ko) : awp Tryz.prog ver_checker_place_ann ver_checker_place_c13 (keepS [0, 1, 5, 6, 9999] 0 (j0 :: j1 :: j2 :: j3 :: j4 :: j5 :: j6 :: j7 :: j8 :: j9 :: j10 :: j11 :: j12 :: j13 :: j14 :: j15 :: j16 :: j17 :: j18 :: j19 :: j20 :: j21 :: j22 :: j23 :: j24 :: j25 :: j26 :: j27 :: j28 :: j29 :: j30 :: j31 :: j32 :: j33 :: j34 :: j35 :: j36 :: j37 :: j38 :: j39 :: j40 :: j41 :: j42 :: j43 :: j44 :: j45 :: j46 :: j47 :: j48 :: j49 :: j50 :: j51 :: j52 :: j53 :: j54 :: j55 :: j56 :: j57 :: j58 :: j59 :: j60 :: j61 :: j62 :: j63 :: j64 :: j65 :: j66 :: j67 :: j68 :: j69 :: j70 :: j71 :: j72 :: j73 :: j74 :: j75 :: j76 :: j77 :: j78 :: j79 :: j80 :: j81 :: j82 :: j83 :: j84 :: j85 :: j86 :: j87 :: j88 :: j89 :: j90 :: j91 :: j92 :: j93 :: j94 :: j95 :: j96 :: j97 :: j98 :: j99 :: j100 :: j101 :: j102 :: j103 :: j104 :: j105 :: j106 :: j107 :: j108 :: j109 :: j110 :: j111 :: j112 :: j113 :: j114 :: j115 :: j116 :: [])) H kp = ver_checker_place_P13 j0 j1 j5 j6 H (awp Tryz.prog ver_checker_place_ann) kp :=
  (awpX_eq Tryz.prog ver_checker_place_ann ver_checker_place_cut ver_checker_place_c13 (keepS [0, 1, 5, 6, 9999] 0 (j0 :: j1 :: j2 :: j3 :: j4 :: j5 :: j6 :: j7 :: j8 :: j9 :: j10 :: j11 :: j12 :: j13 :: j14 :: j15 :: j16 :: j17 :: j18 :: j19 :: j20 :: j21 :: j22 :: j23 :: j24 :: j25 :: j26 :: j27 :: j28 :: j29 :: j30 :: j31 :: j32 :: j33 :: j34 :: j35 :: j36 :: j37 :: j38 :: j39 :: j40 :: j41 :: j42 :: j43 :: j44 :: j45 :: j46 :: j47 :: j48 :: j49 :: j50 :: j51 :: j52 :: j53 :: j54 :: j55 :: j56 :: j57 :: j58 :: j59 :: j60 :: j61 :: j62 :: j63 :: j64 :: j65 :: j66 :: j67 :: j68 :: j69 :: j70 :: j71 :: j72 :: j73 :: j74 :: j75 :: j76 :: j77 :: j78 :: j79 :: j80 :: j81 :: j82 :: j83 :: j84 :: j85 :: j86 :: j87 :: j88 :: j89 :: j90 :: j91 :: j92 :: j93 :: j94 :: j95 :: j96 :: j97 :: j98 :: j99 :: j100 :: j101 :: j102 :: j103 :: j104 :: j105 :: j106 :: j107 :: j108 :: j109 :: j110 :: j111 :: j112 :: j113 :: j114 :: j115 :: j116 :: [])) H kp).symm.trans (ver_checker_place_P13_x j0 j1 j2 j3 j4 j5 j6 j7 j8 j9 j10 j11 j12 j13 j14 j15 j16 j17 j18 j19 j20 j21 j22 j23 j24 j25 j26 j27 j28 j29 j30 j31 j32 j33 j34 j35 j36 j37 j38 j39 j40 j41 j42 j43 j44 j45 j46 j47 j48 j49 j50 j51 j52 j53 j54 j55 j56 j57 j58 j59 j60 j61 j62 j63 j64 j65 j66 j67 j68 j69 j70 j71 j72 j73 j74 j75 j76 j77 j78 j79 j80 j81 j82 j83 j84 j85 j86 j87 j88 j89 j90 j91 j92 j93 j94 j95 j96 j97 j98 j99 j100 j101 j102 j103 j104 j105 j106 j107 j108 j109 j110 j111 j112 j113 j114 j115 j116 H (awp Tryz.prog ver_checker_place_ann) kp)

def ver_checker_place_P14 (j0 j1 j5 j6 j58 : AV) (H : List Ob) (self : Code → List AV → List Ob → Ko → Prop) (kp : Ko) : Prop :=
  aGuard j58
  (kp .normal (j0 :: j1 :: .top :: .top :: .top :: j5 :: j6 :: .top :: .top :: .top :: .top :: .top :: .top :: .top :: .top :: .top :: .top :: .top :: .top :: .top :: .top :: .top :: .top :: .top :: .top :: .top :: .top :: .top :: .top :: .top :: .top :: .top :: .top :: .top :: .top :: .top :: .top :: .top :: .top :: .top :: .top :: .top :: .top :: .top :: .top :: .top :: .top :: .top :: .top :: .top :: .top :: .top :: .top :: .top :: .top :: .top :: .top :: .top :: (.p (.bool true)) :: .top :: .top :: .top :: .top :: .top :: .top :: .top :: .top :: .top :: .top :: .top :: .top :: .top :: .top :: .top :: .top :: .top :: .top :: .top :: .top :: .top :: .top :: .top :: .top :: .top :: .top :: .top :: .top :: .top :: .top :: .top :: .top :: .top :: .top :: .top :: .top :: .top :: .top :: .top :: .top :: .top :: .top :: .top :: .top :: .top :: .top :: .top :: .top :: .top :: .top :: .top :: .top :: .top :: .top :: .top :: .top :: .top :: .top :: []) H)
  (aFieldAddr 0 j5 fun v453 =>
  aLoad false 1 v453 H fun v454 =>
  aBin false false .eql v454 (.p (.str [114, 101, 116])) fun v455 =>
  aMerge true v455 (fun Q456 =>
  aCall Tryz.prog (.p (.func ver_Stack_typ_Type_Len_i [])) [j6] H fun v457 h458 =>
  aBin false false .gtr v457 (.p (.int .i64 0)) fun v459 =>
  (h458 = H ∧ Q456 v459)) fun v460 =>
  self ver_checker_place_c15 (keepS [0, 1, 5, 6, 58, 9999] 0 (j0 :: j1 :: .top :: .top :: .top :: j5 :: j6 :: .top :: .top :: .top :: .top :: .top :: .top :: .top :: .top :: .top :: .top :: .top :: .top :: .top :: .top :: .top :: .top :: .top :: .top :: .top :: .top :: .top :: .top :: .top :: .top :: .top :: .top :: .top :: .top :: .top :: .top :: .top :: .top :: .top :: .top :: .top :: .top :: .top :: .top :: .top :: .top :: .top :: .top :: .top :: .top :: .top :: .top :: .top :: .top :: .top :: .top :: .top :: v460 :: .top :: .top :: .top :: v453 :: v454 :: v455 :: v455 :: .top :: .top :: .top :: v460 :: .top :: .top :: .top :: .top :: .top :: .top :: .top :: .top :: .top :: .top :: .top :: .top :: .top :: .top :: .top :: .top :: .top :: .top :: .top :: .top :: .top :: .top :: .top :: .top :: .top :: .top :: .top :: .top :: .top :: .top :: .top :: .top :: .top :: .top :: .top :: .top :: .top :: .top :: .top :: .top :: .top :: .top :: .top :: .top :: .top :: .top :: .top :: [])) H kp)

theorem ver_checker_place_P14_x (j0 j1 j2 j3 j4 j5 j6 j7 j8 j9 j10 j11 j12 j13 j14 j15 j16 j17 j18 j19 j20 j21 j22 j23 j24 j25 j26 j27 j28 j29 j30 j31 j32 j33 j34 j35 j36 j37 j38 j39 j40 j41 j42 j43 j44 j45 j46 j47 j48 j49 j50 j51 j52 j53 j54 j55 j56 j57 j58 j59 j60 j61 j62 j63 j64 j65 j66 j67 j68 j69 j70 j71 j72 j73 j74 j75 j76 j77 j78 j79 j80 j81 j82 j83 j84 j85 j86 j87 j88 j89 j90 j91 j92 j93 j94 j95 j96 j97 j98 j99 j100 j101 j102 j103 j104 j105 j106 j107 j108 j109 j110 j111 j112 j113 j114 j115 j116 : AV) (H : List Ob) (self : Code → List AV → List Ob → Ko → Prop) (kp : Ko) : awpX Tryz.prog ver_checker_place_ann self ver_checker_place_cut ver_checker_place_c14 (keepS [0, 1, 5, 6, 58, 9999] 0 (j0 :: j1 :: j2 :: j3 :: j4 :: j5 :: j6 :: j7 :: j8 :: j9 :: j10 :: j11 :: j12 :: j13 :: j14 :: j15 :: j16 :: j17 :: j18 :: j19 :: j20 :: j21 :: j22 :: j23 :: j24 :: j25 :: j26 :: j27 :: j28 :: j29 :: j30 :: j31 :: j32 :: j33 :: j34 :: j35 :: j36 :: j37 :: j38 :: j39 :: j40 :: j41 :: j42 :: j43 :: j44 :: j45 :: j46 :: j47 :: j48 :: j49 :: j50 :: j51 :: j52 :: j53 :: j54 :: j55 :: j56 :: j57 :: j58 :: j59 :: j60 :: j61 :: j62 :: j63 :: j64 :: j65 :: j66 :: j67 :: j68 :: j69 :: j70 :: j71 :: j72 :: j73 :: j74 :: j75 :: j76 :: j77 :: j78 :: j79 :: j80 :: j81 :: j82 :: j83 :: j84 :: j85 :: j86 :: j87 :: j88 :: j89 :: j90 :: j91 :: j92 :: j93 :: j94 :: j95 :: j96 :: j97 :: j98 :: j99 :: j100 :: j101 :: j102 :: j103 :: j104 :: j105 :: j106 :: j107 :: j108 :: j109 :: j110 :: j111 :: j112 :: j113 :: j114 :: j115 :: j116 :: [])) H kp = ver_checker_place_P14 j0 j1 j5 j6 j58 H self kp := by kernel_rfl

theorem ver_checker_place_c14_eq (j0 j1 j2 j3 j4 j5 j6 j7 j8 j9 j10 j11 j12 j13 j14 j15 j16 j17 j18 j19 j20 j21 j22 j23 j24 j25 j26 j27 j28 j29 j30 j31 j32 j33 j34 j35 j36 j37 j38 j39 j40 j41 j42 j43 j44 j45 j46 j47 j48 j49 j50 j51 j52 j53 j54 j55 j56 j57 j58 j59 j60 j61 j62 j63 j64 j65 j66 j67 j68 j69 j70 j71 j72 j73 j74 j75 j76 j77 j78 j79 j80 j81 j82 j83 j84 j85 j86 j87 j88 j89 j90 j91 j92 j93 j94 j95 j96 j97 j98 j99 j100 j101 j102 j103 j104 j105 j106 j107 j108 j109 j110 j111 j112 j113 j114 j115 j116 : AV) (H : List Ob) (kp : Ko) : awp Tryz.prog ver_checker_place_ann ver_checker_place_c14 (keepS [0, 1, 5, 6, 58, 9999] 0 (j0 :: j1 :: j2 :: j3 :: j4 :: j5 :: j6 :: j7 :: j8 :: j9 :: j10 :: j11 :: j12 :: j13 :: j14 :: j15 :: j16 :: j17 :: j18 :: j19 :: j20 :: j21 :: j22 :: j23 :: j24 :: j25 :: j26 :: j27 :: j28 :: j29 :: j30 :: j31 :: j32 :: j33 :: j34 :: j35 :: j36 :: j37 :: j38 :: j39 :: j40 :: j41 :: j42 :: j43 :: j44 :: j45 :: j46 :: j47 :: j48 :: j49 :: j50 :: j51 :: j52 :: j53 :: j54 :: j55 :: j56 :: j57 :: j58 :: j59 :: j60 :: j61 :: j62 :: j63 :: j64 :: j65 :: j66 :: j67 :: j68 :: j69 :: j70 :: j71 :: j72 :: j73 :: j74 :: j75 :: j76 :: j77 :: j78 :: j79 :: j80 :: j81 :: j82 :: j83 :: j84 :: j85 :: j86 :: j87 :: j88 :: j89 :: j90 :: j91 :: j92 :: j93 :: j94 :: j95 :: j96 :: j97 :: j98 :: j99 :: j100 :: j101 :: j102 :: j103 :: j104 :: j105 :: j106 :: j107 :: j108 :: j109 :: j110 :: j111 :: j112 :: j113 :: j114 :: j115 :: j116 :: [])) H kp = ver_checker_place_P14 j0 j1 j5 j6 j58 H (awp Tryz.prog ver_checker_place_ann) kp :=
  (awpX_eq Tryz.prog ver_checker_place_ann ver_checker_place_cut ver_checker_place_c14 (keepS [0, 1, 5, 6, 58, 9999] 0 (j0 :: j1 :: j2 :: j3 :: j4 :: j5 :: j6 :: j7 :: j8 :: j9 :: j10 :: j11 :: j12 :: j13 :: j14 :: j15 :: j16 :: j17 :: j18 :: j19 :: j20 :: j21 :: j22 :: j23 :: j24 :: j25 :: j26 :: j27 :: j28 :: j29 :: j30 :: j31 :: j32 :: j33 :: j34 :: j35 :: j36 :: j37 :: j38 :: j39 :: j40 :: j41 :: j42 :: j43 :: j44 :: j45 :: j46 :: j47 :: j48 :: j49 :: j50 :: j51 :: j52 :: j53 :: j54 :: j55 :: j56 :: j57 :: j58 :: j59 :: j60 :: j61 :: j62 :: j63 :: j64 :: j65 :: j66 :: j67 :: j68 :: j69 :: j70 :: j71 :: j72 :: j73 :: j74 :: j75 :: j76 :: j77 :: j78 :: j79 :: j80 :: j81 :: j82 :: j83 :: j84 :: j85 :: j86 :: j87 :: j88 :: j89 :: j90 :: j91 :: j92 :: j93 :: j94 :: j95 :: j96 :: j97 :: j98 :: j99 :: j100 :: j101 :: j102 :: j103 :: j104 :: j105 :: j106 :: j107 :: j108 :: j109 :: j110 :: j111 :: j112 :: j113 :: j114 :: j115 :: j116 :: [])) H kp).symm.trans (ver_checker_place_P14_x j0 j1 j2 j3 j4 j5 j6 j7 j8 j9 j10 j11 j12 j13 j14 j15 j16 j17 j18 j19 j20 j21 j22 j23 j24 j25 j26 j27 j28 j29 j30 j31 j32 j33 j34 j35 j36 j37 j38 j39 j40 j41 j42 j43 j44 j45 j46 j47 j48 j49 j50 j51 j52 j53 j54 j55 j56 j57 j58 j59 j60 j61 j62 j63 j64 j65 j66 j67 j68 j69 j70 j71 j72 j73 j74 j75 j76 j77 j78 j79 j80 j81 j82 j83 j84 j85 j86 j87 j88 j89 j90 j91 j92 j93 j94 j95 j96 j97 j98 j99 j100 j101 j102 j103 j104 j105 j106 j107 j108 j109 j110 j111 j112 j113 j114 j115 j116 H (awp Tryz.prog ver_checker_place_ann) kp)

def ver_checker_place_P15 (j0 j1 j5 j6 j58 : AV) (H : List Ob) (_ : Code → List AV → List Ob → Ko → Prop) (kp : Ko) : Prop :=
  aGuard j58
  (kp .normal (j0 :: j1 :: .top :: .top :: .top :: j5 :: j6 :: .top :: .top :: .top :: .top :: .top :: .top :: .top :: .top :: .top :: .top :: .top :: .top :: .top :: .top :: .top :: .top :: .top :: .top :: .top :: .top :: .top :: .top :: .top :: .top :: .top :: .top :: .top :: .top :: .top :: .top :: .top :: .top :: .top :: .top :: .top :: .top :: .top :: .top :: .top :: .top :: .top :: .top :: .top :: .top :: .top :: .top :: .top :: .top :: .top :: .top :: .top :: (.p (.bool true)) :: .top :: .top :: .top :: .top :: .top :: .top :: .top :: .top :: .top :: .top :: .top :: .top :: .top :: .top :: .top :: .top :: .top :: .top :: .top :: .top :: .top :: .top :: .top :: .top :: .top :: .top :: .top :: .top :: .top :: .top :: .top :: .top :: .top :: .top :: .top :: .top :: .top :: .top :: .top :: .top :: .top :: .top :: .top :: .top :: .top :: .top :: .top :: .top :: .top :: .top :: .top :: .top :: .top :: .top :: .top :: .top :: .top :: .top :: []) H)
  (aNilCheck j0 fun v461 =>
  aFieldAddr 0 v461 fun v462 =>
  aLoad false 1 v462 H fun v463 =>
  aLen false false v463 fun v464 =>
  aBin false false .sub v464 (.p (.int .i64 1)) fun v465 =>
  aBin false false .eql j1 v465 fun v466 =>
  aMerge true v466 (fun Q467 =>
  aFieldAddr 0 j5 fun v468 =>
  aLoad false 1 v468 H fun v469 =>
  aBin false false .neq v469 (.p (.str [114, 101, 116])) fun v470 =>
  (H = H ∧ Q467 v470)) fun v471 =>
  aMerge true v471 (fun Q472 =>
  aFieldAddr 0 j5 fun v473 =>
  aLoad false 1 v473 H fun v474 =>
  aBin false false .neq v474 (.p (.str [106, 109, 112])) fun v475 =>
  (H = H ∧ Q472 v475)) fun v476 =>
  kp .normal (j0 :: j1 :: .top :: .top :: .top :: j5 :: j6 :: .top :: .top :: .top :: .top :: .top :: .top :: .top :: .top :: .top :: .top :: .top :: .top :: .top :: .top :: .top :: .top :: .top :: .top :: .top :: .top :: .top :: .top :: .top :: .top :: .top :: .top :: .top :: .top :: .top :: .top :: .top :: .top :: .top :: .top :: .top :: .top :: .top :: .top :: .top :: .top :: .top :: .top :: .top :: .top :: .top :: .top :: .top :: .top :: .top :: .top :: .top :: v476 :: .top :: .top :: .top :: .top :: .top :: .top :: .top :: .top :: .top :: .top :: .top :: j1 :: j0 :: v461 :: v462 :: v463 :: v464 :: v465 :: v466 :: v466 :: .top :: .top :: .top :: v471 :: v471 :: .top :: .top :: .top :: v476 :: .top :: .top :: .top :: .top :: .top :: .top :: .top :: .top :: .top :: .top :: .top :: .top :: .top :: .top :: .top :: .top :: .top :: .top :: .top :: .top :: .top :: .top :: .top :: .top :: .top :: .top :: .top :: .top :: .top :: []) H)

theorem ver_checker_place_P15_x (j0 j1 j2 j3 j4 j5 j6 j7 j8 j9 j10 j11 j12 j13 j14 j15 j16 j17 j18 j19 j20 j21 j22 j23 j24 j25 j26 j27 j28 j29 j30 j31 j32 j33 j34 j35 j36 j37 j38 j39 j40 j41 j42 j43 j44 j45 j46 j47 j48 j49 j50 j51 j52 j53 j54 j55 j56 j57 j58 j59 j60 j61 j62 j63 j64 j65 j66 j67 j68 j69 j70 j71 j72 j73 j74 j75 j76 j77 j78 j79 j80 j81 j82 j83 j84 j85 j86 j87 j88 j89 j90 j91 j92 j93 j94 j95 j96 j97 j98 j99 j100 j101 j102 j103 j104 j105 j106 j107 j108 j109 j110 j111 j112 j113 j114 j115 j116 : AV) (H : List Ob) (self : Code → List AV → List Ob → Ko → Prop) (kp : Ko) : awpX Tryz.prog ver_checker_place_ann self ver_checker_place_cut ver_checker_place_c15 (keepS [0, 1, 5, 6, 58, 9999] 0 (j0 :: j1 :: j2 :: j3 :: j4 :: j5 :: j6 :: j7 :: j8 :: j9 :: j10 :: j11 :: j12 :: j13 :: j14 :: j15 :: j16 :: j17 :: j18 :: j19 :: j20 :: j21 :: j22 :: j23 :: j24 :: j25 :: j26 :: j27 :: j28 :: j29 :: j30 :: j31 :: j32 :: j33 :: j34 :: j35 :: j36 :: j37 :: j38 :: j39 :: j40 :: j41 :: j42 :: j43 :: j44 :: j45 :: j46 :: j47 :: j48 :: j49 :: j50 :: j51 :: j52 :: j53 :: j54 :: j55 :: j56 :: j57 :: j58 :: j59 :: j60 :: j61 :: j62 :: j63 :: j64 :: j65 :: j66 :: j67 :: j68 :: j69 :: j70 :: j71 :: j72 :: j73 :: j74 :: j75 :: j76 :: j77 :: j78 :: j79 :: j80 :: j81 :: j82 :: j83 :: j84 :: j85 :: j86 :: j87 :: j88 :: j89 :: j90 :: j91 :: j92 :: j93 :: j94 :: j95 :: j96 :: j97 :: j98 :: j99 :: j100 :: j101 :: j102 :: j103 :: j104 :: j105 :: j106 :: j107 :: j108 :: j109 :: j110 :: j111 :: j112 :: j113 :: j114 :: j115 :: j116 :: [])) H kp = ver_checker_place_P15 j0 j1 j5 j6 j58 H self kp := by kernel_rfl

theorem ver_checker_place_c15_eq (j0 j1 j2 j3 j4 j5 j6 j7 j8 j9 j10 j11 j12 j13 j14 j15 j16 j17 j18 j19 j20 j21 j22 j23 j24 j25 j26 j27 j28 j29 j30 j31 j32 j33 j34 j35 j36 j37 j38 j39 j40 j41 j42 j43 j44 j45 j46 j47 j48 j49 j50 j51 j52 j53 j54 j55 j56 j57 j58 j59 j60 j61 j62 j63 j64 j65 j66 j67 j68 j69 j70 j71 j72 j73 j74 j75 j76 j77 j78 j79 j80 j81 j82 j83 j84 j85 j86 j87 j88 j89 j90 j91 j92 j93 j94 j95 j96 j97 j98 j99 j100 j101 j102 j103 j104 j105 j106 j107 j108 j109 j110 j111 j112 j113 j114 j115 j116 : AV) (H : List Ob) (kp : Ko) : awp Tryz.prog ver_checker_place_ann ver_checker_place_c15 (keepS [0, 1, 5, 6, 58, 9999] 0 (j0 :: j1 :: j2 :: j3 :: j4 :: j5 :: j6 :: j7 :: j8 :: j9 :: j10 :: j11 :: j12 :: j13 :: j14 :: j15 :: j16 :: j17 :: j18 :: j19 :: j20 :: j21 :: j22 :: j23 :: j24 :: j25 :: j26 :: j27 :: j28 :: j29 :: j30 :: j31 :: j32 :: j33 :: j34 :: j35 :: j36 :: j37 :: j38 :: j39 :: j40 :: j41 :: j42 :: j43 :: j44 :: j45 :: j46 :: j47 :: j48 :: j49 :: j50 :: j51 :: j52 :: j53 :: j54 :: j55 :: j56 :: j57 :: j58 :: j59 :: j60 :: j61 :: j62 :: j63 :: j64 :: j65 :: j66 :: j67 :: j68 :: j69 :: j70 :: j71 :: j72 :: j73 :: j74 :: j75 :: j76 :: j77 :: j78 :: j79 :: j80 :: j81 :: j82 :: j83 :: j84 :: j85 :: j86 :: j87 :: j88 :: j89 :: j90 :: j91 :: j92 :: j93 :: j94 :: j95 :: j96 :: j97 :: j98 :: j99 :: j100 :: j101 :: j102 :: j103 :: j104 :: j105 :: j106 :: j107 :: j108 :: j109 :: j110 :: j111 :: j112 :: j113 :: j114 :: j115 :: j116 :: [])) H kp = ver_checker_place_P15 j0 j1 j5 j6 j58 H (awp Tryz.prog ver_checker_place_ann) kp :=
  (awpX_eq Tryz.prog ver_checker_place_ann ver_checker_place_cut ver_checker_place_c15 (keepS [0, 1, 5, 6, 58, 9999] 0 (j0 :: j1 :: j2 :: j3 :: j4 :: j5 :: j6 :: j7 :: j8 :: j9 :: j10 :: j11 :: j12 :: j13 :: j14 :: j15 :: j16 :: j17 :: j18 :: j19 :: j20 :: j21 :: j22 :: j23 :: j24 :: j25 :: j26 :: j27 :: j28 :: j29 :: j30 :: j31 :: j32 :: j33 :: j34 :: j35 :: j36 :: j37 :: j38 :: j39 :: j40 :: j41 :: j42 :: j43 :: j44 :: j45 :: j46 :: j47 :: j48 :: j49 :: j50 :: j51 :: j52 :: j53 :: j54 :: j55 :: j56 :: j57 :: j58 :: j59 :: j60 :: j61 :: j62 :: j63 :: j64 :: j65 :: j66 :: j67 :: j68 :: j69 :: j70 :: j71 :: j72 :: j73 :: j74 :: j75 :: j76 :: j77 :: j78 :: j79 :: j80 :: j81 :: j82 :: j83 :: j84 :: j85 :: j86 :: j87 :: j88 :: j89 :: j90 :: j91 :: j92 :: j93 :: j94 :: j95 :: j96 :: j97 :: j98 :: j99 :: j100 :: j101 :: j102 :: j103 :: j104 :: j105 :: j106 :: j107 :: j108 :: j109 :: j110 :: j111 :: j112 :: j113 :: j114 :: j115 :: j116 :: [])) H kp).symm.trans (ver_checker_place_P15_x j0 j1 j2 j3 j4 j5 j6 j7 j8 j9 j10 j11 j12 j13 j14 j15 j16 j17 j18 j19 j20 j21 j22 j23 j24 j25 j26 j27 j28 j29 j30 j31 j32 j33 j34 j35 j36 j37 j38 j39 j40 j41 j42 j43 j44 j45 j46 j47 j48 j49 j50 j51 j52 j53 j54 j55 j56 j57 j58 j59 j60 j61 j62 j63 j64 j65 j66 j67 j68 j69 j70 j71 j72 j73 j74 j75 j76 j77 j78 j79 j80 j81 j82 j83 j84 j85 j86 j87 j88 j89 j90 j91 j92 j93 j94 j95 j96 j97 j98 j99 j100 j101 j102 j103 j104 j105 j106 j107 j108 j109 j110 j111 j112 j113 j114 j115 j116 H (awp Tryz.prog ver_checker_place_ann) kp)

def ver_checker_place_P16 (j0 j1 j5 j6 j58 : AV) (H : List Ob) (self : Code → List AV → List Ob → Ko → Prop) (kp : Ko) : Prop :=
  aGuard j58
  (kp .ret (j0 :: j1 :: .top :: .top :: (.p (.int .i64 12)) :: j5 :: j6 :: .top :: .top :: .top :: .top :: .top :: .top :: .top :: .top :: .top :: .top :: .top :: .top :: .top :: .top :: .top :: .top :: .top :: .top :: .top :: .top :: .top :: .top :: .top :: .top :: .top :: .top :: .top :: .top :: .top :: .top :: .top :: .top :: .top :: .top :: .top :: .top :: .top :: .top :: .top :: .top :: .top :: .top :: .top :: .top :: .top :: .top :: .top :: .top :: .top :: .top :: .top :: (.p (.bool true)) :: .top :: .top :: .top :: .top :: .top :: .top :: .top :: .top :: .top :: .top :: .top :: .top :: .top :: .top :: .top :: .top :: .top :: .top :: .top :: .top :: .top :: .top :: .top :: .top :: .top :: .top :: .top :: .top :: .top :: .top :: .top :: .top :: .top :: .top :: .top :: .top :: .top :: .top :: .top :: .top :: .top :: .top :: .top :: .top :: .top :: .top :: .top :: .top :: .top :: .top :: .top :: .top :: .top :: .top :: .top :: .top :: .top :: .top :: []) H)
  (aFieldAddr 0 j5 fun v477 =>
  aLoad false 1 v477 H fun v478 =>
  aBin false false .eql v478 (.p (.str [114, 101, 116])) fun v479 =>
  self ver_checker_place_c18 (keepS [0, 1, 5, 6, 88, 9999] 0 (j0 :: j1 :: .top :: .top :: .top :: j5 :: j6 :: .top :: .top :: .top :: .top :: .top :: .top :: .top :: .top :: .top :: .top :: .top :: .top :: .top :: .top :: .top :: .top :: .top :: .top :: .top :: .top :: .top :: .top :: .top :: .top :: .top :: .top :: .top :: .top :: .top :: .top :: .top :: .top :: .top :: .top :: .top :: .top :: .top :: .top :: .top :: .top :: .top :: .top :: .top :: .top :: .top :: .top :: .top :: .top :: .top :: .top :: .top :: (.p (.bool false)) :: .top :: .top :: .top :: .top :: .top :: .top :: .top :: .top :: .top :: .top :: .top :: .top :: .top :: .top :: .top :: .top :: .top :: .top :: .top :: .top :: .top :: .top :: .top :: .top :: .top :: .top :: .top :: .top :: .top :: v479 :: v477 :: v478 :: v479 :: .top :: .top :: .top :: .top :: .top :: .top :: .top :: .top :: .top :: .top :: .top :: .top :: .top :: .top :: .top :: .top :: .top :: .top :: .top :: .top :: .top :: .top :: .top :: .top :: .top :: [])) H kp)

theorem ver_checker_place_P16_x (j0 j1 j2 j3 j4 j5 j6 j7 j8 j9 j10 j11 j12 j13 j14 j15 j16 j17 j18 j19 j20 j21 j22 j23 j24 j25 j26 j27 j28 j29 j30 j31 j32 j33 j34 j35 j36 j37 j38 j39 j40 j41 j42 j43 j44 j45 j46 j47 j48 j49 j50 j51 j52 j53 j54 j55 j56 j57 j58 j59 j60 j61 j62 j63 j64 j65 j66 j67 j68 j69 j70 j71 j72 j73 j74 j75 j76 j77 j78 j79 j80 j81 j82 j83 j84 j85 j86 j87 j88 j89 j90 j91 j92 j93 j94 j95 j96 j97 j98 j99 j100 j101 j102 j103 j104 j105 j106 j107 j108 j109 j110 j111 j112 j113 j114 j115 j116 : AV) (H : List Ob) (self : Code → List AV → List Ob → Ko → Prop) (kp : Ko) : awpX Tryz.prog ver_checker_place_ann self ver_checker_place_cut ver_checker_place_c16 (keepS [0, 1, 5, 6, 58, 9999] 0 (j0 :: j1 :: j2 :: j3 :: j4 :: j5 :: j6 :: j7 :: j8 :: j9 :: j10 :: j11 :: j12 :: j13 :: j14 :: j15 :: j16 :: j17 :: j18 :: j19 :: j20 :: j21 :: j22 :: j23 :: j24 :: j25 :: j26 :: j27 :: j28 :: j29 :: j30 :: j31 :: j32 :: j33 :: j34 :: j35 :: j36 :: j37 :: j38 :: j39 :: j40 :: j41 :: j42 :: j43 :: j44 :: j45 :: j46 :: j47 :: j48 :: j49 :: j50 :: j51 :: j52 :: j53 :: j54 :: j55 :: j56 :: j57 :: j58 :: j59 :: j60 :: j61 :: j62 :: j63 :: j64 :: j65 :: j66 :: j67 :: j68 :: j69 :: j70 :: j71 :: j72 :: j73 :: j74 :: j75 :: j76 :: j77 :: j78 :: j79 :: j80 :: j81 :: j82 :: j83 :: j84 :: j85 :: j86 :: j87 :: j88 :: j89 :: j90 :: j91 :: j92 :: j93 :: j94 :: j95 :: j96 :: j97 :: j98 :: j99 :: j100 :: j101 :: j102 :: j103 :: j104 :: j105 :: j106 :: j107 :: j108 :: j109 :: j110 :: j111 :: j112 :: j113 :: j114 :: j115 :: j116 :: [])) H kp = ver_checker_place_P16 j0 j1 j5 j6 j58 H self kp := by kernel_rfl

theorem ver_checker_place_c16_eq (j0 j1 j2 j3 j4 j5 j6 j7 j8 j9 j10 j11 j12 j13 j14 j15 j16 j17 j18 j19 j20 j21 j22 j23 j24 j25 j26 j27 j28 j29 j30 j31 j32 j33 j34 j35 j36 j37 j38 j39 j40 j41 j42 j43 j44 j45 j46 j47 j48 j49 j50 j51 j52 j53 j54 j55 j56 j57 j58 j59 j60 j61 j62 j63 j64 j65 j66 j67 j68 j69 j70 j71 j72 j73 j74 j75 j76 j77 j78 j79 j80 j81 j82 j83 j84 j85 j86 j87 j88 j89 j90 j91 j92 j93 j94 j95 j96 j97 j98 j99 j100 j101 j102 j103 j104 j105 j106 j107 j108 j109 j110 j111 j112 j113 j114 j115 j116 : AV) (H : List Ob) (kp : Ko) : awp Tryz.prog ver_checker_place_ann ver_checker_place_c16 (keepS [0, 1, 5, 6, 58, 9999] 0 (j0 :: j1 :: j2 :: j3 :: j4 :: j5 :: j6 :: j7 :: j8 :: j9 :: j10 :: j11 :: j12 :: j13 :: j14 :: j15 :: j16 :: j17 :: j18 :: j19 :: j20 :: j21 :: j22 :: j23 :: j24 :: j25 :: j26 :: j27 :: j28 :: j29 :: j30 :: j31 :: j32 :: j33 :: j34 :: j35 :: j36 :: j37 :: j38 :: j39 :: j40 :: j41 :: j42 :: j43 :: j44 :: j45 :: j46 :: j47 :: j48 :: j49 :: j50 :: j51 :: j52 :: j53 :: j54 :: j55 :: j56 :: j57 :: j58 :: j59 :: j60 :: j61 :: j62 :: j63 :: j64 :: j65 :: j66 :: j67 :: j68 :: j69 :: j70 :: j71 :: j72 :: j73 :: j74 :: j75 :: j76 :: j77 :: j78 :: j79 :: j80 :: j81 :: j82 :: j83 :: j84 :: j85 :: j86 :: j87 :: j88 :: j89 :: j90 :: j91 :: j92 :: j93 :: j94 :: j95 :: j96 :: j97 :: j98 :: j99 :: j100 :: j101 :: j102 :: j103 :: j104 :: j105 :: j106 :: j107 :: j108 :: j109 :: j110 :: j111 :: j112 :: j113 :: j114 :: j115 :: j116 :: [])) H kp = ver_checker_place_P16 j0 j1 j5 j6 j58 H (awp Tryz.prog ver_checker_place_ann) kp :=
  (awpX_eq Tryz.prog ver_checker_place_ann ver_checker_place_cut ver_checker_place_c16 (keepS [0, 1, 5, 6, 58, 9999] 0 (j0 :: j1 :: j2 :: j3 :: j4 :: j5 :: j6 :: j7 :: j8 :: j9 :: j10 :: j11 :: j12 :: j13 :: j14 :: j15 :: j16 :: j17 :: j18 :: j19 :: j20 :: j21 :: j22 :: j23 :: j24 :: j25 :: j26 :: j27 :: j28 :: j29 :: j30 :: j31 :: j32 :: j33 :: j34 :: j35 :: j36 :: j37 :: j38 :: j39 :: j40 :: j41 :: j42 :: j43 :: j44 :: j45 :: j46 :: j47 :: j48 :: j49 :: j50 :: j51 :: j52 :: j53 :: j54 :: j55 :: j56 :: j57 :: j58 :: j59 :: j60 :: j61 :: j62 :: j63 :: j64 :: j65 :: j66 :: j67 :: j68 :: j69 :: j70 :: j71 :: j72 :: j73 :: j74 :: j75 :: j76 :: j77 :: j78 :: j79 :: j80 :: j81 :: j82 :: j83 :: j84 :: j85 :: j86 :: j87 :: j88 :: j89 :: j90 :: j91 :: j92 :: j93 :: j94 :: j95 :: j96 :: j97 :: j98 :: j99 :: j100 :: j101 :: j102 :: j103 :: j104 :: j105 :: j106 :: j107 :: j108 :: j109 :: j110 :: j111 :: j112 :: j113 :: j114 :: j115 :: j116 :: [])) H kp).symm.trans (ver_checker_place_P16_x j0 j1 j2 j3 j4 j5 j6 j7 j8 j9 j10 j11 j12 j13 j14 j15 j16 j17 j18 j19 j20 j21 j22 j23 j24 j25 j26 j27 j28 j29 j30 j31 j32 j33 j34 j35 j36 j37 j38 j39 j40 j41 j42 j43 j44 j45 j46 j47 j48 j49 j50 j51 j52 j53 j54 j55 j56 j57 j58 j59 j60 j61 j62 j63 j64 j65 j66 j67 j68 j69 j70 j71 j72 j73 j74 j75 j76 j77 j78 j79 j80 j81 j82 j83 j84 j85 j86 j87 j88 j89 j90 j91 j92 j93 j94 j95 j96 j97 j98 j99 j100 j101 j102 j103 j104 j105 j106 j107 j108 j109 j110 j111 j112 j113 j114 j115 j116 H (awp Tryz.prog ver_checker_place_ann) kp)

def ver_checker_place_P18 (j0 j1 j5 j6 j88 : AV) (H : List Ob) (self : Code → List AV → List Ob → Ko → Prop) (kp : Ko) : Prop :=
  aGuard j88
  (kp .ret (j0 :: j1 :: .top :: .top :: (.p (.int .i64 0)) :: j5 :: j6 :: .top :: .top :: .top :: .top :: .top :: .top :: .top :: .top :: .top :: .top :: .top :: .top :: .top :: .top :: .top :: .top :: .top :: .top :: .top :: .top :: .top :: .top :: .top :: .top :: .top :: .top :: .top :: .top :: .top :: .top :: .top :: .top :: .top :: .top :: .top :: .top :: .top :: .top :: .top :: .top :: .top :: .top :: .top :: .top :: .top :: .top :: .top :: .top :: .top :: .top :: .top :: .top :: .top :: .top :: .top :: .top :: .top :: .top :: .top :: .top :: .top :: .top :: .top :: .top :: .top :: .top :: .top :: .top :: .top :: .top :: .top :: .top :: .top :: .top :: .top :: .top :: .top :: .top :: .top :: .top :: .top :: (.p (.bool true)) :: .top :: .top :: .top :: .top :: .top :: .top :: .top :: .top :: .top :: .top :: .top :: .top :: .top :: .top :: .top :: .top :: .top :: .top :: .top :: .top :: .top :: .top :: .top :: .top :: .top :: .top :: .top :: .top :: []) H)
  (aFieldAddr 0 j5 fun v480 =>
  aLoad false 1 v480 H fun v481 =>
  aBin false false .eql v481 (.p (.str [106, 109, 112])) fun v482 =>
  self ver_checker_place_c20 (keepS [0, 1, 5, 6, 92, 9999] 0 (j0 :: j1 :: .top :: .top :: .top :: j5 :: j6 :: .top :: .top :: .top :: .top :: .top :: .top :: .top :: .top :: .top :: .top :: .top :: .top :: .top :: .top :: .top :: .top :: .top :: .top :: .top :: .top :: .top :: .top :: .top :: .top :: .top :: .top :: .top :: .top :: .top :: .top :: .top :: .top :: .top :: .top :: .top :: .top :: .top :: .top :: .top :: .top :: .top :: .top :: .top :: .top :: .top :: .top :: .top :: .top :: .top :: .top :: .top :: .top :: .top :: .top :: .top :: .top :: .top :: .top :: .top :: .top :: .top :: .top :: .top :: .top :: .top :: .top :: .top :: .top :: .top :: .top :: .top :: .top :: .top :: .top :: .top :: .top :: .top :: .top :: .top :: .top :: .top :: (.p (.bool false)) :: .top :: .top :: .top :: v482 :: v480 :: v481 :: v482 :: .top :: .top :: .top :: .top :: .top :: .top :: .top :: .top :: .top :: .top :: .top :: .top :: .top :: .top :: .top :: .top :: .top :: .top :: .top :: .top :: .top :: [])) H kp)

theorem ver_checker_place_P18_x (j0 j1 j2 j3 j4 j5 j6 j7 j8 j9 j10 j11 j12 j13 j14 j15 j16 j17 j18 j19 j20 j21 j22 j23 j24 j25 j26 j27 j28 j29 j30 j31 j32 j33 j34 j35 j36 j37 j38 j39 j40 j41 j42 j43 j44 j45 j46 j47 j48 j49 j50 j51 j52 j53 j54 j55 j56 j57 j58 j59 j60 j61 j62 j63 j64 j65 j66 j67 j68 j69 j70 j71 j72 j73 j74 j75 j76 j77 j78 j79 j80 j81 j82 j83 j84 j85 j86 j87 j88 j89 j90 j91 j92 j93 j94 j95 j96 j97 j98 j99 j100 j101 j102 j103 j104 j105 j106 j107 j108 j109 j110 j111 j112 j113 j114 j115 j116 : AV) (H : List Ob) (self : Code → List AV → List Ob → Ko → Prop) (kp : Ko) : awpX Tryz.prog ver_checker_place_ann self ver_checker_place_cut ver_checker_place_c18 (keepS [0, 1, 5, 6, 88, 9999] 0 (j0 :: j1 :: j2 :: j3 :: j4 :: j5 :: j6 :: j7 :: j8 :: j9 :: j10 :: j11 :: j12 :: j13 :: j14 :: j15 :: j16 :: j17 :: j18 :: j19 :: j20 :: j21 :: j22 :: j23 :: j24 :: j25 :: j26 :: j27 :: j28 :: j29 :: j30 :: j31 :: j32 :: j33 :: j34 :: j35 :: j36 :: j37 :: j38 :: j39 :: j40 :: j41 :: j42 :: j43 :: j44 :: j45 :: j46 :: j47 :: j48 :: j49 :: j50 :: j51 :: j52 :: j53 :: j54 :: j55 :: j56 :: j57 :: j58 :: j59 :: j60 :: j61 :: j62 :: j63 :: j64 :: j65 :: j66 :: j67 :: j68 :: j69 :: j70 :: j71 :: j72 :: j73 :: j74 :: j75 :: j76 :: j77 :: j78 :: j79 :: j80 :: j81 :: j82 :: j83 :: j84 :: j85 :: j86 :: j87 :: j88 :: j89 :: j90 :: j91 :: j92 :: j93 :: j94 :: j95 :: j96 :: j97 :: j98 :: j99 :: j100 :: j101 :: j102 :: j103 :: j104 :: j105 :: j106 :: j107 :: j108 :: j109 :: j110 :: j111 :: j112 :: j113 :: j114 :: j115 :: j116 :: [])) H kp = ver_checker_place_P18 j0 j1 j5 j6 j88 H self kp := by kernel_rfl

theorem ver_checker_place_c18_eq (j0 j1 j2 j3 j4 j5 j6 j7 j8 j9 j10 j11 j12 j13 j14 j15 j16 j17 j18 j19 j20 j21 j22 j23 j24 j25 j26 j27 j28 j29 j30 j31 j32 j33 j34 j35 j36 j37 j38 j39 j40 j41 j42 j43 j44 j45 j46 j47 j48 j49 j50 j51 j52 j53 j54 j55 j56 j57 j58 j59 j60 j61 j62 j63 j64 j65 j66 j67 j68 j69 j70 j71 j72 j73 j74 j75 j76 j77 j78 j79 j80 j81 j82 j83 j84 j85 j86 j87 j88 j89 j90 j91 j92 j93 j94 j95 j96 j97 j98 j99 j100 j101 j102 j103 j104 j105 j106 j107 j108 j109 j110 j111 j112 j113 j114 j115 j116 : AV) (H : List Ob) (kp : Ko) : awp Tryz.prog ver_checker_place_ann ver_checker_place_c18 (keepS [0, 1, 5, 6, 88, 9999] 0 (j0 :: j1 :: j2 :: j3 :: j4 :: j5 :: j6 :: j7 :: j8 :: j9 :: j10 :: j11 :: j12 :: j13 :: j14 :: j15 :: j16 :: j17 :: j18 :: j19 :: j20 :: j21 :: j22 :: j23 :: j24 :: j25 :: j26 :: j27 :: j28 :: j29 :: j30 :: j31 :: j32 :: j33 :: j34 :: j35 :: j36 :: j37 :: j38 :: j39 :: j40 :: j41 :: j42 :: j43 :: j44 :: j45 :: j46 :: j47 :: j48 :: j49 :: j50 :: j51 :: j52 :: j53 :: j54 :: j55 :: j56 :: j57 :: j58 :: j59 :: j60 :: j61 :: j62 :: j63 :: j64 :: j65 :: j66 :: j67 :: j68 :: j69 :: j70 :: j71 :: j72 :: j73 :: j74 :: j75 :: j76 :: j77 :: j78 :: j79 :: j80 :: j81 :: j82 :: j83 :: j84 :: j85 :: j86 :: j87 :: j88 :: j89 :: j90 :: j91 :: j92 :: j93 :: j94 :: j95 :: j96 :: j97 :: j98 :: j99 :: j100 :: j101 :: j102 :: j103 :: j104 :: j105 :: j106 :: j107 :: j108 :: j109 :: j110 :: j111 :: j112 :: j113 :: j114 :: j115 :: j116 :: [])) H kp = ver_checker_place_P18 j0 j1 j5 j6 j88 H (awp Tryz.prog ver_checker_place_ann) kp :=
  (awpX_eq Tryz.prog ver_checker_place_ann ver_checker_place_cut ver_checker_place_c18 (keepS [0, 1, 5, 6, 88, 9999] 0 (j0 :: j1 :: j2 :: j3 :: j4 :: j5 :: j6 :: j7 :: j8 :: j9 :: j10 :: j11 :: j12 :: j13 :: j14 :: j15 :: j16 :: j17 :: j18 :: j19 :: j20 :: j21 :: j22 :: j23 :: j24 :: j25 :: j26 :: j27 :: j28 :: j29 :: j30 :: j31 :: j32 :: j33 :: j34 :: j35 :: j36 :: j37 :: j38 :: j39 :: j40 :: j41 :: j42 :: j43 :: j44 :: j45 :: j46 :: j47 :: j48 :: j49 :: j50 :: j51 :: j52 :: j53 :: j54 :: j55 :: j56 :: j57 :: j58 :: j59 :: j60 :: j61 :: j62 :: j63 :: j64 :: j65 :: j66 :: j67 :: j68 :: j69 :: j70 :: j71 :: j72 :: j73 :: j74 :: j75 :: j76 :: j77 :: j78 :: j79 :: j80 :: j81 :: j82 :: j83 :: j84 :: j85 :: j86 :: j87 :: j88 :: j89 :: j90 :: j91 :: j92 :: j93 :: j94 :: j95 :: j96 :: j97 :: j98 :: j99 :: j100 :: j101 :: j102 :: j103 :: j104 :: j105 :: j106 :: j107 :: j108 :: j109 :: j110 :: j111 :: j112 :: j113 :: j114 :: j115 :: j116 :: [])) H kp).symm.trans (ver_checker_place_P18_x j0 j1 j2 j3 j4 j5 j6 j7 j8 j9 j10 j11 j12 j13 j14 j15 j16 j17 j18 j19 j20 j21 j22 j23 j24 j25 j26 j27 j28 j29 j30 j31 j32 j33 j34 j35 j36 j37 j38 j39 j40 j41 j42 j43 j44 j45 j46 j47 j48 j49 j50 j51 j52 j53 j54 j55 j56 j57 j58 j59 j60 j61 j62 j63 j64 j65 j66 j67 j68 j69 j70 j71 j72 j73 j74 j75 j76 j77 j78 j79 j80 j81 j82 j83 j84 j85 j86 j87 j88 j89 j90 j91 j92 j93 j94 j95 j96 j97 j98 j99 j100 j101 j102 j103 j104 j105 j106 j107 j108 j109 j110 j111 j112 j113 j114 j115 j116 H (awp Tryz.prog ver_checker_place_ann) kp)

def ver_checker_place_P20 (j0 j1 j5 j6 j92 : AV) (H : List Ob) (_ : Code → List AV → List Ob → Ko → Prop) (kp : Ko) : Prop :=
  aGuard j92
  (aFieldAddr 6 j5 fun v483 =>
  aLoad false 1 v483 H fun v484 =>
  aCall Tryz.prog (.p (.func ver_checker_leads_i [])) [j0, v484, j6] H fun v485 h486 =>
  kp .ret (j0 :: j1 :: .top :: .top :: v485 :: j5 :: j6 :: .top :: .top :: .top :: .top :: .top :: .top :: .top :: .top :: .top :: .top :: .top :: .top :: .top :: .top :: .top :: .top :: .top :: .top :: .top :: .top :: .top :: .top :: .top :: .top :: .top :: .top :: .top :: .top :: .top :: .top :: .top :: .top :: .top :: .top :: .top :: .top :: .top :: .top :: .top :: .top :: .top :: .top :: .top :: .top :: .top :: .top :: .top :: .top :: .top :: .top :: .top :: .top :: .top :: .top :: .top :: .top :: .top :: .top :: .top :: .top :: .top :: .top :: .top :: .top :: .top :: .top :: .top :: .top :: .top :: .top :: .top :: .top :: .top :: .top :: .top :: .top :: .top :: .top :: .top :: .top :: .top :: .top :: .top :: .top :: .top :: (.p (.bool true)) :: .top :: .top :: .top :: j0 :: v483 :: v484 :: j6 :: v485 :: .top :: .top :: .top :: .top :: .top :: .top :: .top :: .top :: .top :: .top :: .top :: .top :: .top :: .top :: .top :: .top :: []) h486)
  (kp .normal (j0 :: j1 :: .top :: .top :: .top :: j5 :: j6 :: .top :: .top :: .top :: .top :: .top :: .top :: .top :: .top :: .top :: .top :: .top :: .top :: .top :: .top :: .top :: .top :: .top :: .top :: .top :: .top :: .top :: .top :: .top :: .top :: .top :: .top :: .top :: .top :: .top :: .top :: .top :: .top :: .top :: .top :: .top :: .top :: .top :: .top :: .top :: .top :: .top :: .top :: .top :: .top :: .top :: .top :: .top :: .top :: .top :: .top :: .top :: .top :: .top :: .top :: .top :: .top :: .top :: .top :: .top :: .top :: .top :: .top :: .top :: .top :: .top :: .top :: .top :: .top :: .top :: .top :: .top :: .top :: .top :: .top :: .top :: .top :: .top :: .top :: .top :: .top :: .top :: .top :: .top :: .top :: .top :: (.p (.bool false)) :: .top :: .top :: .top :: .top :: .top :: .top :: .top :: .top :: .top :: .top :: .top :: .top :: .top :: .top :: .top :: .top :: .top :: .top :: .top :: .top :: .top :: .top :: .top :: .top :: []) H)

theorem ver_checker_place_P20_x (j0 j1 j2 j3 j4 j5 j6 j7 j8 j9 j10 j11 j12 j13 j14 j15 j16 j17 j18 j19 j20 j21 j22 j23 j24 j25 j26 j27 j28 j29 j30 j31 j32 j33 j34 j35 j36 j37 j38 j39 j40 j41 j42 j43 j44 j45 j46 j47 j48 j49 j50 j51 j52 j53 j54 j55 j56 j57 j58 j59 j60 j61 j62 j63 j64 j65 j66 j67 j68 j69 j70 j71 j72 j73 j74 j75 j76 j77 j78 j79 j80 j81 j82 j83 j84 j85 j86 j87 j88 j89 j90 j91 j92 j93 j94 j95 j96 j97 j98 j99 j100 j101 j102 j103 j104 j105 j106 j107 j108 j109 j110 j111 j112 j113 j114 j115 j116 : AV) (H : List Ob) (self : Code → List AV → List Ob → Ko → Prop) (kp : Ko) : awpX Tryz.prog ver_checker_place_ann self ver_checker_place_cut ver_checker_place_c20 (keepS [0, 1, 5, 6, 92, 9999] 0 (j0 :: j1 :: j2 :: j3 :: j4 :: j5 :: j6 :: j7 :: j8 :: j9 :: j10 :: j11 :: j12 :: j13 :: j14 :: j15 :: j16 :: j17 :: j18 :: j19 :: j20 :: j21 :: j22 :: j23 :: j24 :: j25 :: j26 :: j27 :: j28 :: j29 :: j30 :: j31 :: j32 :: j33 :: j34 :: j35 :: j36 :: j37 :: j38 :: j39 :: j40 :: j41 :: j42 :: j43 :: j44 :: j45 :: j46 :: j47 :: j48 :: j49 :: j50 :: j51 :: j52 :: j53 :: j54 :: j55 :: j56 :: j57 :: j58 :: j59 :: j60 :: j61 :: j62 :: j63 :: j64 :: j65 :: j66 :: j67 :: j68 :: j69 :: j70 :: j71 :: j72 :: j73 :: j74 :: j75 :: j76 :: j77 :: j78 :: j79 :: j80 :: j81 :: j82 :: j83 :: j84 :: j85 :: j86 :: j87 :: j88 :: j89 :: j90 :: j91 :: j92 :: j93 :: j94 :: j95 :: j96 :: j97 :: j98 :: j99 :: j100 :: j101 :: j102 :: j103 :: j104 :: j105 :: j106 :: j107 :: j108 :: j109 :: j110 :: j111 :: j112 :: j113 :: j114 :: j115 :: j116 :: [])) H kp = ver_checker_place_P20 j0 j1 j5 j6 j92 H self kp := by kernel_rfl

theorem ver_checker_place_c20_eq (j0 j1 j2 j3 j4 j5 j6 j7 j8 j9 j10 j11 j12 j13 j14 j15 j16 j17 j18 j19 j20 j21 j22 j23 j24 j25 j26 j27 j28 j29 j30 j31 j32 j33 j34 j35 j36 j37 j38 j39 j40 j41 j42 j43 j44 j45 j46 j47 j48 j49 j50 j51 j52 j53 j54 j55 j56 j57 j58 j59 j60 j61 j62 j63 j64 j65 j66 j67 j68 j69 j70 j71 j72 j73 j74 j75 j76 j77 j78 j79 j80 j81 j82 j83 j84 j85 j86 j87 j88 j89 j90 j91 j92 j93 j94 j95 j96 j97 j98 j99 j100 j101 j102 j103 j104 j105 j106 j107 j108 j109 j110 j111 j112 j113 j114 j115 j116 : AV) (H : List Ob) (kp : Ko) : awp Tryz.prog ver_checker_place_ann ver_checker_place_c20 (keepS [0, 1, 5, 6, 92, 9999] 0 (j0 :: j1 :: j2 :: j3 :: j4 :: j5 :: j6 :: j7 :: j8 :: j9 :: j10 :: j11 :: j12 :: j13 :: j14 :: j15 :: j16 :: j17 :: j18 :: j19 :: j20 :: j21 :: j22 :: j23 :: j24 :: j25 :: j26 :: j27 :: j28 :: j29 :: j30 :: j31 :: j32 :: j33 :: j34 :: j35 :: j36 :: j37 :: j38 :: j39 :: j40 :: j41 :: j42 :: j43 :: j44 :: j45 :: j46 :: j47 :: j48 :: j49 :: j50 :: j51 :: j52 :: j53 :: j54 :: j55 :: j56 :: j57 :: j58 :: j59 :: j60 :: j61 :: j62 :: j63 :: j64 :: j65 :: j66 :: j67 :: j68 :: j69 :: j70 :: j71 :: j72 :: j73 :: j74 :: j75 :: j76 :: j77 :: j78 :: j79 :: j80 :: j81 :: j82 :: j83 :: j84 :: j85 :: j86 :: j87 :: j88 :: j89 :: j90 :: j91 :: j92 :: j93 :: j94 :: j95 :: j96 :: j97 :: j98 :: j99 :: j100 :: j101 :: j102 :: j103 :: j104 :: j105 :: j106 :: j107 :: j108 :: j109 :: j110 :: j111 :: j112 :: j113 :: j114 :: j115 :: j116 :: [])) H kp = ver_checker_place_P20 j0 j1 j5 j6 j92 H (awp Tryz.prog ver_checker_place_ann) kp :=
  (awpX_eq Tryz.prog ver_checker_place_ann ver_checker_place_cut ver_checker_place_c20 (keepS [0, 1, 5, 6, 92, 9999] 0 (j0 :: j1 :: j2 :: j3 :: j4 :: j5 :: j6 :: j7 :: j8 :: j9 :: j10 :: j11 :: j12 :: j13 :: j14 :: j15 :: j16 :: j17 :: j18 :: j19 :: j20 :: j21 :: j22 :: j23 :: j24 :: j25 :: j26 :: j27 :: j28 :: j29 :: j30 :: j31 :: j32 :: j33 :: j34 :: j35 :: j36 :: j37 :: j38 :: j39 :: j40 :: j41 :: j42 :: j43 :: j44 :: j45 :: j46 :: j47 :: j48 :: j49 :: j50 :: j51 :: j52 :: j53 :: j54 :: j55 :: j56 :: j57 :: j58 :: j59 :: j60 :: j61 :: j62 :: j63 :: j64 :: j65 :: j66 :: j67 :: j68 :: j69 :: j70 :: j71 :: j72 :: j73 :: j74 :: j75 :: j76 :: j77 :: j78 :: j79 :: j80 :: j81 :: j82 :: j83 :: j84 :: j85 :: j86 :: j87 :: j88 :: j89 :: j90 :: j91 :: j92 :: j93 :: j94 :: j95 :: j96 :: j97 :: j98 :: j99 :: j100 :: j101 :: j102 :: j103 :: j104 :: j105 :: j106 :: j107 :: j108 :: j109 :: j110 :: j111 :: j112 :: j113 :: j114 :: j115 :: j116 :: [])) H kp).symm.trans (ver_checker_place_P20_x j0 j1 j2 j3 j4 j5 j6 j7 j8 j9 j10 j11 j12 j13 j14 j15 j16 j17 j18 j19 j20 j21 j22 j23 j24 j25 j26 j27 j28 j29 j30 j31 j32 j33 j34 j35 j36 j37 j38 j39 j40 j41 j42 j43 j44 j45 j46 j47 j48 j49 j50 j51 j52 j53 j54 j55 j56 j57 j58 j59 j60 j61 j62 j63 j64 j65 j66 j67 j68 j69 j70 j71 j72 j73 j74 j75 j76 j77 j78 j79 j80 j81 j82 j83 j84 j85 j86 j87 j88 j89 j90 j91 j92 j93 j94 j95 j96 j97 j98 j99 j100 j101 j102 j103 j104 j105 j106 j107 j108 j109 j110 j111 j112 j113 j114 j115 j116 H (awp Tryz.prog ver_checker_place_ann) kp)

def ver_checker_place_P21 (j0 j1 j5 j6 : AV) (H : List Ob) (self : Code → List AV → List Ob → Ko → Prop) (kp : Ko) : Prop :=
  aFieldAddr 0 j5 fun v487 =>
  aLoad false 1 v487 H fun v488 =>
  aBin false false .eql v488 (.p (.str [106, 102])) fun v489 =>
  self ver_checker_place_c22 (keepS [0, 1, 5, 6, 103, 9999] 0 (j0 :: j1 :: .top :: .top :: .top :: j5 :: j6 :: .top :: .top :: .top :: .top :: .top :: .top :: .top :: .top :: .top :: .top :: .top :: .top :: .top :: .top :: .top :: .top :: .top :: .top :: .top :: .top :: .top :: .top :: .top :: .top :: .top :: .top :: .top :: .top :: .top :: .top :: .top :: .top :: .top :: .top :: .top :: .top :: .top :: .top :: .top :: .top :: .top :: .top :: .top :: .top :: .top :: .top :: .top :: .top :: .top :: .top :: .top :: .top :: .top :: .top :: .top :: .top :: .top :: .top :: .top :: .top :: .top :: .top :: .top :: .top :: .top :: .top :: .top :: .top :: .top :: .top :: .top :: .top :: .top :: .top :: .top :: .top :: .top :: .top :: .top :: .top :: .top :: .top :: .top :: .top :: .top :: .top :: .top :: .top :: .top :: .top :: .top :: .top :: .top :: .top :: v487 :: v488 :: v489 :: .top :: .top :: .top :: .top :: .top :: .top :: .top :: .top :: .top :: .top :: .top :: .top :: .top :: [])) H (kSeq self ver_checker_place_c25 [0, 1, 6, 9999] kp)

theorem ver_checker_place_P21_x (j0 j1 j2 j3 j4 j5 j6 j7 j8 j9 j10 j11 j12 j13 j14 j15 j16 j17 j18 j19 j20 j21 j22 j23 j24 j25 j26 j27 j28 j29 j30 j31 j32 j33 j34 j35 j36 j37 j38 j39 j40 j41 j42 j43 j44 j45 j46 j47 j48 j49 j50 j51 j52 j53 j54 j55 j56 j57 j58 j59 j60 j61 j62 j63 j64 j65 j66 j67 j68 j69 j70 j71 j72 j73 j74 j75 j76 j77 j78 j79 j80 j81 j82 j83 j84 j85 j86 j87 j88 j89 j90 j91 j92 j93 j94 j95 j96 j97 j98 j99 j100 j101 j102 j103 j104 j105 j106 j107 j108 j109 j110 j111 j112 j113 j114 j115 j116 : AV) (H : List Ob) (self : Code → List AV → List Ob → Ko → Prop) (kp : Ko) : awpX Tryz.prog ver_checker_place_ann self ver_checker_place_cut ver_checker_place_c21 (keepS [0, 1, 5, 6, 9999] 0 (j0 :: j1 :: j2 :: j3 :: j4 :: j5 :: j6 :: j7 :: j8 :: j9 :: j10 :: j11 :: j12 :: j13 :: j14 :: j15 :: j16 :: j17 :: j18 :: j19 :: j20 :: j21 :: j22 :: j23 :: j24 :: j25 :: j26 :: j27 :: j28 :: j29 :: j30 :: j31 :: j32 :: j33 :: j34 :: j35 :: j36 :: j37 :: j38 :: j39 :: j40 :: j41 :: j42 :: j43 :: j44 :: j45 :: j46 :: j47 :: j48 :: j49 :: j50 :: j51 :: j52 :: j53 :: j54 :: j55 :: j56 :: j57 :: j58 :: j59 :: j60 :: j61 :: j62 :: j63 :: j64 :: j65 :: j66 :: j67 :: j68 :: j69 :: j70 :: j71 :: j72 :: j73 :: j74 :: j75 :: j76 :: j77 :: j78 :: j79 :: j80 :: j81 :: j82 :: j83 :: j84 :: j85 :: j86 :: j87 :: j88 :: j89 :: j90 :: j91 :: j92 :: j93 :: j94 :: j95 :: j96 :: j97 :: j98 :: j99 :: j100 :: j101 :: j102 :: j103 :: j104 :: j105 :: j106 :: j107 :: j108 :: j109 :: j110 :: j111 :: j112 :: j113 :: j114 :: j115 :: j116 :: [])) H kp = ver_checker_place_P21 j0 j1 j5 j6 H self kp := by kernel_rfl

theorem ver_checker_place_c21_eq (j0 j1 j2 j3 j4 j5 j6 j7 j8 j9 j10 j11 j12 j13 j14 j15 j16 j17 j18 j19 j20 j21 j22 j23 j24 j25 j26 j27 j28 j29 j30 j31 j32 j33 j34 j35 j36 j37 j38 j39 j40 j41 j42 j43 j44 j45 j46 j47 j48 j49 j50 j51 j52 j53 j54 j55 j56 j57 j58 j59 j60 j61 j62 j63 j64 j65 j66 j67 j68 j69 j70 j71 j72 j73 j74 j75 j76 j77 j78 j79 j80 j81 j82 j83 j84 j85 j86 j87 j88 j89 j90 j91 j92 j93 j94 j95 j96 j97 j98 j99 j100 j101 j102 j103 j104 j105 j106 j107 j108 j109 j110 j111 j112 j113 j114 j115 j116 : AV) (H : List Ob) (kp : Ko) : awp Tryz.prog ver_checker_place_ann ver_checker_place_c21 (keepS [0, 1, 5, 6, 9999] 0 (j0 :: j1 :: j2 :: j3 :: j4 :: j5 :: j6 :: j7 :: j8 :: j9 :: j10 :: j11 :: j12 :: j13 :: j14 :: j15 :: j16 :: j17 :: j18 :: j19 :: j20 :: j21 :: j22 :: j23 :: j24 :: j25 :: j26 :: j27 :: j28 :: j29 :: j30 :: j31 :: j32 :: j33 :: j34 :: j35 :: j36 :: j37 :: j38 :: j39 :: j40 :: j41 :: j42 :: j43 :: j44 :: j45 :: j46 :: j47 :: j48 :: j49 :: j50 :: j51 :: j52 :: j53 :: j54 :: j55 :: j56 :: j57 :: j58 :: j59 :: j60 :: j61 :: j62 :: j63 :: j64 :: j65 :: j66 :: j67 :: j68 :: j69 :: j70 :: j71 :: j72 :: j73 :: j74 :: j75 :: j76 :: j77 :: j78 :: j79 :: j80 :: j81 :: j82 :: j83 :: j84 :: j85 :: j86 :: j87 :: j88 :: j89 :: j90 :: j91 :: j92 :: j93 :: j94 :: j95 :: j96 :: j97 :: j98 :: j99 :: j100 :: j101 :: j102 :: j103 :: j104 :: j105 :: j106 :: j107 :: j108 :: j109 :: j110 :: j111 :: j112 :: j113 :: j114 :: j115 :: j116 :: [])) H kp = ver_checker_place_P21 j0 j1 j5 j6 H (awp Tryz.prog ver_checker_place_ann) kp :=
  (awpX_eq Tryz.prog ver_checker_place_ann ver_checker_place_cut ver_checker_place_c21 (keepS [0, 1, 5, 6, 9999] 0 (j0 :: j1 :: j2 :: j3 :: j4 :: j5 :: j6 :: j7 :: j8 :: j9 :: j10 :: j11 :: j12 :: j13 :: j14 :: j15 :: j16 :: j17 :: j18 :: j19 :: j20 :: j21 :: j22 :: j23 :: j24 :: j25 :: j26 :: j27 :: j28 :: j29 :: j30 :: j31 :: j32 :: j33 :: j34 :: j35 :: j36 :: j37 :: j38 :: j39 :: j40 :: j41 :: j42 :: j43 :: j44 :: j45 :: j46 :: j47 :: j48 :: j49 :: j50 :: j51 :: j52 :: j53 :: j54 :: j55 :: j56 :: j57 :: j58 :: j59 :: j60 :: j61 :: j62 :: j63 :: j64 :: j65 :: j66 :: j67 :: j68 :: j69 :: j70 :: j71 :: j72 :: j73 :: j74 :: j75 :: j76 :: j77 :: j78 :: j79 :: j80 :: j81 :: j82 :: j83 :: j84 :: j85 :: j86 :: j87 :: j88 :: j89 :: j90 :: j91 :: j92 :: j93 :: j94 :: j95 :: j96 :: j97 :: j98 :: j99 :: j100 :: j101 :: j102 :: j103 :: j104 :: j105 :: j106 :: j107 :: j108 :: j109 :: j110 :: j111 :: j112 :: j113 :: j114 :: j115 :: j116 :: [])) H kp).symm.trans (ver_checker_place_P21_x j0 j1 j2 j3 j4 j5 j6 j7 j8 j9 j10 j11 j12 j13 j14 j15 j16 j17 j18 j19 j20 j21 j22 j23 j24 j25 j26 j27 j28 j29 j30 j31 j32 j33 j34 j35 j36 j37 j38 j39 j40 j41 j42 j43 j44 j45 j46 j47 j48 j49 j50 j51 j52 j53 j54 j55 j56 j57 j58 j59 j60 j61 j62 j63 j64 j65 j66 j67 j68 j69 j70 j71 j72 j73 j74 j75 j76 j77 j78 j79 j80 j81 j82 j83 j84 j85 j86 j87 j88 j89 j90 j91 j92 j93 j94 j95 j96 j97 j98 j99 j100 j101 j102 j103 j104 j105 j106 j107 j108 j109 j110 j111 j112 j113 j114 j115 j116 H (awp Tryz.prog ver_checker_place_ann) kp)

def ver_checker_place_P22 (j0 j1 j5 j6 j103 : AV) (H : List Ob) (self : Code → List AV → List Ob → Ko → Prop) (kp : Ko) : Prop :=
  aGuard j103
  (aFieldAddr 6 j5 fun v490 =>
  aLoad false 1 v490 H fun v491 =>
  aCall Tryz.prog (.p (.func ver_checker_leads_i [])) [j0, v491, j6] H fun v492 h493 =>
  self ver_checker_place_c23 (keepS [0, 1, 6, 13, 9999] 0 (j0 :: j1 :: .top :: .top :: .top :: j5 :: j6 :: .top :: .top :: .top :: .top :: .top :: .top :: v492 :: .top :: .top :: .top :: .top :: .top :: .top :: .top :: .top :: .top :: .top :: .top :: .top :: .top :: .top :: .top :: .top :: .top :: .top :: .top :: .top :: .top :: .top :: .top :: .top :: .top :: .top :: .top :: .top :: .top :: .top :: .top :: .top :: .top :: .top :: .top :: .top :: .top :: .top :: .top :: .top :: .top :: .top :: .top :: .top :: .top :: .top :: .top :: .top :: .top :: .top :: .top :: .top :: .top :: .top :: .top :: .top :: .top :: .top :: .top :: .top :: .top :: .top :: .top :: .top :: .top :: .top :: .top :: .top :: .top :: .top :: .top :: .top :: .top :: .top :: .top :: .top :: .top :: .top :: .top :: .top :: .top :: .top :: .top :: .top :: .top :: .top :: .top :: .top :: .top :: (.p (.bool true)) :: j0 :: v490 :: v491 :: j6 :: v492 :: .top :: .top :: .top :: .top :: .top :: .top :: .top :: .top :: [])) h493 kp)
  (kp .normal (j0 :: j1 :: .top :: .top :: .top :: j5 :: j6 :: .top :: .top :: .top :: .top :: .top :: .top :: .top :: .top :: .top :: .top :: .top :: .top :: .top :: .top :: .top :: .top :: .top :: .top :: .top :: .top :: .top :: .top :: .top :: .top :: .top :: .top :: .top :: .top :: .top :: .top :: .top :: .top :: .top :: .top :: .top :: .top :: .top :: .top :: .top :: .top :: .top :: .top :: .top :: .top :: .top :: .top :: .top :: .top :: .top :: .top :: .top :: .top :: .top :: .top :: .top :: .top :: .top :: .top :: .top :: .top :: .top :: .top :: .top :: .top :: .top :: .top :: .top :: .top :: .top :: .top :: .top :: .top :: .top :: .top :: .top :: .top :: .top :: .top :: .top :: .top :: .top :: .top :: .top :: .top :: .top :: .top :: .top :: .top :: .top :: .top :: .top :: .top :: .top :: .top :: .top :: .top :: (.p (.bool false)) :: .top :: .top :: .top :: .top :: .top :: .top :: .top :: .top :: .top :: .top :: .top :: .top :: .top :: []) H)

theorem ver_checker_place_P22_x (j0 j1 j2 j3 j4 j5 j6 j7 j8 j9 j10 j11 j12 j13 j14 j15 j16 j17 j18 j19 j20 j21 j22 j23 j24 j25 j26 j27 j28 j29 j30 j31 j32 j33 j34 j35 j36 j37 j38 j39 j40 j41 j42 j43 j44 j45 j46 j47 j48 j49 j50 j51 j52 j53 j54 j55 j56 j57 j58 j59 j60 j61 j62 j63 j64 j65 j66 j67 j68 j69 j70 j71 j72 j73 j74 j75 j76 j77 j78 j79 j80 j81 j82 j83 j84 j85 j86 j87 j88 j89 j90 j91 j92 j93 j94 j95 j96 j97 j98 j99 j100 j101 j102 j103 j104 j105 j106 j107 j108 j109 j110 j111 j112 j113 j114 j115 j116 : AV) (H : List Ob) (self : Code → List AV → List Ob → Ko → Prop) (kp : Ko) : awpX Tryz.prog ver_checker_place_ann self ver_checker_place_cut ver_checker_place_c22 (keepS [0, 1, 5, 6, 103, 9999] 0 (j0 :: j1 :: j2 :: j3 :: j4 :: j5 :: j6 :: j7 :: j8 :: j9 :: j10 :: j11 :: j12 :: j13 :: j14 :: j15 :: j16 :: j17 :: j18 :: j19 :: j20 :: j21 :: j22 :: j23 :: j24 :: j25 :: j26 :: j27 :: j28 :: j29 :: j30 :: j31 :: j32 :: j33 :: j34 :: j35 :: j36 :: j37 :: j38 :: j39 :: j40 :: j41 :: j42 :: j43 :: j44 :: j45 :: j46 :: j47 :: j48 :: j49 :: j50 :: j51 :: j52 :: j53 :: j54 :: j55 :: j56 :: j57 :: j58 :: j59 :: j60 :: j61 :: j62 :: j63 :: j64 :: j65 :: j66 :: j67 :: j68 :: j69 :: j70 :: j71 :: j72 :: j73 :: j74 :: j75 :: j76 :: j77 :: j78 :: j79 :: j80 :: j81 :: j82 :: j83 :: j84 :: j85 :: j86 :: j87 :: j88 :: j89 :: j90 :: j91 :: j92 :: j93 :: j94 :: j95 :: j96 :: j97 :: j98 :: j99 :: j100 :: j101 :: j102 :: j103 :: j104 :: j105 :: j106 :: j107 :: j108 :: j109 :: j110 :: j111 :: j112 :: j113 :: j114 :: j115 :: j116 :: [])) H kp = ver_checker_place_P22 j0 j1 j5 j6 j103 H self kp := by kernel_rfl

theorem ver_checker_place_c22_eq (j0 j1 j2 j3 j4 j5 j6 j7 j8 j9 j10 j11 j12 j13 j14 j15 j16 j17 j18 j19 j20 j21 j22 j23 j24 j25 j26 j27 j28 j29 j30 j31 j32 j33 j34 j35 j36 j37 j38 j39 j40 j41 j42 j43 j44 j45 j46 j47 j48 j49 j50 j51 j52 j53 j54 j55 j56 j57 j58 j59 j60 j61 j62 j63 j64 j65 j66 j67 j68 j69 j70 j71 j72 j73 j74 j75 j76 j77 j78 j79 j80 j81 j82 j83 j84 j85 j86 j87 j88 j89 j90 j91 j92 j93 j94 j95 j96 j97 j98 j99 j100 j101 j102 j103 j104 j105 j106 j107 j108 j109 j110 j111 j112 j113 j114 j115 j116 : AV) (H : List Ob) (kp : Ko) : awp Tryz.prog ver_checker_place_ann ver_checker_place_c22 (keepS [0, 1, 5, 6, 103, 9999] 0 (j0 :: j1 :: j2 :: j3 :: j4 :: j5 :: j6 :: j7 :: j8 :: j9 :: j10 :: j11 :: j12 :: j13 :: j14 :: j15 :: j16 :: j17 :: j18 :: j19 :: j20 :: j21 :: j22 :: j23 :: j24 :: j25 :: j26 :: j27 :: j28 :: j29 :: j30 :: j31 :: j32 :: j33 :: j34 :: j35 :: j36 :: j37 :: j38 :: j39 :: j40 :: j41 :: j42 :: j43 :: j44 :: j45 :: j46 :: j47 :: j48 :: j49 :: j50 :: j51 :: j52 :: j53 :: j54 :: j55 :: j56 :: j57 :: j58 :: j59 :: j60 :: j61 :: j62 :: j63 :: j64 :: j65 :: j66 :: j67 :: j68 :: j69 :: j70 :: j71 :: j72 :: j73 :: j74 :: j75 :: j76 :: j77 :: j78 :: j79 :: j80 :: j81 :: j82 :: j83 :: j84 :: j85 :: j86 :: j87 :: j88 :: j89 :: j90 :: j91 :: j92 :: j93 :: j94 :: j95 :: j96 :: j97 :: j98 :: j99 :: j100 :: j101 :: j102 :: j103 :: j104 :: j105 :: j106 :: j107 :: j108 :: j109 :: j110 :: j111 :: j112 :: j113 :: j114 :: j115 :: j116 :: [])) H kp = ver_checker_place_P22 j0 j1 j5 j6 j103 H (awp Tryz.prog ver_checker_place_ann) kp :=
  (awpX_eq Tryz.prog ver_checker_place_ann ver_checker_place_cut ver_checker_place_c22 (keepS [0, 1, 5, 6, 103, 9999] 0 (j0 :: j1 :: j2 :: j3 :: j4 :: j5 :: j6 :: j7 :: j8 :: j9 :: j10 :: j11 :: j12 :: j13 :: j14 :: j15 :: j16 :: j17 :: j18 :: j19 :: j20 :: j21 :: j22 :: j23 :: j24 :: j25 :: j26 :: j27 :: j28 :: j29 :: j30 :: j31 :: j32 :: j33 :: j34 :: j35 :: j36 :: j37 :: j38 :: j39 :: j40 :: j41 :: j42 :: j43 :: j44 :: j45 :: j46 :: j47 :: j48 :: j49 :: j50 :: j51 :: j52 :: j53 :: j54 :: j55 :: j56 :: j57 :: j58 :: j59 :: j60 :: j61 :: j62 :: j63 :: j64 :: j65 :: j66 :: j67 :: j68 :: j69 :: j70 :: j71 :: j72 :: j73 :: j74 :: j75 :: j76 :: j77 :: j78 :: j79 :: j80 :: j81 :: j82 :: j83 :: j84 :: j85 :: j86 :: j87 :: j88 :: j89 :: j90 :: j91 :: j92 :: j93 :: j94 :: j95 :: j96 :: j97 :: j98 :: j99 :: j100 :: j101 :: j102 :: j103 :: j104 :: j105 :: j106 :: j107 :: j108 :: j109 :: j110 :: j111 :: j112 :: j113 :: j114 :: j115 :: j116 :: [])) H kp).symm.trans (ver_checker_place_P22_x j0 j1 j2 j3 j4 j5 j6 j7 j8 j9 j10 j11 j12 j13 j14 j15 j16 j17 j18 j19 j20 j21 j22 j23 j24 j25 j26 j27 j28 j29 j30 j31 j32 j33 j34 j35 j36 j37 j38 j39 j40 j41 j42 j43 j44 j45 j46 j47 j48 j49 j50 j51 j52 j53 j54 j55 j56 j57 j58 j59 j60 j61 j62 j63 j64 j65 j66 j67 j68 j69 j70 j71 j72 j73 j74 j75 j76 j77 j78 j79 j80 j81 j82 j83 j84 j85 j86 j87 j88 j89 j90 j91 j92 j93 j94 j95 j96 j97 j98 j99 j100 j101 j102 j103 j104 j105 j106 j107 j108 j109 j110 j111 j112 j113 j114 j115 j116 H (awp Tryz.prog ver_checker_place_ann) kp)

def ver_checker_place_P23 (j0 j1 j6 j13 : AV) (H : List Ob) (self : Code → List AV → List Ob → Ko → Prop) (kp : Ko) : Prop :=
  aBin false false .neq j13 (.p (.int .i64 0)) fun v494 =>
  self ver_checker_place_c24 (keepS [0, 1, 6, 13, 110, 9999] 0 (j0 :: j1 :: .top :: .top :: .top :: .top :: j6 :: .top :: .top :: .top :: .top :: .top :: .top :: j13 :: .top :: .top :: .top :: .top :: .top :: .top :: .top :: .top :: .top :: .top :: .top :: .top :: .top :: .top :: .top :: .top :: .top :: .top :: .top :: .top :: .top :: .top :: .top :: .top :: .top :: .top :: .top :: .top :: .top :: .top :: .top :: .top :: .top :: .top :: .top :: .top :: .top :: .top :: .top :: .top :: .top :: .top :: .top :: .top :: .top :: .top :: .top :: .top :: .top :: .top :: .top :: .top :: .top :: .top :: .top :: .top :: .top :: .top :: .top :: .top :: .top :: .top :: .top :: .top :: .top :: .top :: .top :: .top :: .top :: .top :: .top :: .top :: .top :: .top :: .top :: .top :: .top :: .top :: .top :: .top :: .top :: .top :: .top :: .top :: .top :: .top :: .top :: .top :: .top :: .top :: .top :: .top :: .top :: .top :: .top :: j13 :: v494 :: .top :: .top :: .top :: .top :: .top :: .top :: [])) H kp

theorem ver_checker_place_P23_x (j0 j1 j2 j3 j4 j5 j6 j7 j8 j9 j10 j11 j12 j13 j14 j15 j16 j17 j18 j19 j20 j21 j22 j23 j24 j25 j26 j27 j28 j29 j30 j31 j32 j33 j34 j35 j36 j37 j38 j39 j40 j41 j42 j43 j44 j45 j46 j47 j48 j49 j50 j51 j52 j53 j54 j55 j56 j57 j58 j59 j60 j61 j62 j63 j64 j65 j66 j67 j68 j69 j70 j71 j72 j73 j74 j75 j76 j77 j78 j79 j80 j81 j82 j83 j84 j85 j86 j87 j88 j89 j90 j91 j92 j93 j94 j95 j96 j97 j98 j99 j100 j101 j102 j103 j104 j105 j106 j107 j108 j109 j110 j111 j112 j113 j114 j115 j116 : AV) (H : List Ob) (self : Code → List AV → List Ob → Ko → Prop) (kp : Ko) : awpX Tryz.prog ver_checker_place_ann self ver_checker_place_cut ver_checker_place_c23 (keepS [0, 1, 6, 13, 9999] 0 (j0 :: j1 :: j2 :: j3 :: j4 :: j5 :: j6 :: j7 :: j8 :: j9 :: j10 :: j11 :: j12 :: j13 :: j14 :: j15 :: j16 :: j17 :: j18 :: j19 :: j20 :: j21 :: j22 :: j23 :: j24 :: j25 :: j26 :: j27 :: j28 :: j29 :: j30 :: j31 :: j32 :: j33 :: j34 :: j35 :: j36 :: j37 :: j38 :: j39 :: j40 :: j41 :: j42 :: j43 :: j44 :: j45 :: j46 :: j47 :: j48 :: j49 :: j50 :: j51 :: j52 :: j53 :: j54 :: j55 :: j56 :: j57 :: j58 :: j59 :: j60 :: j61 :: j62 :: j63 :: j64 :: j65 :: j66 :: j67 :: j68 :: j69 :: j70 :: j71 :: j72 :: j73 :: j74 :: j75 :: j76 :: j77 :: j78 :: j79 :: j80 :: j81 :: j82 :: j83 :: j84 :: j85 :: j86 :: j87 :: j88 :: j89 :: j90 :: j91 :: j92 :: j93 :: j94 :: j95 :: j96 :: j97 :: j98 :: j99 :: j100 :: j101 :: j102 :: j103 :: j104 :: j105 :: j106 :: j107 :: j108 :: j109 :: j110 :: j111 :: j112 :: j113 :: j114 :: j115 :: j116 :: [])) H kp = ver_checker_place_P23 j0 j1 j6 j13 H self kp := by kernel_rfl

theorem ver_checker_place_c23_eq (j0 j1 j2 j3 j4 j5 j6 j7 j8 j9 j10 j11 j12 j13 j14 j15 j16 j17 j18 j19 j20 j21 j22 j23 j24 j25 j26 j27 j28 j29 j30 j31 j32 j33 j34 j35 j36 j37 j38 j39 j40 j41 j42 j43 j44 j45 j46 j47 j48 j49 j50 j51 j52 j53 j54 j55 j56 j57 j58 j59 j60 j61 j62 j63 j64 j65 j66 j67 j68 j69 j70 j71 j72 j73 j74 j75 j76 j77 j78 j79 j80 j81 j82 j83 j84 j85 j86 j87 j88 j89 j90 j91 j92 j93 j94 j95 j96 j97 j98 j99 j100 j101 j102 j103 j104 j105 j106 j107 j108 j109 j110 j111 j112 j113 j114 j115 j116 : AV) (H : List Ob) (kp : Ko) : awp Tryz.prog ver_checker_place_ann ver_checker_place_c23 (keepS [0, 1, 6, 13, 9999] 0 (j0 :: j1 :: j2 :: j3 :: j4 :: j5 :: j6 :: j7 :: j8 :: j9 :: j10 :: j11 :: j12 :: j13 :: j14 :: j15 :: j16 :: j17 :: j18 :: j19 :: j20 :: j21 :: j22 :: j23 :: j24 :: j25 :: j26 :: j27 :: j28 :: j29 :: j30 :: j31 :: j32 :: j33 :: j34 :: j35 :: j36 :: j37 :: j38 :: j39 :: j40 :: j41 :: j42 :: j43 :: j44 :: j45 :: j46 :: j47 :: j48 :: j49 :: j50 :: j51 :: j52 :: j53 :: j54 :: j55 :: j56 :: j57 :: j58 :: j59 :: j60 :: j61 :: j62 :: j63 :: j64 :: j65 :: j66 :: j67 :: j68 :: j69 :: j70 :: j71 :: j72 :: j73 :: j74 :: j75 :: j76 :: j77 :: j78 :: j79 :: j80 :: j81 :: j82 :: j83 :: j84 :: j85 :: j86 :: j87 :: j88 :: j89 :: j90 :: j91 :: j92 :: j93 :: j94 :: j95 :: j96 :: j97 :: j98 :: j99 :: j100 :: j101 :: j102 :: j103 :: j104 :: j105 :: j106 :: j107 :: j108 :: j109 :: j110 :: j111 :: j112 :: j113 :: j114 :: j115 :: j116 :: [])) H kp = ver_checker_place_P23 j0 j1 j6 j13 H (awp Tryz.prog ver_checker_place_ann) kp :=
  (awpX_eq Tryz.prog ver_checker_place_ann ver_checker_place_cut ver_checker_place_c23 (keepS [0, 1, 6, 13, 9999] 0 (j0 :: j1 :: j2 :: j3 :: j4 :: j5 :: j6 :: j7 :: j8 :: j9 :: j10 :: j11 :: j12 :: j13 :: j14 :: j15 :: j16 :: j17 :: j18 :: j19 :: j20 :: j21 :: j22 :: j23 :: j24 :: j25 :: j26 :: j27 :: j28 :: j29 :: j30 :: j31 :: j32 :: j33 :: j34 :: j35 :: j36 :: j37 :: j38 :: j39 :: j40 :: j41 :: j42 :: j43 :: j44 :: j45 :: j46 :: j47 :: j48 :: j49 :: j50 :: j51 :: j52 :: j53 :: j54 :: j55 :: j56 :: j57 :: j58 :: j59 :: j60 :: j61 :: j62 :: j63 :: j64 :: j65 :: j66 :: j67 :: j68 :: j69 :: j70 :: j71 :: j72 :: j73 :: j74 :: j75 :: j76 :: j77 :: j78 :: j79 :: j80 :: j81 :: j82 :: j83 :: j84 :: j85 :: j86 :: j87 :: j88 :: j89 :: j90 :: j91 :: j92 :: j93 :: j94 :: j95 :: j96 :: j97 :: j98 :: j99 :: j100 :: j101 :: j102 :: j103 :: j104 :: j105 :: j106 :: j107 :: j108 :: j109 :: j110 :: j111 :: j112 :: j113 :: j114 :: j115 :: j116 :: [])) H kp).symm.trans (ver_checker_place_P23_x j0 j1 j2 j3 j4 j5 j6 j7 j8 j9 j10 j11 j12 j13 j14 j15 j16 j17 j18 j19 j20 j21 j22 j23 j24 j25 j26 j27 j28 j29 j30 j31 j32 j33 j34 j35 j36 j37 j38 j39 j40 j41 j42 j43 j44 j45 j46 j47 j48 j49 j50 j51 j52 j53 j54 j55 j56 j57 j58 j59 j60 j61 j62 j63 j64 j65 j66 j67 j68 j69 j70 j71 j72 j73 j74 j75 j76 j77 j78 j79 j80 j81 j82 j83 j84 j85 j86 j87 j88 j89 j90 j91 j92 j93 j94 j95 j96 j97 j98 j99 j100 j101 j102 j103 j104 j105 j106 j107 j108 j109 j110 j111 j112 j113 j114 j115 j116 H (awp Tryz.prog ver_checker_place_ann) kp)

def ver_checker_place_P24 (j0 j1 j6 j13 j110 : AV) (H : List Ob) (_ : Code → List AV → List Ob → Ko → Prop) (kp : Ko) : Prop :=
  aGuard j110
  (kp .ret (j0 :: j1 :: .top :: .top :: j13 :: .top :: j6 :: .top :: .top :: .top :: .top :: .top :: .top :: j13 :: .top :: .top :: .top :: .top :: .top :: .top :: .top :: .top :: .top :: .top :: .top :: .top :: .top :: .top :: .top :: .top :: .top :: .top :: .top :: .top :: .top :: .top :: .top :: .top :: .top :: .top :: .top :: .top :: .top :: .top :: .top :: .top :: .top :: .top :: .top :: .top :: .top :: .top :: .top :: .top :: .top :: .top :: .top :: .top :: .top :: .top :: .top :: .top :: .top :: .top :: .top :: .top :: .top :: .top :: .top :: .top :: .top :: .top :: .top :: .top :: .top :: .top :: .top :: .top :: .top :: .top :: .top :: .top :: .top :: .top :: .top :: .top :: .top :: .top :: .top :: .top :: .top :: .top :: .top :: .top :: .top :: .top :: .top :: .top :: .top :: .top :: .top :: .top :: .top :: .top :: .top :: .top :: .top :: .top :: .top :: .top :: (.p (.bool true)) :: j13 :: .top :: .top :: .top :: .top :: .top :: []) H)
  (kp .normal (j0 :: j1 :: .top :: .top :: .top :: .top :: j6 :: .top :: .top :: .top :: .top :: .top :: .top :: j13 :: .top :: .top :: .top :: .top :: .top :: .top :: .top :: .top :: .top :: .top :: .top :: .top :: .top :: .top :: .top :: .top :: .top :: .top :: .top :: .top :: .top :: .top :: .top :: .top :: .top :: .top :: .top :: .top :: .top :: .top :: .top :: .top :: .top :: .top :: .top :: .top :: .top :: .top :: .top :: .top :: .top :: .top :: .top :: .top :: .top :: .top :: .top :: .top :: .top :: .top :: .top :: .top :: .top :: .top :: .top :: .top :: .top :: .top :: .top :: .top :: .top :: .top :: .top :: .top :: .top :: .top :: .top :: .top :: .top :: .top :: .top :: .top :: .top :: .top :: .top :: .top :: .top :: .top :: .top :: .top :: .top :: .top :: .top :: .top :: .top :: .top :: .top :: .top :: .top :: .top :: .top :: .top :: .top :: .top :: .top :: .top :: (.p (.bool false)) :: .top :: .top :: .top :: .top :: .top :: .top :: []) H)

theorem ver_checker_place_P24_x (j0 j1 j2 j3 j4 j5 j6 j7 j8 j9 j10 j11 j12 j13 j14 j15 j16 j17 j18 j19 j20 j21 j22 j23 j24 j25 j26 j27 j28 j29 j30 j31 j32 j33 j34 j35 j36 j37 j38 j39 j40 j41 j42 j43 j44 j45 j46 j47 j48 j49 j50 j51 j52 j53 j54 j55 j56 j57 j58 j59 j60 j61 j62 j63 j64 j65 j66 j67 j68 j69 j70 j71 j72 j73 j74 j75 j76 j77 j78 j79 j80 j81 j82 j83 j84 j85 j86 j87 j88 j89 j90 j91 j92 j93 j94 j95 j96 j97 j98 j99 j100 j101 j102 j103 j104 j105 j106 j107 j108 j109 j110 j111 j112 j113 j114 j115 j116 : AV) (H : List Ob) (self : Code → List AV → List Ob → Ko → Prop) (kp : Ko) : awpX Tryz.prog ver_checker_place_ann self ver_checker_place_cut ver_checker_place_c24 (keepS [0, 1, 6, 13, 110, 9999] 0 (j0 :: j1 :: j2 :: j3 :: j4 :: j5 :: j6 :: j7 :: j8 :: j9 :: j10 :: j11 :: j12 :: j13 :: j14 :: j15 :: j16 :: j17 :: j18 :: j19 :: j20 :: j21 :: j22 :: j23 :: j24 :: j25 :: j26 :: j27 :: j28 :: j29 :: j30 :: j31 :: j32 :: j33 :: j34 :: j35 :: j36 :: j37 :: j38 :: j39 :: j40 :: j41 :: j42 :: j43 :: j44 :: j45 :: j46 :: j47 :: j48 :: j49 :: j50 :: j51 :: j52 :: j53 :: j54 :: j55 :: j56 :: j57 :: j58 :: j59 :: j60 :: j61 :: j62 :: j63 :: j64 :: j65 :: j66 :: j67 :: j68 :: j69 :: j70 :: j71 :: j72 :: j73 :: j74 :: j75 :: j76 :: j77 :: j78 :: j79 :: j80 :: j81 :: j82 :: j83 :: j84 :: j85 :: j86 :: j87 :: j88 :: j89 :: j90 :: j91 :: j92 :: j93 :: j94 :: j95 :: j96 :: j97 :: j98 :: j99 :: j100 :: j101 :: j102 :: j103 :: j104 :: j105 :: j106 :: j107 :: j108 :: j109 :: j110 :: j111 :: j112 :: j113 :: j114 :: j115 :: j116 :: [])) H kp = ver_checker_place_P24 j0 j1 j6 j13 j110 H self kp := by kernel_rfl

theorem ver_checker_place_c24_eq (j0 j1 j2 j3 j4 j5 j6 j7 j8 j9 j10 j11 j12 j13 j14 j15 j16 j17 j18 j19 j20 j21 j22 j23 j24 j25 j26 j27 j28 j29 j30 j31 j32 j33 j34 j35 j36 j37 j38 j39 j40 j41 j42 j43 j44 j45 j46 j47 j48 j49 j50 j51 j52 j53 j54 j55 j56 j57 j58 j59 j60 j61 j62 j63 j64 j65 j66 j67 j68 j69 j70 j71 j72 j73 j74 j75 j76 j77 j78 j79 j80 j81 j82 j83 j84 j85 j86 j87 j88 j89 j90 j91 j92 j93 j94 j95 j96 j97 j98 j99 j100 j101 j102 j103 j104 j105 j106 j107 j108 j109 j110 j111 j112 j113 j114 j115 j116 : AV) (H : List Ob) (kp : Ko) : awp Tryz.prog ver_checker_place_ann ver_checker_place_c24 (keepS [0, 1, 6, 13, 110, 9999] 0 (j0 :: j1 :: j2 :: j3 :: j4 :: j5 :: j6 :: j7 :: j8 :: j9 :: j10 :: j11 :: j12 :: j13 :: j14 :: j15 :: j16 :: j17 :: j18 :: j19 :: j20 :: j21 :: j22 :: j23 :: j24 :: j25 :: j26 :: j27 :: j28 :: j29 :: j30 :: j31 :: j32 :: j33 :: j34 :: j35 :: j36 :: j37 :: j38 :: j39 :: j40 :: j41 :: j42 :: j43 :: j44 :: j45 :: j46 :: j47 :: j48 :: j49 :: j50 :: j51 :: j52 :: j53 :: j54 :: j55 :: j56 :: j57 :: j58 :: j59 :: j60 :: j61 :: j62 :: j63 :: j64 :: j65 :: j66 :: j67 :: j68 :: j69 :: j70 :: j71 :: j72 :: j73 :: j74 :: j75 :: j76 :: j77 :: j78 :: j79 :: j80 :: j81 :: j82 :: j83 :: j84 :: j85 :: j86 :: j87 :: j88 :: j89 :: j90 :: j91 :: j92 :: j93 :: j94 :: j95 :: j96 :: j97 :: j98 :: j99 :: j100 :: j101 :: j102 :: j103 :: j104 :: j105 :: j106 :: j107 :: j108 :: j109 :: j110 :: j111 :: j112 :: j113 :: j114 :: j115 :: j116 :: [])) H kp = ver_checker_place_P24 j0 j1 j6 j13 j110 H (awp Tryz.prog ver_checker_place_ann) kp :=
  (awpX_eq Tryz.prog ver_checker_place_ann ver_checker_place_cut ver_checker_place_c24 (keepS [0, 1, 6, 13, 110, 9999] 0 (j0 :: j1 :: j2 :: j3 :: j4 :: j5 :: j6 :: j7 :: j8 :: j9 :: j10 :: j11 :: j12 :: j13 :: j14 :: j15 :: j16 :: j17 :: j18 :: j19 :: j20 :: j21 :: j22 :: j23 :: j24 :: j25 :: j26 :: j27 :: j28 :: j29 :: j30 :: j31 :: j32 :: j33 :: j34 :: j35 :: j36 :: j37 :: j38 :: j39 :: j40 :: j41 :: j42 :: j43 :: j44 :: j45 :: j46 :: j47 :: j48 :: j49 :: j50 :: j51 :: j52 :: j53 :: j54 :: j55 :: j56 :: j57 :: j58 :: j59 :: j60 :: j61 :: j62 :: j63 :: j64 :: j65 :: j66 :: j67 :: j68 :: j69 :: j70 :: j71 :: j72 :: j73 :: j74 :: j75 :: j76 :: j77 :: j78 :: j79 :: j80 :: j81 :: j82 :: j83 :: j84 :: j85 :: j86 :: j87 :: j88 :: j89 :: j90 :: j91 :: j92 :: j93 :: j94 :: j95 :: j96 :: j97 :: j98 :: j99 :: j100 :: j101 :: j102 :: j103 :: j104 :: j105 :: j106 :: j107 :: j108 :: j109 :: j110 :: j111 :: j112 :: j113 :: j114 :: j115 :: j116 :: [])) H kp).symm.trans (ver_checker_place_P24_x j0 j1 j2 j3 j4 j5 j6 j7 j8 j9 j10 j11 j12 j13 j14 j15 j16 j17 j18 j19 j20 j21 j22 j23 j24 j25 j26 j27 j28 j29 j30 j31 j32 j33 j34 j35 j36 j37 j38 j39 j40 j41 j42 j43 j44 j45 j46 j47 j48 j49 j50 j51 j52 j53 j54 j55 j56 j57 j58 j59 j60 j61 j62 j63 j64 j65 j66 j67 j68 j69 j70 j71 j72 j73 j74 j75 j76 j77 j78 j79 j80 j81 j82 j83 j84 j85 j86 j87 j88 j89 j90 j91 j92 j93 j94 j95 j96 j97 j98 j99 j100 j101 j102 j103 j104 j105 j106 j107 j108 j109 j110 j111 j112 j113 j114 j115 j116 H (awp Tryz.prog ver_checker_place_ann) kp)

def ver_checker_place_P25 (j0 j1 j6 : AV) (H : List Ob) (_ : Code → List AV → List Ob → Ko → Prop) (kp : Ko) : Prop :=
  aBin false false .add j1 (.p (.int .i64 1)) fun v495 =>
  aCall Tryz.prog (.p (.func ver_checker_leads_i [])) [j0, v495, j6] H fun v496 h497 =>
  kp .ret (j0 :: j1 :: .top :: .top :: v496 :: .top :: j6 :: .top :: .top :: .top :: .top :: .top :: .top :: .top :: .top :: .top :: .top :: .top :: .top :: .top :: .top :: .top :: .top :: .top :: .top :: .top :: .top :: .top :: .top :: .top :: .top :: .top :: .top :: .top :: .top :: .top :: .top :: .top :: .top :: .top :: .top :: .top :: .top :: .top :: .top :: .top :: .top :: .top :: .top :: .top :: .top :: .top :: .top :: .top :: .top :: .top :: .top :: .top :: .top :: .top :: .top :: .top :: .top :: .top :: .top :: .top :: .top :: .top :: .top :: .top :: .top :: .top :: .top :: .top :: .top :: .top :: .top :: .top :: .top :: .top :: .top :: .top :: .top :: .top :: .top :: .top :: .top :: .top :: .top :: .top :: .top :: .top :: .top :: .top :: .top :: .top :: .top :: .top :: .top :: .top :: .top :: .top :: .top :: .top :: .top :: .top :: .top :: .top :: .top :: .top :: .top :: .top :: j0 :: j1 :: v495 :: j6 :: v496 :: []) h497

theorem ver_checker_place_P25_x (j0 j1 j2 j3 j4 j5 j6 j7 j8 j9 j10 j11 j12 j13 j14 j15 j16 j17 j18 j19 j20 j21 j22 j23 j24 j25 j26 j27 j28 j29 j30 j31 j32 j33 j34 j35 j36 j37 j38 j39 j40 j41 j42 j43 j44 j45 j46 j47 j48 j49 j50 j51 j52 j53 j54 j55 j56 j57 j58 j59 j60 j61 j62 j63 j64 j65 j66 j67 j68 j69 j70 j71 j72 j73 j74 j75 j76 j77 j78 j79 j80 j81 j82 j83 j84 j85 j86 j87 j88 j89 j90 j91 j92 j93 j94 j95 j96 j97 j98 j99 j100 j101 j102 j103 j104 j105 j106 j107 j108 j109 j110 j111 j112 j113 j114 j115 j116 : AV) (H : List Ob) (self : Code → List AV → List Ob → Ko → Prop) (kp : Ko) : awpX Tryz.prog ver_checker_place_ann self ver_checker_place_cut ver_checker_place_c25 (keepS [0, 1, 6, 9999] 0 (j0 :: j1 :: j2 :: j3 :: j4 :: j5 :: j6 :: j7 :: j8 :: j9 :: j10 :: j11 :: j12 :: j13 :: j14 :: j15 :: j16 :: j17 :: j18 :: j19 :: j20 :: j21 :: j22 :: j23 :: j24 :: j25 :: j26 :: j27 :: j28 :: j29 :: j30 :: j31 :: j32 :: j33 :: j34 :: j35 :: j36 :: j37 :: j38 :: j39 :: j40 :: j41 :: j42 :: j43 :: j44 :: j45 :: j46 :: j47 :: j48 :: j49 :: j50 :: j51 :: j52 :: j53 :: j54 :: j55 :: j56 :: j57 :: j58 :: j59 :: j60 :: j61 :: j62 :: j63 :: j64 :: j65 :: j66 :: j67 :: j68 :: j69 :: j70 :: j71 :: j72 :: j73 :: j74 :: j75 :: j76 :: j77 :: j78 :: j79 :: j80 :: j81 :: j82 :: j83 :: j84 :: j85 :: j86 :: j87 :: j88 :: j89 :: j90 :: j91 :: j92 :: j93 :: j94 :: j95 :: j96 :: j97 :: j98 :: j99 :: j100 :: j101 :: j102 :: j103 :: j104 :: j105 :: j106 :: j107 :: j108 :: j109 :: j110 :: j111 :: j112 :: j113 :: j114 :: j115 :: j116 :: [])) H kp = ver_checker_place_P25 j0 j1 j6 H self kp := by kernel_rfl

theorem ver_checker_place_c25_eq (j0 j1 j2 j3 j4 j5 j6 j7 j8 j9 j10 j11 j12 j13 j14 j15 j16 j17 j18 j19 j20 j21 j22 j23 j24 j25 j26 j27 j28 j29 j30 j31 j32 j33 j34 j35 j36 j37 j38 j39 j40 j41 j42 j43 j44 j45 j46 j47 j48 j49 j50 j51 j52 j53 j54 j55 j56 j57 j58 j59 j60 j61 j62 j63 j64 j65 j66 j67 j68 j69 j70 j71 j72 j73 j74 j75 j76 j77 j78 j79 j80 j81 j82 j83 j84 j85 j86 j87 j88 j89 j90 j91 j92 j93 j94 j95 j96 j97 j98 j99 j100 j101 j102 j103 j104 j105 j106 j107 j108 j109 j110 j111 j112 j113 j114 j115 j116 : AV) (H : List Ob) (kp : Ko) : awp Tryz.prog ver_checker_place_ann ver_checker_place_c25 (keepS [0, 1, 6, 9999] 0 (j0 :: j1 :: j2 :: j3 :: j4 :: j5 :: j6 :: j7 :: j8 :: j9 :: j10 :: j11 :: j12 :: j13 :: j14 :: j15 :: j16 :: j17 :: j18 :: j19 :: j20 :: j21 :: j22 :: j23 :: j24 :: j25 :: j26 :: j27 :: j28 :: j29 :: j30 :: j31 :: j32 :: j33 :: j34 :: j35 :: j36 :: j37 :: j38 :: j39 :: j40 :: j41 :: j42 :: j43 :: j44 :: j45 :: j46 :: j47 :: j48 :: j49 :: j50 :: j51 :: j52 :: j53 :: j54 :: j55 :: j56 :: j57 :: j58 :: j59 :: j60 :: j61 :: j62 :: j63 :: j64 :: j65 :: j66 :: j67 :: j68 :: j69 :: j70 :: j71 :: j72 :: j73 :: j74 :: j75 :: j76 :: j77 :: j78 :: j79 :: j80 :: j81 :: j82 :: j83 :: j84 :: j85 :: j86 :: j87 :: j88 :: j89 :: j90 :: j91 :: j92 :: j93 :: j94 :: j95 :: j96 :: j97 :: j98 :: j99 :: j100 :: j101 :: j102 :: j103 :: j104 :: j105 :: j106 :: j107 :: j108 :: j109 :: j110 :: j111 :: j112 :: j113 :: j114 :: j115 :: j116 :: [])) H kp = ver_checker_place_P25 j0 j1 j6 H (awp Tryz.prog ver_checker_place_ann) kp :=
  (awpX_eq Tryz.prog ver_checker_place_ann ver_checker_place_cut ver_checker_place_c25 (keepS [0, 1, 6, 9999] 0 (j0 :: j1 :: j2 :: j3 :: j4 :: j5 :: j6 :: j7 :: j8 :: j9 :: j10 :: j11 :: j12 :: j13 :: j14 :: j15 :: j16 :: j17 :: j18 :: j19 :: j20 :: j21 :: j22 :: j23 :: j24 :: j25 :: j26 :: j27 :: j28 :: j29 :: j30 :: j31 :: j32 :: j33 :: j34 :: j35 :: j36 :: j37 :: j38 :: j39 :: j40 :: j41 :: j42 :: j43 :: j44 :: j45 :: j46 :: j47 :: j48 :: j49 :: j50 :: j51 :: j52 :: j53 :: j54 :: j55 :: j56 :: j57 :: j58 :: j59 :: j60 :: j61 :: j62 :: j63 :: j64 :: j65 :: j66 :: j67 :: j68 :: j69 :: j70 :: j71 :: j72 :: j73 :: j74 :: j75 :: j76 :: j77 :: j78 :: j79 :: j80 :: j81 :: j82 :: j83 :: j84 :: j85 :: j86 :: j87 :: j88 :: j89 :: j90 :: j91 :: j92 :: j93 :: j94 :: j95 :: j96 :: j97 :: j98 :: j99 :: j100 :: j101 :: j102 :: j103 :: j104 :: j105 :: j106 :: j107 :: j108 :: j109 :: j110 :: j111 :: j112 :: j113 :: j114 :: j115 :: j116 :: [])) H kp).symm.trans (ver_checker_place_P25_x j0 j1 j2 j3 j4 j5 j6 j7 j8 j9 j10 j11 j12 j13 j14 j15 j16 j17 j18 j19 j20 j21 j22 j23 j24 j25 j26 j27 j28 j29 j30 j31 j32 j33 j34 j35 j36 j37 j38 j39 j40 j41 j42 j43 j44 j45 j46 j47 j48 j49 j50 j51 j52 j53 j54 j55 j56 j57 j58 j59 j60 j61 j62 j63 j64 j65 j66 j67 j68 j69 j70 j71 j72 j73 j74 j75 j76 j77 j78 j79 j80 j81 j82 j83 j84 j85 j86 j87 j88 j89 j90 j91 j92 j93 j94 j95 j96 j97 j98 j99 j100 j101 j102 j103 j104 j105 j106 j107 j108 j109 j110 j111 j112 j113 j114 j115 j116 H (awp Tryz.prog ver_checker_place_ann) kp)

/- (*runnel/ver.Stack[runnel/typ.Type]).Twin -/
def ver_Stack_typ_Type_Twin (x0 : AV) (H : List Ob) (K : AV → List Ob → Prop) : Prop :=
  aNilCheck x0 fun v0 =>
  aFieldAddr 0 v0 fun v1 =>
  aLoad false 1 v1 H fun v2 =>
  aCall Tryz.prog (.p (.func slices_Clone_typ_Type_typ_Type_i [])) [v2] H fun v3 h4 =>
  aBuild [(.full [])] [(0, 1, v3)] fun v5 =>
  aBox v5 h4 fun v6 h7 =>
  K v6 h7

def ver_Stack_typ_Type_Twin_ann : Nat → List Nat := fun _ => []

theorem ver_Stack_typ_Type_Twin_eq (x0 : AV) (H : List Ob) (r : AV) (Ho : List Ob) : aBody Tryz.prog ver_Stack_typ_Type_Twin_ann Tryz.f65 H [x0] r Ho = ver_Stack_typ_Type_Twin x0 H (fun v H' => Gives H.length v H' r Ho) := by kernel_rfl

theorem ver_Stack_typ_Type_Twin_fnH {x0 : AV} {Hin : List Ob} {r : AV} {Ho : List Ob} (h : ver_Stack_typ_Type_Twin x0 Hin (fun v H' => Gives Hin.length v H' r Ho)) : Abs.Fn Tryz.prog ver_Stack_typ_Type_Twin_i Hin [x0] r Ho :=
  fn_intro mixed ver_Stack_typ_Type_Twin_ann (fn := Tryz.f65) (by kernel_rfl) (by kernel_rfl) (by rw [ver_Stack_typ_Type_Twin_eq]; exact h)

/- (*runnel/ver.Stack[runnel/typ.Type]).Pop -/
def ver_Stack_typ_Type_Pop (x0 x1 : AV) (H : List Ob) (K : AV → List Ob → Prop) : Prop :=
  aNilCheck x0 fun v0 =>
  aFieldAddr 0 v0 fun v1 =>
  aLoad false 1 v1 H fun v2 =>
  aLen false false v2 fun v3 =>
  aBin false false .gtr x1 v3 fun v4 =>
  aGuard v4
  (K (.tup [(.full []), (.p (.bool false))]) H)
  (aNilCheck x0 fun v5 =>
  aFieldAddr 0 v5 fun v6 =>
  aLoad false 1 v6 H fun v7 =>
  aLen false false v7 fun v8 =>
  aBin false false .sub v8 x1 fun v9 =>
  aNilCheck x0 fun v10 =>
  aFieldAddr 0 v10 fun v11 =>
  aLoad false 1 v11 H fun v12 =>
  aSlice false 2 v12 (some v9) none none fun v13 =>
  aCall Tryz.prog (.p (.func slices_Clone_typ_Type_typ_Type_i [])) [v13] H fun v14 h15 =>
  aNilCheck x0 fun v16 =>
  aFieldAddr 0 v16 fun v17 =>
  aLoad false 1 v17 h15 fun v18 =>
  aSlice false 2 v18 none (some v9) none fun v19 =>
  aNilCheck x0 fun v20 =>
  aFieldAddr 0 v20 fun v21 =>
  aStore 1 v21 v19 h15 fun _ h23 =>
  K (.tup [v14, (.p (.bool true))]) h23)

def ver_Stack_typ_Type_Pop_ann : Nat → List Nat := fun _ => []

theorem ver_Stack_typ_Type_Pop_eq (x0 x1 : AV) (H : List Ob) (r : AV) (Ho : List Ob) : aBody Tryz.prog ver_Stack_typ_Type_Pop_ann Tryz.f66 H [x0, x1] r Ho = ver_Stack_typ_Type_Pop x0 x1 H (fun v H' => Gives H.length v H' r Ho) := by kernel_rfl

theorem ver_Stack_typ_Type_Pop_fnH {x0 x1 : AV} {Hin : List Ob} {r : AV} {Ho : List Ob} (h : ver_Stack_typ_Type_Pop x0 x1 Hin (fun v H' => Gives Hin.length v H' r Ho)) : Abs.Fn Tryz.prog ver_Stack_typ_Type_Pop_i Hin [x0, x1] r Ho :=
  fn_intro mixed ver_Stack_typ_Type_Pop_ann (fn := Tryz.f66) (by kernel_rfl) (by kernel_rfl) (by rw [ver_Stack_typ_Type_Pop_eq]; exact h)

/- runnel/ver.arity -/
def ver_arity (x0 : AV) (H : List Ob) (K : AV → List Ob → Prop) : Prop :=
  aBox x0 H fun v0 h1 =>
  aFieldAddr 0 v0 fun v2 =>
  aLoad false 1 v2 h1 fun v3 =>
  aBin false false .eql v3 (.p (.str [112, 117, 115, 104])) fun v4 =>
  aMerge false v4 (fun Q5 =>
  aBin false false .eql v3 (.p (.str [120])) fun v6 =>
  aMerge false v6 (fun Q7 =>
  aBin false false .eql v3 (.p (.str [106, 109, 112])) fun v8 =>
  aMerge false v8 (fun Q9 =>
  aBin false false .eql v3 (.p (.str [114, 101, 116])) fun v10 =>
  (h1 = h1 ∧ Q9 v10)) fun v11 =>
  (h1 = h1 ∧ Q7 v11)) fun v12 =>
  (h1 = h1 ∧ Q5 v12)) fun v13 =>
  aGuard v13
  (K (.p (.int .i64 0)) h1)
  (aBin false false .eql v3 (.p (.str [116, 117, 112])) fun v14 =>
  aMerge false v14 (fun Q15 =>
  aBin false false .eql v3 (.p (.str [101, 109, 105, 116])) fun v16 =>
  (h1 = h1 ∧ Q15 v16)) fun v17 =>
  aGuard v17
  (aFieldAddr 6 v0 fun v18 =>
  aLoad false 1 v18 h1 fun v19 =>
  K v19 h1)
  (aBin false false .eql v3 (.p (.str [97, 116])) fun v20 =>
  aMerge false v20 (fun Q21 =>
  aBin false false .eql v3 (.p (.str [110, 101, 103])) fun v22 =>
  aMerge false v22 (fun Q23 =>
  aBin false false .eql v3 (.p (.str [110, 111, 116])) fun v24 =>
  aMerge false v24 (fun Q25 =>
  aBin false false .eql v3 (.p (.str [108, 101, 110])) fun v26 =>
  aMerge false v26 (fun Q27 =>
  aBin false false .eql v3 (.p (.str [106, 102])) fun v28 =>
  (h1 = h1 ∧ Q27 v28)) fun v29 =>
  (h1 = h1 ∧ Q25 v29)) fun v30 =>
  (h1 = h1 ∧ Q23 v30)) fun v31 =>
  (h1 = h1 ∧ Q21 v31)) fun v32 =>
  aGuard v32
  (K (.p (.int .i64 1)) h1)
  (K (.p (.int .i64 2)) h1)))

def ver_arity_ann : Nat → List Nat := fun k => match k with | 1000005 => [1] | 1000004 => [1] | 1000003 => [1] | 1000008 => [1] | 1000014 => [1] | 1000013 => [1] | 1000012 => [1] | 1000011 => [1] | _ => []

theorem ver_arity_eq (x0 : AV) (H : List Ob) (r : AV) (Ho : List Ob) : aBody Tryz.prog ver_arity_ann Tryz.f67 H [x0] r Ho = ver_arity x0 H (fun v H' => Gives H.length v H' r Ho) := by kernel_rfl

theorem ver_arity_fnH {x0 : AV} {Hin : List Ob} {r : AV} {Ho : List Ob} (h : ver_arity x0 Hin (fun v H' => Gives Hin.length v H' r Ho)) : Abs.Fn Tryz.prog ver_arity_i Hin [x0] r Ho :=
  fn_intro mixed ver_arity_ann (fn := Tryz.f67) (by kernel_rfl) (by kernel_rfl) (by rw [ver_arity_eq]; exact h)

theorem ver_arity_fn {x0 : AV} {r : AV} {Ho : List Ob} (h : ver_arity x0 [] (fun v H' => Gives 0 v H' r Ho)) : Abs.Fn Tryz.prog ver_arity_i [] [x0] r Ho := ver_arity_fnH (Hin := []) h

/- (*runnel/ver.checker).comes -/
def ver_checker_comes (x0 x1 x2 : AV) (H : List Ob) (K : AV → List Ob → Prop) : Prop :=
  aBox x1 H fun v0 h1 =>
  aFieldAddr 0 v0 fun v2 =>
  aLoad false 1 v2 h1 fun v3 =>
  aBin false false .eql v3 (.p (.str [112, 117, 115, 104])) fun v4 =>
  aGuard v4
  (aFieldAddr 1 v0 fun v5 =>
  aLoad true 5 v5 h1 fun v6 =>
  aCall Tryz.prog (.p (.func val_TypeOf_i [])) [v6] h1 fun v7 h8 =>
  aBuildSlice 2 [v7] fun v9 =>
  K (.tup [v9, (.p (.int .i64 0))]) h8)
  (aBin false false .eql v3 (.p (.str [120])) fun v10 =>
  aGuard v10
  (aNilCheck x0 fun v11 =>
  aFieldAddr 1 v11 fun v12 =>
  aLoad true 2 v12 h1 fun v13 =>
  aBuildSlice 2 [v13] fun v14 =>
  K (.tup [v14, (.p (.int .i64 0))]) h1)
  (aBin false false .eql v3 (.p (.str [106, 109, 112])) fun v15 =>
  aMerge false v15 (fun Q16 =>
  aBin false false .eql v3 (.p (.str [114, 101, 116])) fun v17 =>
  (h1 = h1 ∧ Q16 v17)) fun v18 =>
  aGuard v18
  (K (.tup [(.full []), (.p (.int .i64 0))]) h1)
  (aBin false false .eql v3 (.p (.str [106, 102])) fun v19 =>
  aGuard v19
  (aIndexAddr 2 x2 (.p (.int .i64 0)) fun v20 =>
  aFieldAddr 0 v20 fun v21 =>
  aLoad false 1 v21 h1 fun v22 =>
  aBin false false .neq v22 (.p (.int .i64 2)) fun v23 =>
  aGuard v23
  (K (.tup [(.full []), (.p (.int .i64 5))]) h1)
  (K (.tup [(.full []), (.p (.int .i64 0))]) h1))
  (aBin false false .eql v3 (.p (.str [101, 109, 105, 116])) fun v24 =>
  aGuard v24
  (aCall Tryz.prog (.p (.func ver_checker_emits_i [])) [x0, x2] h1 fun v25 h26 =>
  K (.tup [(.full []), v25]) h26)
  (aFieldAddr 0 v0 fun v27 =>
  aLoad false 1 v27 h1 fun v28 =>
  aFieldAddr 6 v0 fun v29 =>
  aLoad false 1 v29 h1 fun v30 =>
  aCall Tryz.prog (.p (.func expr_Types_i [])) [v28, v30, x2] h1 fun v31 h32 =>
  aExtract v31 0 fun v33 =>
  aExtract v31 1 fun v34 =>
  aAlloc [(.p (.int .i64 0)), (.full [])] h32 fun v35 h36 =>
  aStore 2 v35 v33 h36 fun _ h38 =>
  aLoad true 2 v35 h38 fun v39 =>
  aBuildSlice 2 [v39] fun v40 =>
  K (.tup [v40, v34]) h38)))))

def ver_checker_comes_ann : Nat → List Nat := fun k => match k with | 1000007 => [1] | _ => []

theorem ver_checker_comes_eq (x0 x1 x2 : AV) (H : List Ob) (r : AV) (Ho : List Ob) : aBody Tryz.prog ver_checker_comes_ann Tryz.f68 H [x0, x1, x2] r Ho = ver_checker_comes x0 x1 x2 H (fun v H' => Gives H.length v H' r Ho) := by kernel_rfl

theorem ver_checker_comes_fnH {x0 x1 x2 : AV} {Hin : List Ob} {r : AV} {Ho : List Ob} (h : ver_checker_comes x0 x1 x2 Hin (fun v H' => Gives Hin.length v H' r Ho)) : Abs.Fn Tryz.prog ver_checker_comes_i Hin [x0, x1, x2] r Ho :=
  fn_intro mixed ver_checker_comes_ann (fn := Tryz.f68) (by kernel_rfl) (by kernel_rfl) (by rw [ver_checker_comes_eq]; exact h)

/- (*runnel/ver.Stack[runnel/typ.Type]).Push -/
def ver_Stack_typ_Type_Push (x0 x1 : AV) (H : List Ob) (K : AV → List Ob → Prop) : Prop :=
  aBox x1 H fun v0 h1 =>
  aNilCheck x0 fun v2 =>
  aFieldAddr 0 v2 fun v3 =>
  (aLoad false 1 v3 h1 fun v4 =>
  aLen true false v4 fun v5 =>
  (aLoad true 2 v0 h1 fun v6 =>
  aBuildSlice 2 [(.agg [(.p (.int .i64 0)), (.full [])])] fun v7 =>
  aAppend false 2 32 v4 v7 h1 fun v8 h9 =>
  aIndexAddr 2 v8 v5 fun v10 =>
  aNilCheck x0 fun v11 =>
  aFieldAddr 0 v11 fun v12 =>
  (aStore 2 v10 v6 h9 fun _ h14 =>
  aStore 1 v12 v8 h14 fun _ h16 =>
  K (.tup []) h16) ∧
  (aStore 1 v12 v8 h9 fun _ h18 =>
  aStore 2 v10 v6 h18 fun _ h20 =>
  K (.tup []) h20)) ∧
  (aBuildSlice 2 [(.agg [(.p (.int .i64 0)), (.full [])])] fun v21 =>
  aLoad true 2 v0 h1 fun v22 =>
  aAppend false 2 32 v4 v21 h1 fun v23 h24 =>
  aIndexAddr 2 v23 v5 fun v25 =>
  aNilCheck x0 fun v26 =>
  aFieldAddr 0 v26 fun v27 =>
  (aStore 2 v25 v22 h24 fun _ h29 =>
  aStore 1 v27 v23 h29 fun _ h31 =>
  K (.tup []) h31) ∧
  (aStore 1 v27 v23 h24 fun _ h33 =>
  aStore 2 v25 v22 h33 fun _ h35 =>
  K (.tup []) h35))) ∧
  (aLoad true 2 v0 h1 fun v36 =>
  (aLoad false 1 v3 h1 fun v37 =>
  aLen true false v37 fun v38 =>
  aBuildSlice 2 [(.agg [(.p (.int .i64 0)), (.full [])])] fun v39 =>
  aAppend false 2 32 v37 v39 h1 fun v40 h41 =>
  aIndexAddr 2 v40 v38 fun v42 =>
  aNilCheck x0 fun v43 =>
  aFieldAddr 0 v43 fun v44 =>
  (aStore 2 v42 v36 h41 fun _ h46 =>
  aStore 1 v44 v40 h46 fun _ h48 =>
  K (.tup []) h48) ∧
  (aStore 1 v44 v40 h41 fun _ h50 =>
  aStore 2 v42 v36 h50 fun _ h52 =>
  K (.tup []) h52)) ∧
  (aBuildSlice 2 [(.agg [(.p (.int .i64 0)), (.full [])])] fun v53 =>
  aLoad false 1 v3 h1 fun v54 =>
  aLen true false v54 fun v55 =>
  aAppend false 2 32 v54 v53 h1 fun v56 h57 =>
  aIndexAddr 2 v56 v55 fun v58 =>
  aNilCheck x0 fun v59 =>
  aFieldAddr 0 v59 fun v60 =>
  (aStore 2 v58 v36 h57 fun _ h62 =>
  aStore 1 v60 v56 h62 fun _ h64 =>
  K (.tup []) h64) ∧
  (aStore 1 v60 v56 h57 fun _ h66 =>
  aStore 2 v58 v36 h66 fun _ h68 =>
  K (.tup []) h68))) ∧
  (aBuildSlice 2 [(.agg [(.p (.int .i64 0)), (.full [])])] fun v69 =>
  (aLoad false 1 v3 h1 fun v70 =>
  aLen true false v70 fun v71 =>
  aLoad true 2 v0 h1 fun v72 =>
  aAppend false 2 32 v70 v69 h1 fun v73 h74 =>
  aIndexAddr 2 v73 v71 fun v75 =>
  aNilCheck x0 fun v76 =>
  aFieldAddr 0 v76 fun v77 =>
  (aStore 2 v75 v72 h74 fun _ h79 =>
  aStore 1 v77 v73 h79 fun _ h81 =>
  K (.tup []) h81) ∧
  (aStore 1 v77 v73 h74 fun _ h83 =>
  aStore 2 v75 v72 h83 fun _ h85 =>
  K (.tup []) h85)) ∧
  (aLoad true 2 v0 h1 fun v86 =>
  aLoad false 1 v3 h1 fun v87 =>
  aLen true false v87 fun v88 =>
  aAppend false 2 32 v87 v69 h1 fun v89 h90 =>
  aIndexAddr 2 v89 v88 fun v91 =>
  aNilCheck x0 fun v92 =>
  aFieldAddr 0 v92 fun v93 =>
  (aStore 2 v91 v86 h90 fun _ h95 =>
  aStore 1 v93 v89 h95 fun _ h97 =>
  K (.tup []) h97) ∧
  (aStore 1 v93 v89 h90 fun _ h99 =>
  aStore 2 v91 v86 h99 fun _ h101 =>
  K (.tup []) h101)))

def ver_Stack_typ_Type_Push_ann : Nat → List Nat := fun k => match k with | 3000001 => [1000] | _ => []

theorem ver_Stack_typ_Type_Push_eq (x0 x1 : AV) (H : List Ob) (r : AV) (Ho : List Ob) : aBody Tryz.prog ver_Stack_typ_Type_Push_ann Tryz.f69 H [x0, x1] r Ho = ver_Stack_typ_Type_Push x0 x1 H (fun v H' => Gives H.length v H' r Ho) := by kernel_rfl

theorem ver_Stack_typ_Type_Push_fnH {x0 x1 : AV} {Hin : List Ob} {r : AV} {Ho : List Ob} (h : ver_Stack_typ_Type_Push x0 x1 Hin (fun v H' => Gives Hin.length v H' r Ho)) : Abs.Fn Tryz.prog ver_Stack_typ_Type_Push_i Hin [x0, x1] r Ho :=
  fn_intro mixed ver_Stack_typ_Type_Push_ann (fn := Tryz.f69) (by kernel_rfl) (by kernel_rfl) (by rw [ver_Stack_typ_Type_Push_eq]; exact h)

/- (*runnel/ver.Stack[runnel/typ.Type]).Len -/
def ver_Stack_typ_Type_Len (x0 : AV) (H : List Ob) (K : AV → List Ob → Prop) : Prop :=
  aNilCheck x0 fun v0 =>
  aFieldAddr 0 v0 fun v1 =>
  aLoad false 1 v1 H fun v2 =>
  aLen false false v2 fun v3 =>
  K v3 H

def ver_Stack_typ_Type_Len_ann : Nat → List Nat := fun _ => []

theorem ver_Stack_typ_Type_Len_eq (x0 : AV) (H : List Ob) (r : AV) (Ho : List Ob) : aBody Tryz.prog ver_Stack_typ_Type_Len_ann Tryz.f70 H [x0] r Ho = ver_Stack_typ_Type_Len x0 H (fun v H' => Gives H.length v H' r Ho) := by kernel_rfl

theorem ver_Stack_typ_Type_Len_fnH {x0 : AV} {Hin : List Ob} {r : AV} {Ho : List Ob} (h : ver_Stack_typ_Type_Len x0 Hin (fun v H' => Gives Hin.length v H' r Ho)) : Abs.Fn Tryz.prog ver_Stack_typ_Type_Len_i Hin [x0] r Ho :=
  fn_intro mixed ver_Stack_typ_Type_Len_ann (fn := Tryz.f70) (by kernel_rfl) (by kernel_rfl) (by rw [ver_Stack_typ_Type_Len_eq]; exact h)

/- (*runnel/ver.checker).leads -/
def ver_checker_leads (x0 x1 x2 : AV) (H : List Ob) (K : AV → List Ob → Prop) : Prop :=
  aNilCheck x0 fun v0 =>
  aFieldAddr 3 v0 fun v1 =>
  aLoad false 1 v1 H fun v2 =>
  aIndexAddr 1 v2 x1 fun v3 =>
  aLoad false 1 v3 H fun v4 =>
  aBin false true .eql v4 (.p (.raw (.pointer none))) fun v5 =>
  aGuard v5
  (aNilCheck x0 fun v6 =>
  aFieldAddr 3 v6 fun v7 =>
  (aLoad false 1 v7 H fun v8 =>
  aCall Tryz.prog (.p (.func ver_Stack_typ_Type_Twin_i [])) [x2] H fun v9 h10 =>
  aIndexAddr 1 v8 x1 fun v11 =>
  aStore 1 v11 v9 h10 fun _ h13 =>
  K (.p (.int .i64 0)) h13) ∧
  (aCall Tryz.prog (.p (.func ver_Stack_typ_Type_Twin_i [])) [x2] H fun v14 h15 =>
  aLoad false 1 v7 h15 fun v16 =>
  aIndexAddr 1 v16 x1 fun v17 =>
  aStore 1 v17 v14 h15 fun _ h19 =>
  K (.p (.int .i64 0)) h19))
  (aNilCheck v4 fun v20 =>
  aFieldAddr 0 v20 fun v21 =>
  aNilCheck x2 fun v22 =>
  aFieldAddr 0 v22 fun v23 =>
  (aLoad false 1 v21 H fun v24 =>
  aLoad false 1 v23 H fun v25 =>
  aCall Tryz.prog (.p (.func slices_EqualFunc_typ_Type_typ_Type_typ_Type_typ_Type_i [])) [v24, v25, (.p (.func typ_Same_i []))] H fun v26 h27 =>
  aUn .not v26 fun v28 =>
  aGuard v28
  (K (.p (.int .i64 14)) h27)
  (K (.p (.int .i64 0)) h27)) ∧
  (aLoad false 1 v23 H fun v29 =>
  aLoad false 1 v21 H fun v30 =>
  aCall Tryz.prog (.p (.func slices_EqualFunc_typ_Type_typ_Type_typ_Type_typ_Type_i [])) [v30, v29, (.p (.func typ_Same_i []))] H fun v31 h32 =>
  aUn .not v31 fun v33 =>
  aGuard v33
  (K (.p (.int .i64 14)) h32)
  (K (.p (.int .i64 0)) h32)))

def ver_checker_leads_ann : Nat → List Nat := fun k => match k with | 3000003 => [1000] | 3000004 => [1000] | _ => []

theorem ver_checker_leads_eq (x0 x1 x2 : AV) (H : List Ob) (r : AV) (Ho : List Ob) : aBody Tryz.prog ver_checker_leads_ann Tryz.f71 H [x0, x1, x2] r Ho = ver_checker_leads x0 x1 x2 H (fun v H' => Gives H.length v H' r Ho) := by kernel_rfl

theorem ver_checker_leads_fnH {x0 x1 x2 : AV} {Hin : List Ob} {r : AV} {Ho : List Ob} (h : ver_checker_leads x0 x1 x2 Hin (fun v H' => Gives Hin.length v H' r Ho)) : Abs.Fn Tryz.prog ver_checker_leads_i Hin [x0, x1, x2] r Ho :=
  fn_intro mixed ver_checker_leads_ann (fn := Tryz.f71) (by kernel_rfl) (by kernel_rfl) (by rw [ver_checker_leads_eq]; exact h)

/- (*runnel/ver.checker).emits -/
def ver_checker_emits (x0 x1 : AV) (H : List Ob) (K : AV → List Ob → Prop) : Prop :=
  aLen false false x1 fun v0 =>
  aBin false false .eql v0 (.p (.int .i64 0)) fun v1 =>
  aGuard v1
  (K (.p (.int .i64 0)) H)
  (aCallT Tryz.prog (.p (.func ver_alike_i [])) [x1] fun v2 =>
  aUn .not v2 fun v3 =>
  aGuard v3
  (K (.p (.int .i64 5)) H)
  (aNilCheck x0 fun v4 =>
  aFieldAddr 4 v4 fun v5 =>
  aLoad false 1 v5 H fun v6 =>
  aBin false true .neq v6 (.p (.raw (.pointer none))) fun v7 =>
  aGuard v7
  (aNilCheck x0 fun v8 =>
  aFieldAddr 4 v8 fun v9 =>
  aLoad false 1 v9 H fun v10 =>
  aNilCheck v10 fun v11 =>
  aLoad true 2 v11 H fun v12 =>
  aIndexAddr 2 x1 (.p (.int .i64 0)) fun v13 =>
  aLoad true 2 v13 H fun v14 =>
  aCallT Tryz.prog (.p (.func typ_Same_i [])) [v12, v14] fun v15 =>
  aUn .not v15 fun v16 =>
  aGuard v16
  (K (.p (.int .i64 5)) H)
  (aIndexAddr 2 x1 (.p (.int .i64 0)) fun v17 =>
  aNilCheck x0 fun v18 =>
  aFieldAddr 4 v18 fun v19 =>
  aStore 1 v19 v17 H fun _ h21 =>
  K (.p (.int .i64 0)) h21))
  (aIndexAddr 2 x1 (.p (.int .i64 0)) fun v22 =>
  aNilCheck x0 fun v23 =>
  aFieldAddr 4 v23 fun v24 =>
  aStore 1 v24 v22 H fun _ h26 =>
  K (.p (.int .i64 0)) h26)))

def ver_checker_emits_ann : Nat → List Nat := fun _ => []

theorem ver_checker_emits_eq (x0 x1 : AV) (H : List Ob) (r : AV) (Ho : List Ob) : aBody Tryz.prog ver_checker_emits_ann Tryz.f108 H [x0, x1] r Ho = ver_checker_emits x0 x1 H (fun v H' => Gives H.length v H' r Ho) := by kernel_rfl

theorem ver_checker_emits_fnH {x0 x1 : AV} {Hin : List Ob} {r : AV} {Ho : List Ob} (h : ver_checker_emits x0 x1 Hin (fun v H' => Gives Hin.length v H' r Ho)) : Abs.Fn Tryz.prog ver_checker_emits_i Hin [x0, x1] r Ho :=
  fn_intro mixed ver_checker_emits_ann (fn := Tryz.f108) (by kernel_rfl) (by kernel_rfl) (by rw [ver_checker_emits_eq]; exact h)

/- runnel/ver.alike -/
def ver_alike_L1 (q1s0 q1s5 q1s6 y0 : AV) (H : List Ob) (B1 : List AV → List Ob → Prop) (K : AV → List Ob → Prop) : Prop :=
  aBin false false .lss y0 q1s6 fun v1 =>
  aGuard v1
  (aIndexAddr 2 q1s5 y0 fun v2 =>
  aLoad true 2 v2 H fun v3 =>
  aAlloc [(.p (.int .i64 0)), (.full [])] H fun v4 h5 =>
  aStore 2 v4 v3 h5 fun _ h7 =>
  aLoad true 2 v4 h7 fun v8 =>
  aIndexAddr 2 q1s0 (.p (.int .i64 0)) fun v9 =>
  aLoad true 2 v9 h7 fun v10 =>
  aCallT Tryz.prog (.p (.func typ_Same_i [])) [v8, v10] fun v11 =>
  aUn .not v11 fun v12 =>
  aGuard v12
  (K (.p (.bool false)) h7)
  (aBin false false .add y0 (.p (.int .i64 1)) fun v13 =>
  B1 [v13] h7))
  (K (.p (.bool true)) H)

def ver_alike (x0 : AV) (H : List Ob) (K : AV → List Ob → Prop) : Prop :=
  aLen false false x0 fun v0 =>
  aLoopN 1 [(.p (.int .i64 0))] H fun xs H B1 => ver_alike_L1 x0 x0 v0 (xs.getD 0 .top) H B1 K

def ver_alike_ann : Nat → List Nat := fun k => match k with | 2 => [7] | _ => []

theorem ver_alike_eq (x0 : AV) (H : List Ob) (r : AV) (Ho : List Ob) : aBody Tryz.prog ver_alike_ann Tryz.f141 H [x0] r Ho = ver_alike x0 H (fun v H' => Gives H.length v H' r Ho) := by kernel_rfl

theorem ver_alike_fnH {x0 : AV} {Hin : List Ob} {r : AV} {Ho : List Ob} (h : ver_alike x0 Hin (fun v H' => Gives Hin.length v H' r Ho)) : Abs.Fn Tryz.prog ver_alike_i Hin [x0] r Ho :=
  fn_intro mixed ver_alike_ann (fn := Tryz.f141) (by kernel_rfl) (by kernel_rfl) (by rw [ver_alike_eq]; exact h)

theorem ver_alike_fn {x0 : AV} {r : AV} {Ho : List Ob} (h : ver_alike x0 [] (fun v H' => Gives 0 v H' r Ho)) : Abs.Fn Tryz.prog ver_alike_i [] [x0] r Ho := ver_alike_fnH (Hin := []) h

end Go.Proofs.YtgfnodmghaghpaaGreatDoor
end

section
/- Made by program (Gen.lean): functions of the dump, over trees. -/
set_option maxRecDepth 4000
set_option linter.unusedVariables false
namespace Go.Proofs.YtgfnodmghaghpaaGreatDoor
open Go Go.Abs

/- runnel/runnellaw11.To -/
def runnellaw11_To_L1 (q1s0 y0 y1 : AV) (H : List Ob) (B1 : List AV → List Ob → Prop) (K : AV → List Ob → Prop) : Prop :=
  aLen false false q1s0 fun v0 =>
  aBin false false .lss y1 v0 fun v1 =>
  aGuard v1
  (aIndexAddr 7 q1s0 y1 fun v2 =>
  aFieldAddr 0 v2 fun v3 =>
  aLoad false 1 v3 H fun v4 =>
  aIndexAddr 7 q1s0 y1 fun v5 =>
  aFieldAddr 1 v5 fun v6 =>
  aLoad true 5 v6 H fun v7 =>
  aCallT Tryz.prog (.p (.func runnellaw2_To_i [])) [v7] fun v8 =>
  aIndexAddr 7 q1s0 y1 fun v9 =>
  aFieldAddr 6 v9 fun v10 =>
  aLoad false 1 v10 H fun v11 =>
  aBuild [(.p (.str [])), (.p (.int .i64 0)), (.p (.int .i64 0)), (.p (.bool false)), (.p (.str [])), (.full []), (.p (.int .i64 0))] [(0, 1, v4), (1, 5, v8), (6, 1, v11)] fun v12 =>
  aBuildSlice 7 [v12] fun v13 =>
  aCalm [y0, v13] <|
  aAppend false 7 88 y0 v13 H fun v14 h15 =>
  aBin false false .add y1 (.p (.int .i64 1)) fun v16 =>
  B1 [v14, v16] h15)
  (K y0 H)

def runnellaw11_To (x0 : AV) (H : List Ob) (K : AV → List Ob → Prop) : Prop :=
  aLoopN 2 [(.full []), (.p (.int .i64 0))] H fun xs H B1 => runnellaw11_To_L1 x0 (xs.getD 0 .top) (xs.getD 1 .top) H B1 K

def runnellaw11_To_ann : Nat → List Nat := fun k => match k with | 3 => [3, 4] | _ => []

theorem runnellaw11_To_eq (x0 : AV) (H : List Ob) (r : AV) (Ho : List Ob) : aBody Tryz.prog runnellaw11_To_ann Tryz.f13 H [x0] r Ho = runnellaw11_To x0 H (fun v H' => Gives H.length v H' r Ho) := by kernel_rfl

theorem runnellaw11_To_fnH {x0 : AV} {Hin : List Ob} {r : AV} {Ho : List Ob} (h : runnellaw11_To x0 Hin (fun v H' => Gives Hin.length v H' r Ho)) : Abs.Fn Tryz.prog runnellaw11_To_i Hin [x0] r Ho :=
  fn_intro mixed runnellaw11_To_ann (fn := Tryz.f13) (by kernel_rfl) (by kernel_rfl) (by rw [runnellaw11_To_eq]; exact h)

theorem runnellaw11_To_fn {x0 : AV} {r : AV} {Ho : List Ob} (h : runnellaw11_To x0 [] (fun v H' => Gives 0 v H' r Ho)) : Abs.Fn Tryz.prog runnellaw11_To_i [] [x0] r Ho := runnellaw11_To_fnH (Hin := []) h

/- runnel/code.Check -/
def code_Check_L1 (q1s0 q1s15 q1s16 y0 : AV) (H : List Ob) (B1 : List AV → List Ob → Prop) (K : AV → List Ob → Prop) : Prop :=
  aBin false false .lss y0 q1s16 fun v5 =>
  aGuard v5
  (aIndexAddr 7 q1s15 y0 fun v6 =>
  aLoad true 7 v6 H fun v7 =>
  aAlloc [(.p (.str [])), (.p (.int .i64 0)), (.p (.int .i64 0)), (.p (.bool false)), (.p (.str [])), (.full []), (.p (.int .i64 0))] H fun v8 h9 =>
  aStore 7 v8 v7 h9 fun _ h11 =>
  aLoad true 7 v8 h11 fun v12 =>
  aLen false false q1s0 fun v13 =>
  aCall Tryz.prog (.p (.func code_Inst_check_i [])) [v12, y0, v13] h11 fun v14 h15 =>
  aBin false false .neq v14 (.p (.int .i64 0)) fun v16 =>
  aGuard v16
  (K (.tup [y0, v14]) h15)
  (aBin false false .add y0 (.p (.int .i64 1)) fun v17 =>
  B1 [v17] h15))
  (K (.tup [(.p (.int .i64 0)), (.p (.int .i64 0))]) H)

def code_Check (x0 : AV) (H : List Ob) (K : AV → List Ob → Prop) : Prop :=
  aLen false false x0 fun v0 =>
  aBin false false .eql v0 (.p (.int .i64 0)) fun v1 =>
  aGuard v1
  (K (.tup [(.p (.int .i64 0)), (.p (.int .i64 3))]) H)
  (aLen false false x0 fun v2 =>
  aBin false false .gtr v2 (.p (.int .i64 4096)) fun v3 =>
  aGuard v3
  (K (.tup [(.p (.int .i64 0)), (.p (.int .i64 10))]) H)
  (aLen false false x0 fun v4 =>
  aLoopN 1 [(.p (.int .i64 0))] H fun xs H B1 => code_Check_L1 x0 x0 v4 (xs.getD 0 .top) H B1 K))

def code_Check_ann : Nat → List Nat := fun k => match k with | 6 => [17] | _ => []

theorem code_Check_eq (x0 : AV) (H : List Ob) (r : AV) (Ho : List Ob) : aBody Tryz.prog code_Check_ann Tryz.f36 H [x0] r Ho = code_Check x0 H (fun v H' => Gives H.length v H' r Ho) := by kernel_rfl

theorem code_Check_fnH {x0 : AV} {Hin : List Ob} {r : AV} {Ho : List Ob} (h : code_Check x0 Hin (fun v H' => Gives Hin.length v H' r Ho)) : Abs.Fn Tryz.prog code_Check_i Hin [x0] r Ho :=
  fn_intro mixed code_Check_ann (fn := Tryz.f36) (by kernel_rfl) (by kernel_rfl) (by rw [code_Check_eq]; exact h)

theorem code_Check_fn {x0 : AV} {r : AV} {Ho : List Ob} (h : code_Check x0 [] (fun v H' => Gives 0 v H' r Ho)) : Abs.Fn Tryz.prog code_Check_i [] [x0] r Ho := code_Check_fnH (Hin := []) h

/- (runnel/code.Inst).check -/
def code_Inst_check (x0 x1 x2 : AV) (H : List Ob) (K : AV → List Ob → Prop) : Prop :=
  aBox x0 H fun v0 h1 =>
  aCall Tryz.prog (.p (.func code_ops_i [])) [] h1 fun v2 h3 =>
  aFieldAddr 0 v0 fun v4 =>
  aLoad false 1 v4 h3 fun v5 =>
  aCall Tryz.prog (.p (.func code_place_code_form_i [])) [v2, v5] h3 fun v6 h7 =>
  aBin false false .lss v6 (.p (.int .i64 0)) fun v8 =>
  aGuard v8
  (K (.p (.int .i64 6)) h7)
  (aIndexAddr 2 v2 v6 fun v9 =>
  aFieldAddr 1 v9 fun v10 =>
  aLoad false 1 v10 h7 fun v11 =>
  aBin false false .neq v11 (.p (.int .i64 1)) fun v12 =>
  aMerge true v12 (fun Q13 =>
  aFieldAddr 1 v0 fun v14 =>
  aLoad true 5 v14 h7 fun v15 =>
  aBuild [(.p (.int .i64 0)), (.p (.int .i64 0)), (.p (.bool false)), (.p (.str [])), (.full [])] [] fun v16 =>
  aCall Tryz.prog (.p (.func val_Same_i [])) [v15, v16] h7 fun v17 h18 =>
  aUn .not v17 fun v19 =>
  (h18 = h7 ∧ Q13 v19)) fun v20 =>
  aMerge false v20 (fun Q21 =>
  aIndexAddr 2 v2 v6 fun v22 =>
  aFieldAddr 1 v22 fun v23 =>
  aLoad false 1 v23 h7 fun v24 =>
  aBin false false .neq v24 (.p (.int .i64 2)) fun v25 =>
  aMerge true v25 (fun Q26 =>
  aFieldAddr 6 v0 fun v27 =>
  aLoad false 1 v27 h7 fun v28 =>
  aBin false false .neq v28 (.p (.int .i64 0)) fun v29 =>
  (h7 = h7 ∧ Q26 v29)) fun v30 =>
  (h7 = h7 ∧ Q21 v30)) fun v31 =>
  aGuard v31
  (K (.p (.int .i64 1)) h7)
  (aIndexAddr 2 v2 v6 fun v32 =>
  aFieldAddr 1 v32 fun v33 =>
  aLoad false 1 v33 h7 fun v34 =>
  aBin false false .eql v34 (.p (.int .i64 1)) fun v35 =>
  aGuard v35
  (aFieldAddr 1 v0 fun v36 =>
  aLoad true 5 v36 h7 fun v37 =>
  aCall Tryz.prog (.p (.func val_Check_i [])) [v37] h7 fun v38 h39 =>
  aBin false false .neq v38 (.p (.int .i64 0)) fun v40 =>
  aGuard v40
  (K v38 h39)
  (aLoad true 7 v0 h39 fun v41 =>
  aCall Tryz.prog (.p (.func code_Inst_right_i [])) [v41, x1, x2] h39 fun v42 h43 =>
  aUn .not v42 fun v44 =>
  aGuard v44
  (K (.p (.int .i64 1)) h43)
  (K (.p (.int .i64 0)) h43)))
  (aLoad true 7 v0 h7 fun v45 =>
  aCall Tryz.prog (.p (.func code_Inst_right_i [])) [v45, x1, x2] h7 fun v46 h47 =>
  aUn .not v46 fun v48 =>
  aGuard v48
  (K (.p (.int .i64 1)) h47)
  (K (.p (.int .i64 0)) h47))))

def code_Inst_check_ann : Nat → List Nat := fun _ => []

theorem code_Inst_check_eq (x0 x1 x2 : AV) (H : List Ob) (r : AV) (Ho : List Ob) : aBody Tryz.prog code_Inst_check_ann Tryz.f63 H [x0, x1, x2] r Ho = code_Inst_check x0 x1 x2 H (fun v H' => Gives H.length v H' r Ho) := by kernel_rfl

theorem code_Inst_check_fnH {x0 x1 x2 : AV} {Hin : List Ob} {r : AV} {Ho : List Ob} (h : code_Inst_check x0 x1 x2 Hin (fun v H' => Gives Hin.length v H' r Ho)) : Abs.Fn Tryz.prog code_Inst_check_i Hin [x0, x1, x2] r Ho :=
  fn_intro mixed code_Inst_check_ann (fn := Tryz.f63) (by kernel_rfl) (by kernel_rfl) (by rw [code_Inst_check_eq]; exact h)

theorem code_Inst_check_fn {x0 x1 x2 : AV} {r : AV} {Ho : List Ob} (h : code_Inst_check x0 x1 x2 [] (fun v H' => Gives 0 v H' r Ho)) : Abs.Fn Tryz.prog code_Inst_check_i [] [x0, x1, x2] r Ho := code_Inst_check_fnH (Hin := []) h

/- runnel/code.ops -/
def code_ops_L1 (q1s9 q1s10 y0 y1 : AV) (H : List Ob) (B1 : List AV → List Ob → Prop) (K : AV → List Ob → Prop) : Prop :=
  aBin false false .lss y1 q1s10 fun v8 =>
  aGuard v8
  (aIndexAddr 1 q1s9 y1 fun v9 =>
  aLoad false 1 v9 H fun v10 =>
  aBuild [(.p (.str [])), (.p (.int .i64 0))] [(0, 1, v10), (1, 1, (.p (.int .i64 0)))] fun v11 =>
  aBuildSlice 2 [v11] fun v12 =>
  aAppend false 2 24 y0 v12 H fun v13 h14 =>
  aBin false false .add y1 (.p (.int .i64 1)) fun v15 =>
  B1 [v13, v15] h14)
  (aBuild [(.p (.str [])), (.p (.int .i64 0))] [(0, 1, (.p (.str [106, 109, 112]))), (1, 1, (.p (.int .i64 2)))] fun v16 =>
  aBuild [(.p (.str [])), (.p (.int .i64 0))] [(0, 1, (.p (.str [106, 102]))), (1, 1, (.p (.int .i64 2)))] fun v17 =>
  aBuild [(.p (.str [])), (.p (.int .i64 0))] [(0, 1, (.p (.str [101, 109, 105, 116]))), (1, 1, (.p (.int .i64 2)))] fun v18 =>
  aBuild [(.p (.str [])), (.p (.int .i64 0))] [(0, 1, (.p (.str [114, 101, 116]))), (1, 1, (.p (.int .i64 0)))] fun v19 =>
  aBuildSlice 2 [v16, v17, v18, v19] fun v20 =>
  aAppend false 2 24 y0 v20 H fun v21 h22 =>
  K v21 h22)

def code_ops (H : List Ob) (K : AV → List Ob → Prop) : Prop :=
  aBuild [(.p (.str [])), (.p (.int .i64 0))] [(0, 1, (.p (.str [112, 117, 115, 104]))), (1, 1, (.p (.int .i64 1)))] fun v0 =>
  aBuild [(.p (.str [])), (.p (.int .i64 0))] [(0, 1, (.p (.str [120]))), (1, 1, (.p (.int .i64 0)))] fun v1 =>
  aBuild [(.p (.str [])), (.p (.int .i64 0))] [(0, 1, (.p (.str [97, 116]))), (1, 1, (.p (.int .i64 2)))] fun v2 =>
  aBuild [(.p (.str [])), (.p (.int .i64 0))] [(0, 1, (.p (.str [116, 117, 112]))), (1, 1, (.p (.int .i64 2)))] fun v3 =>
  aBuildSlice 2 [v0, v1, v2, v3] fun v4 =>
  aCall Tryz.prog (.p (.func strings_Fields_i [])) [(.p (.str [110, 101, 103, 32, 110, 111, 116, 32, 108, 101, 110, 32, 97, 100, 100, 32, 115, 117, 98, 32, 109, 117, 108, 32, 100, 105, 118, 32, 114, 101, 109, 32, 101, 113, 32, 108, 116, 32, 99, 97, 116]))] H fun v5 h6 =>
  aLen false false v5 fun v7 =>
  aLoopN 2 [v4, (.p (.int .i64 0))] h6 fun xs H B1 => code_ops_L1 v5 v7 (xs.getD 0 .top) (xs.getD 1 .top) H B1 K

def code_ops_ann : Nat → List Nat := fun k => match k with | 3 => [1, 11] | _ => []

theorem code_ops_eq (H : List Ob) (r : AV) (Ho : List Ob) : aBody Tryz.prog code_ops_ann Tryz.f100 H [] r Ho = code_ops H (fun v H' => Gives H.length v H' r Ho) := by kernel_rfl

theorem code_ops_fnH {Hin : List Ob} {r : AV} {Ho : List Ob} (h : code_ops Hin (fun v H' => Gives Hin.length v H' r Ho)) : Abs.Fn Tryz.prog code_ops_i Hin [] r Ho :=
  fn_intro mixed code_ops_ann (fn := Tryz.f100) (by kernel_rfl) (by kernel_rfl) (by rw [code_ops_eq]; exact h)

theorem code_ops_fn {r : AV} {Ho : List Ob} (h : code_ops [] (fun v H' => Gives 0 v H' r Ho)) : Abs.Fn Tryz.prog code_ops_i [] [] r Ho := code_ops_fnH (Hin := []) h

/- runnel/code.place[runnel/code.form] -/
def code_place_code_form_L1 (q1s1 q1s7 q1s8 y0 : AV) (H : List Ob) (B1 : List AV → List Ob → Prop) (K : AV → List Ob → Prop) : Prop :=
  aBin false false .lss y0 q1s8 fun v1 =>
  aGuard v1
  (aIndexAddr 2 q1s7 y0 fun v2 =>
  aLoad true 2 v2 H fun v3 =>
  aAlloc [(.p (.str [])), (.p (.int .i64 0))] H fun v4 h5 =>
  aStore 2 v4 v3 h5 fun _ h7 =>
  aFieldAddr 0 v4 fun v8 =>
  aLoad false 1 v8 h7 fun v9 =>
  aBin false false .eql v9 q1s1 fun v10 =>
  aGuard v10
  (K y0 h7)
  (aBin false false .add y0 (.p (.int .i64 1)) fun v11 =>
  B1 [v11] h7))
  (K (.p (.int .i64 (-1))) H)

def code_place_code_form (x0 x1 : AV) (H : List Ob) (K : AV → List Ob → Prop) : Prop :=
  aLen false false x0 fun v0 =>
  aLoopN 1 [(.p (.int .i64 0))] H fun xs H B1 => code_place_code_form_L1 x1 x0 v0 (xs.getD 0 .top) H B1 K

def code_place_code_form_ann : Nat → List Nat := fun k => match k with | 2 => [9] | _ => []

theorem code_place_code_form_eq (x0 x1 : AV) (H : List Ob) (r : AV) (Ho : List Ob) : aBody Tryz.prog code_place_code_form_ann Tryz.f101 H [x0, x1] r Ho = code_place_code_form x0 x1 H (fun v H' => Gives H.length v H' r Ho) := by kernel_rfl

theorem code_place_code_form_fnH {x0 x1 : AV} {Hin : List Ob} {r : AV} {Ho : List Ob} (h : code_place_code_form x0 x1 Hin (fun v H' => Gives Hin.length v H' r Ho)) : Abs.Fn Tryz.prog code_place_code_form_i Hin [x0, x1] r Ho :=
  fn_intro mixed code_place_code_form_ann (fn := Tryz.f101) (by kernel_rfl) (by kernel_rfl) (by rw [code_place_code_form_eq]; exact h)

theorem code_place_code_form_fn {x0 x1 : AV} {r : AV} {Ho : List Ob} (h : code_place_code_form x0 x1 [] (fun v H' => Gives 0 v H' r Ho)) : Abs.Fn Tryz.prog code_place_code_form_i [] [x0, x1] r Ho := code_place_code_form_fnH (Hin := []) h

/- (runnel/code.Inst).right -/
def code_Inst_right (x0 x1 x2 : AV) (H : List Ob) (K : AV → List Ob → Prop) : Prop :=
  aBox x0 H fun v0 h1 =>
  aFieldAddr 0 v0 fun v2 =>
  aLoad false 1 v2 h1 fun v3 =>
  aBin false false .eql v3 (.p (.str [97, 116])) fun v4 =>
  aGuard v4
  (aFieldAddr 6 v0 fun v5 =>
  aLoad false 1 v5 h1 fun v6 =>
  aBin false false .geq v6 (.p (.int .i64 0)) fun v7 =>
  K v7 h1)
  (aBin false false .eql v3 (.p (.str [116, 117, 112])) fun v8 =>
  aGuard v8
  (aFieldAddr 6 v0 fun v9 =>
  aLoad false 1 v9 h1 fun v10 =>
  aBin false false .geq v10 (.p (.int .i64 1)) fun v11 =>
  aMerge true v11 (fun Q12 =>
  aFieldAddr 6 v0 fun v13 =>
  aLoad false 1 v13 h1 fun v14 =>
  aBin false false .leq v14 (.p (.int .i64 8)) fun v15 =>
  (h1 = h1 ∧ Q12 v15)) fun v16 =>
  K v16 h1)
  (aBin false false .eql v3 (.p (.str [101, 109, 105, 116])) fun v17 =>
  aGuard v17
  (aFieldAddr 6 v0 fun v18 =>
  aLoad false 1 v18 h1 fun v19 =>
  aBin false false .geq v19 (.p (.int .i64 0)) fun v20 =>
  aMerge true v20 (fun Q21 =>
  aFieldAddr 6 v0 fun v22 =>
  aLoad false 1 v22 h1 fun v23 =>
  aBin false false .leq v23 (.p (.int .i64 4)) fun v24 =>
  (h1 = h1 ∧ Q21 v24)) fun v25 =>
  K v25 h1)
  (aBin false false .eql v3 (.p (.str [106, 109, 112])) fun v26 =>
  aMerge false v26 (fun Q27 =>
  aBin false false .eql v3 (.p (.str [106, 102])) fun v28 =>
  (h1 = h1 ∧ Q27 v28)) fun v29 =>
  aGuard v29
  (aFieldAddr 6 v0 fun v30 =>
  aLoad false 1 v30 h1 fun v31 =>
  aBin false false .gtr v31 x1 fun v32 =>
  aMerge true v32 (fun Q33 =>
  aFieldAddr 6 v0 fun v34 =>
  aLoad false 1 v34 h1 fun v35 =>
  aBin false false .lss v35 x2 fun v36 =>
  (h1 = h1 ∧ Q33 v36)) fun v37 =>
  K v37 h1)
  (K (.p (.bool true)) h1))))

def code_Inst_right_ann : Nat → List Nat := fun k => match k with | 1000009 => [1] | _ => []

theorem code_Inst_right_eq (x0 x1 x2 : AV) (H : List Ob) (r : AV) (Ho : List Ob) : aBody Tryz.prog code_Inst_right_ann Tryz.f102 H [x0, x1, x2] r Ho = code_Inst_right x0 x1 x2 H (fun v H' => Gives H.length v H' r Ho) := by kernel_rfl

theorem code_Inst_right_fnH {x0 x1 x2 : AV} {Hin : List Ob} {r : AV} {Ho : List Ob} (h : code_Inst_right x0 x1 x2 Hin (fun v H' => Gives Hin.length v H' r Ho)) : Abs.Fn Tryz.prog code_Inst_right_i Hin [x0, x1, x2] r Ho :=
  fn_intro mixed code_Inst_right_ann (fn := Tryz.f102) (by kernel_rfl) (by kernel_rfl) (by rw [code_Inst_right_eq]; exact h)

theorem code_Inst_right_fn {x0 x1 x2 : AV} {r : AV} {Ho : List Ob} (h : code_Inst_right x0 x1 x2 [] (fun v H' => Gives 0 v H' r Ho)) : Abs.Fn Tryz.prog code_Inst_right_i [] [x0, x1, x2] r Ho := code_Inst_right_fnH (Hin := []) h

end Go.Proofs.YtgfnodmghaghpaaGreatDoor
end

section
/- Made by program (Gen.lean): functions of the dump, over trees. -/
set_option maxRecDepth 4000
set_option linter.unusedVariables false
namespace Go.Proofs.YtgfnodmghaghpaaGreatDoor
open Go Go.Abs

/- runnel/runnelref6.Yes -/
def runnelref6_Yes (x0 : AV) (H : List Ob) (K : AV → List Ob → Prop) : Prop :=
  aAlloc [(.p (.int .i64 0)), (.p (.int .i64 0)), (.p (.bool false)), (.p (.str [])), (.full [])] H fun v0 h1 =>
  aBuild [(.p (.int .i64 0)), (.p (.int .i64 0)), (.p (.bool false)), (.p (.str [])), (.full [])] [(0, 1, (.p (.int .i64 2))), (2, 1, x0)] fun v2 =>
  aStore 5 v0 v2 h1 fun _ h4 =>
  aLoad true 5 v0 h4 fun v5 =>
  K v5 h4

def runnelref6_Yes_ann : Nat → List Nat := fun _ => []

theorem runnelref6_Yes_eq (x0 : AV) (H : List Ob) (r : AV) (Ho : List Ob) : aBody Tryz.prog runnelref6_Yes_ann Tryz.f112 H [x0] r Ho = runnelref6_Yes x0 H (fun v H' => Gives H.length v H' r Ho) := by kernel_rfl

theorem runnelref6_Yes_fnH {x0 : AV} {Hin : List Ob} {r : AV} {Ho : List Ob} (h : runnelref6_Yes x0 Hin (fun v H' => Gives Hin.length v H' r Ho)) : Abs.Fn Tryz.prog runnelref6_Yes_i Hin [x0] r Ho :=
  fn_intro mixed runnelref6_Yes_ann (fn := Tryz.f112) (by kernel_rfl) (by kernel_rfl) (by rw [runnelref6_Yes_eq]; exact h)

theorem runnelref6_Yes_fn {x0 : AV} {r : AV} {Ho : List Ob} (h : runnelref6_Yes x0 [] (fun v H' => Gives 0 v H' r Ho)) : Abs.Fn Tryz.prog runnelref6_Yes_i [] [x0] r Ho := runnelref6_Yes_fnH (Hin := []) h

end Go.Proofs.YtgfnodmghaghpaaGreatDoor
end
