/- Made by program (Gen.lean): functions of the dump, over trees. -/
import Derived.Test.YtklnalofcjagnaaGreatS1

section
/- Made by program (Gen.lean): functions of the dump, over trees. -/
set_option maxRecDepth 4000
set_option linter.unusedVariables false
namespace Go.Proofs.YtklnalofcjagnaaGreat
open Go Go.Abs

/- runnel/runnellaw7.OpApply -/
def runnellaw7_OpApply_J2 (j2s2 j2s3 j2s5 j2s6 : AV) (H : List Ob) (K : AV → List Ob → Prop) : Prop :=
  aLoad true 15 j2s2 H fun v28 =>
  aCall Tryz.prog (.p (.func runnellaw7_Of_i [])) [v28] H fun v29 h30 =>
  aCall Tryz.prog (.p (.func runnelref10_Out_i [])) [v29, j2s6] h30 fun v31 h32 =>
  aExtract v31 0 fun v33 =>
  aExtract v31 1 fun v34 =>
  aAlloc [(.p (.int .i64 0)), (.full [])] h32 fun v35 h36 =>
  aStore 2 v35 v33 h36 fun _ h38 =>
  aBin false false .neq v34 (.p (.int .i64 0)) fun v39 =>
  aGuard v39
  (K (.p (.bool true)) h38)
  (aLoad true 15 j2s2 h38 fun v40 =>
  aLoad true 5 j2s3 h38 fun v41 =>
  aCall Tryz.prog (.p (.func op_Apply_i [])) [v40, v41] h38 fun v42 h43 =>
  aExtract v42 0 fun v44 =>
  aExtract v42 1 fun v45 =>
  aLoad true 15 j2s2 h43 fun v46 =>
  aCallT Tryz.prog (.p (.func runnellaw7_Of_i [])) [v46] fun v47 =>
  aLoad true 5 j2s5 h43 fun v48 =>
  aCallT Tryz.prog (.p (.func runnelref10_Apply_i [])) [v47, v48] fun v49 =>
  aExtract v49 0 fun v50 =>
  aExtract v49 1 fun v51 =>
  aBin false false .neq v45 v51 fun v52 =>
  aMerge false v52 (fun Q53 =>
  aCall Tryz.prog (.p (.func runnellaw2_SameAll_i [])) [v44, v50] h43 fun v54 h55 =>
  aUn .not v54 fun v56 =>
  (h55 = h43 ∧ Q53 v56)) fun v57 =>
  aGuard v57
  (K (.p (.bool false)) h43)
  (aLoad true 15 j2s2 h43 fun v58 =>
  aCall Tryz.prog (.p (.func runnellaw7_Of_i [])) [v58] h43 fun v59 h60 =>
  aCall Tryz.prog (.p (.func runnelref10_Keyed_i [])) [v59] h60 fun v61 h62 =>
  aUn .not v61 fun v63 =>
  aGuard v63
  (K (.p (.bool true)) h62)
  (aLoad true 15 j2s2 h62 fun v64 =>
  aLoad true 5 j2s3 h62 fun v65 =>
  aCall Tryz.prog (.p (.func op_Key_i [])) [v64, v65] h62 fun v66 h67 =>
  aExtract v66 0 fun v68 =>
  aExtract v66 1 fun v69 =>
  aAlloc [(.p (.int .i64 0)), (.p (.int .i64 0)), (.p (.bool false)), (.p (.str [])), (.full [])] h67 fun v70 h71 =>
  aStore 5 v70 v68 h71 fun _ h73 =>
  aAlloc [(.p (.int .i64 0)), (.p (.int .i64 0)), (.p (.bool false)), (.p (.str [])), (.full [])] h73 fun v74 h75 =>
  aLoad true 15 j2s2 h75 fun v76 =>
  aCallT Tryz.prog (.p (.func runnellaw7_Of_i [])) [v76] fun v77 =>
  aField true 5 8 v77 fun v78 =>
  aLoad true 5 j2s5 h75 fun v79 =>
  aCallT Tryz.prog (.p (.func runnelref6_Eval_i [])) [v78, v79] fun v80 =>
  aExtract v80 0 fun v81 =>
  aExtract v80 1 fun v82 =>
  aStore 5 v74 v81 h75 fun _ h84 =>
  aBin false false .eql v69 v82 fun v85 =>
  aGuard v85
  (aLoad true 5 v70 h84 fun v86 =>
  aCallT Tryz.prog (.p (.func runnellaw2_Of_i [])) [v86] fun v87 =>
  aLoad true 5 v74 h84 fun v88 =>
  aCallT Tryz.prog (.p (.func runnelref6_Same_i [])) [v87, v88] fun v89 =>
  K v89 h84)
  (K (.p (.bool false)) h84))))

def runnellaw7_OpApply_J1 (j1s2 j1s3 j1s5 j1s6 : AV) (H : List Ob) (K : AV → List Ob → Prop) : Prop :=
  aFieldAddr 0 j1s2 fun v90 =>
  aLoad false 1 v90 H fun v91 =>
  aBin false false .eql v91 (.p (.int .i64 1)) fun v92 =>
  aGuard v92
  (runnellaw7_OpApply_J2 j1s2 j1s3 j1s5 (.full []) H K)
  (runnellaw7_OpApply_J2 j1s2 j1s3 j1s5 j1s6 H K)

def runnellaw7_OpApply (x0 x1 : AV) (H : List Ob) (K : AV → List Ob → Prop) : Prop :=
  aBox x0 H fun v0 h1 =>
  aBox x1 h1 fun v2 h3 =>
  aCall Tryz.prog (.p (.func runnellaw7_known_i [])) [] h3 fun v4 h5 =>
  aUn .not v4 fun v6 =>
  aGuard v6
  (K (.p (.bool false)) h5)
  (aLoad true 15 v0 h5 fun v7 =>
  aCall Tryz.prog (.p (.func runnellaw7_Few_i [])) [v7] h5 fun v8 h9 =>
  aUn .not v8 fun v10 =>
  aMerge false v10 (fun Q11 =>
  aLoad true 5 v2 h9 fun v12 =>
  aCall Tryz.prog (.p (.func runnellaw2_Good_i [])) [v12] h9 fun v13 h14 =>
  aUn .not v13 fun v15 =>
  (h14 = h9 ∧ Q11 v15)) fun v16 =>
  aGuard v16
  (K (.p (.bool true)) h9)
  (aLoad true 5 v2 h9 fun v17 =>
  aCall Tryz.prog (.p (.func runnellaw2_Of_i [])) [v17] h9 fun v18 h19 =>
  aAlloc [(.p (.int .i64 0)), (.p (.int .i64 0)), (.p (.bool false)), (.p (.str [])), (.full [])] h19 fun v20 h21 =>
  aStore 5 v20 v18 h21 fun _ h23 =>
  aLoad true 5 v20 h23 fun v24 =>
  aCall Tryz.prog (.p (.func runnelref6_TypeOf_i [])) [v24] h23 fun v25 h26 =>
  aBuildSlice 2 [v25] fun v27 =>
  aFieldAddr 0 v0 fun v93 =>
  aLoad false 1 v93 h26 fun v94 =>
  aBin false false .eql v94 (.p (.int .i64 8)) fun v95 =>
  aGuard v95
  (aIndexAddr 2 v27 (.p (.int .i64 0)) fun v96 =>
  aLoad true 2 v96 h26 fun v97 =>
  aBuildSlice 2 [v97] fun v98 =>
  aAppend false 2 32 v27 v98 h26 fun v99 h100 =>
  runnellaw7_OpApply_J1 v0 v2 v20 v99 h100 K)
  (runnellaw7_OpApply_J1 v0 v2 v20 v27 h26 K)))

def runnellaw7_OpApply_ann : Nat → List Nat := fun _ => []

theorem runnellaw7_OpApply_eq (x0 x1 : AV) (H : List Ob) (r : AV) (Ho : List Ob) : aBody Tryz.prog runnellaw7_OpApply_ann Tryz.f3 H [x0, x1] r Ho = runnellaw7_OpApply x0 x1 H (fun v H' => Gives H.length v H' r Ho) := by kernel_rfl

theorem runnellaw7_OpApply_fnH {x0 x1 : AV} {Hin : List Ob} {r : AV} {Ho : List Ob} (h : runnellaw7_OpApply x0 x1 Hin (fun v H' => Gives Hin.length v H' r Ho)) : Abs.Fn Tryz.prog runnellaw7_OpApply_i Hin [x0, x1] r Ho :=
  fn_intro mixed runnellaw7_OpApply_ann (fn := Tryz.f3) (by kernel_rfl) (by kernel_rfl) (by rw [runnellaw7_OpApply_eq]; exact h)

theorem runnellaw7_OpApply_fn {x0 x1 : AV} {r : AV} {Ho : List Ob} (h : runnellaw7_OpApply x0 x1 [] (fun v H' => Gives 0 v H' r Ho)) : Abs.Fn Tryz.prog runnellaw7_OpApply_i [] [x0, x1] r Ho := runnellaw7_OpApply_fnH (Hin := []) h

/- runnel/runnellaw7.known (in pieces) -/
def runnellaw7_known_ann : Nat → List Nat := fun k => match k with | 1000999999 => [1] | 2000002 => [1, 9999] | 2000003 => [1, 2, 9999] | 2000004 => [1, 2, 3, 4, 9999] | 2000005 => [1, 2, 3, 4, 5, 6, 9999] | 2000006 => [1, 2, 3, 4, 5, 6, 7, 9999] | 2000007 => [2, 3, 4, 5, 6, 7, 8, 9, 9999] | 2000008 => [2, 3, 4, 5, 6, 7, 8, 9, 11, 9999] | 2000009 => [2, 3, 4, 5, 6, 7, 8, 9, 11, 12, 13, 9999] | _ => []
def runnellaw7_known_cut : Nat → Bool := fun k => match k with | 2 => true | 3 => true | 4 => true | 5 => true | 6 => true | 7 => true | 8 => true | 9 => true | _ => false
noncomputable def runnellaw7_known_c : Code := Tryz.f4.body.getD .skip
noncomputable def runnellaw7_known_c2 : Code := (cr (cr runnellaw7_known_c))
noncomputable def runnellaw7_known_c3 : Code := (cr (cr (cr runnellaw7_known_c)))
noncomputable def runnellaw7_known_c4 : Code := (cr (cr (cr (cr runnellaw7_known_c))))
noncomputable def runnellaw7_known_c5 : Code := (cr (cr (cr (cr (cr runnellaw7_known_c)))))
noncomputable def runnellaw7_known_c6 : Code := (cr (cr (cr (cr (cr (cr runnellaw7_known_c))))))
noncomputable def runnellaw7_known_c7 : Code := (cr (cr (cr (cr (cr (cr (cr runnellaw7_known_c)))))))
noncomputable def runnellaw7_known_c8 : Code := (cr (cr (cr (cr (cr (cr (cr (cr runnellaw7_known_c))))))))
noncomputable def runnellaw7_known_c9 : Code := (cr (cr (cr (cr (cr (cr (cr (cr (cr runnellaw7_known_c)))))))))

def runnellaw7_known_P0 (H : List Ob) (self : Code → List AV → List Ob → Ko → Prop) (kp : Ko) : Prop :=
  aBuild [(.p (.int .i64 0)), (.full [])] [(0, 1, (.p (.int .i64 1)))] fun v0 =>
  aAlloc [(.p (.int .i64 0)), (.full [])] H fun v1 h2 =>
  aStore 2 v1 v0 h2 fun _ h4 =>
  self runnellaw7_known_c2 (keepS [1, 9999] 0 ((.p (.bool false)) :: v1 :: .top :: .top :: .top :: .top :: .top :: .top :: .top :: .top :: .top :: .top :: .top :: .top :: v0 :: .top :: .top :: .top :: .top :: .top :: .top :: .top :: .top :: .top :: .top :: .top :: .top :: .top :: .top :: .top :: .top :: .top :: .top :: .top :: .top :: .top :: .top :: .top :: .top :: .top :: .top :: .top :: .top :: .top :: .top :: .top :: .top :: .top :: .top :: .top :: .top :: .top :: .top :: .top :: .top :: .top :: .top :: .top :: .top :: .top :: .top :: .top :: .top :: .top :: .top :: .top :: .top :: .top :: .top :: .top :: .top :: .top :: .top :: .top :: .top :: .top :: .top :: .top :: .top :: .top :: .top :: .top :: .top :: .top :: .top :: .top :: .top :: .top :: .top :: .top :: .top :: .top :: .top :: .top :: .top :: .top :: .top :: .top :: .top :: .top :: .top :: .top :: .top :: .top :: .top :: .top :: .top :: .top :: [])) h4 kp

theorem runnellaw7_known_P0_x (H : List Ob) (self : Code → List AV → List Ob → Ko → Prop) (kp : Ko) : awpX Tryz.prog runnellaw7_known_ann self runnellaw7_known_cut runnellaw7_known_c (.top :: .top :: .top :: .top :: .top :: .top :: .top :: .top :: .top :: .top :: .top :: .top :: .top :: .top :: .top :: .top :: .top :: .top :: .top :: .top :: .top :: .top :: .top :: .top :: .top :: .top :: .top :: .top :: .top :: .top :: .top :: .top :: .top :: .top :: .top :: .top :: .top :: .top :: .top :: .top :: .top :: .top :: .top :: .top :: .top :: .top :: .top :: .top :: .top :: .top :: .top :: .top :: .top :: .top :: .top :: .top :: .top :: .top :: .top :: .top :: .top :: .top :: .top :: .top :: .top :: .top :: .top :: .top :: .top :: .top :: .top :: .top :: .top :: .top :: .top :: .top :: .top :: .top :: .top :: .top :: .top :: .top :: .top :: .top :: .top :: .top :: .top :: .top :: .top :: .top :: .top :: .top :: .top :: .top :: .top :: .top :: .top :: .top :: .top :: .top :: .top :: .top :: .top :: .top :: .top :: .top :: .top :: .top :: []) H kp = runnellaw7_known_P0 H self kp := by kernel_rfl

theorem runnellaw7_known_c_eq (H : List Ob) (kp : Ko) : awp Tryz.prog runnellaw7_known_ann runnellaw7_known_c (.top :: .top :: .top :: .top :: .top :: .top :: .top :: .top :: .top :: .top :: .top :: .top :: .top :: .top :: .top :: .top :: .top :: .top :: .top :: .top :: .top :: .top :: .top :: .top :: .top :: .top :: .top :: .top :: .top :: .top :: .top :: .top :: .top :: .top :: .top :: .top :: .top :: .top :: .top :: .top :: .top :: .top :: .top :: .top :: .top :: .top :: .top :: .top :: .top :: .top :: .top :: .top :: .top :: .top :: .top :: .top :: .top :: .top :: .top :: .top :: .top :: .top :: .top :: .top :: .top :: .top :: .top :: .top :: .top :: .top :: .top :: .top :: .top :: .top :: .top :: .top :: .top :: .top :: .top :: .top :: .top :: .top :: .top :: .top :: .top :: .top :: .top :: .top :: .top :: .top :: .top :: .top :: .top :: .top :: .top :: .top :: .top :: .top :: .top :: .top :: .top :: .top :: .top :: .top :: .top :: .top :: .top :: .top :: []) H kp = runnellaw7_known_P0 H (awp Tryz.prog runnellaw7_known_ann) kp :=
  (awpX_eq Tryz.prog runnellaw7_known_ann runnellaw7_known_cut runnellaw7_known_c (.top :: .top :: .top :: .top :: .top :: .top :: .top :: .top :: .top :: .top :: .top :: .top :: .top :: .top :: .top :: .top :: .top :: .top :: .top :: .top :: .top :: .top :: .top :: .top :: .top :: .top :: .top :: .top :: .top :: .top :: .top :: .top :: .top :: .top :: .top :: .top :: .top :: .top :: .top :: .top :: .top :: .top :: .top :: .top :: .top :: .top :: .top :: .top :: .top :: .top :: .top :: .top :: .top :: .top :: .top :: .top :: .top :: .top :: .top :: .top :: .top :: .top :: .top :: .top :: .top :: .top :: .top :: .top :: .top :: .top :: .top :: .top :: .top :: .top :: .top :: .top :: .top :: .top :: .top :: .top :: .top :: .top :: .top :: .top :: .top :: .top :: .top :: .top :: .top :: .top :: .top :: .top :: .top :: .top :: .top :: .top :: .top :: .top :: .top :: .top :: .top :: .top :: .top :: .top :: .top :: .top :: .top :: .top :: []) H kp).symm.trans (runnellaw7_known_P0_x H (awp Tryz.prog runnellaw7_known_ann) kp)

theorem runnellaw7_known_end_ret (j0 j1 j2 j3 j4 j5 j6 j7 j8 j9 j10 j11 j12 j13 j14 j15 j16 j17 j18 j19 j20 j21 j22 j23 j24 j25 j26 j27 j28 j29 j30 j31 j32 j33 j34 j35 j36 j37 j38 j39 j40 j41 j42 j43 j44 j45 j46 j47 j48 j49 j50 j51 j52 j53 j54 j55 j56 j57 j58 j59 j60 j61 j62 j63 j64 j65 j66 j67 j68 j69 j70 j71 j72 j73 j74 j75 j76 j77 j78 j79 j80 j81 j82 j83 j84 j85 j86 j87 j88 j89 j90 j91 j92 j93 j94 j95 j96 j97 j98 j99 j100 j101 j102 j103 j104 j105 j106 j107 : AV) (H : List Ob) (K : AV → List Ob → Prop) : kEnd Tryz.prog [.tmp 0] K .ret (j0 :: j1 :: j2 :: j3 :: j4 :: j5 :: j6 :: j7 :: j8 :: j9 :: j10 :: j11 :: j12 :: j13 :: j14 :: j15 :: j16 :: j17 :: j18 :: j19 :: j20 :: j21 :: j22 :: j23 :: j24 :: j25 :: j26 :: j27 :: j28 :: j29 :: j30 :: j31 :: j32 :: j33 :: j34 :: j35 :: j36 :: j37 :: j38 :: j39 :: j40 :: j41 :: j42 :: j43 :: j44 :: j45 :: j46 :: j47 :: j48 :: j49 :: j50 :: j51 :: j52 :: j53 :: j54 :: j55 :: j56 :: j57 :: j58 :: j59 :: j60 :: j61 :: j62 :: j63 :: j64 :: j65 :: j66 :: j67 :: j68 :: j69 :: j70 :: j71 :: j72 :: j73 :: j74 :: j75 :: j76 :: j77 :: j78 :: j79 :: j80 :: j81 :: j82 :: j83 :: j84 :: j85 :: j86 :: j87 :: j88 :: j89 :: j90 :: j91 :: j92 :: j93 :: j94 :: j95 :: j96 :: j97 :: j98 :: j99 :: j100 :: j101 :: j102 :: j103 :: j104 :: j105 :: j106 :: j107 :: []) H = (K j0 H) := by kernel_rfl

theorem runnellaw7_known_end_normal (j0 j1 j2 j3 j4 j5 j6 j7 j8 j9 j10 j11 j12 j13 j14 j15 j16 j17 j18 j19 j20 j21 j22 j23 j24 j25 j26 j27 j28 j29 j30 j31 j32 j33 j34 j35 j36 j37 j38 j39 j40 j41 j42 j43 j44 j45 j46 j47 j48 j49 j50 j51 j52 j53 j54 j55 j56 j57 j58 j59 j60 j61 j62 j63 j64 j65 j66 j67 j68 j69 j70 j71 j72 j73 j74 j75 j76 j77 j78 j79 j80 j81 j82 j83 j84 j85 j86 j87 j88 j89 j90 j91 j92 j93 j94 j95 j96 j97 j98 j99 j100 j101 j102 j103 j104 j105 j106 j107 : AV) (H : List Ob) (K : AV → List Ob → Prop) : kEnd Tryz.prog [.tmp 0] K .normal (j0 :: j1 :: j2 :: j3 :: j4 :: j5 :: j6 :: j7 :: j8 :: j9 :: j10 :: j11 :: j12 :: j13 :: j14 :: j15 :: j16 :: j17 :: j18 :: j19 :: j20 :: j21 :: j22 :: j23 :: j24 :: j25 :: j26 :: j27 :: j28 :: j29 :: j30 :: j31 :: j32 :: j33 :: j34 :: j35 :: j36 :: j37 :: j38 :: j39 :: j40 :: j41 :: j42 :: j43 :: j44 :: j45 :: j46 :: j47 :: j48 :: j49 :: j50 :: j51 :: j52 :: j53 :: j54 :: j55 :: j56 :: j57 :: j58 :: j59 :: j60 :: j61 :: j62 :: j63 :: j64 :: j65 :: j66 :: j67 :: j68 :: j69 :: j70 :: j71 :: j72 :: j73 :: j74 :: j75 :: j76 :: j77 :: j78 :: j79 :: j80 :: j81 :: j82 :: j83 :: j84 :: j85 :: j86 :: j87 :: j88 :: j89 :: j90 :: j91 :: j92 :: j93 :: j94 :: j95 :: j96 :: j97 :: j98 :: j99 :: j100 :: j101 :: j102 :: j103 :: j104 :: j105 :: j106 :: j107 :: []) H = (K j0 H) := by kernel_rfl

theorem runnellaw7_known_eq (H : List Ob) (r : AV) (Ho : List Ob) : aBody Tryz.prog runnellaw7_known_ann Tryz.f4 H [] r Ho = runnellaw7_known_P0 H (awp Tryz.prog runnellaw7_known_ann) (kEnd Tryz.prog [.tmp 0] fun v H' => Gives H.length v H' r Ho) :=
  (show aBody Tryz.prog runnellaw7_known_ann Tryz.f4 H [] r Ho = awp Tryz.prog runnellaw7_known_ann runnellaw7_known_c (.top :: .top :: .top :: .top :: .top :: .top :: .top :: .top :: .top :: .top :: .top :: .top :: .top :: .top :: .top :: .top :: .top :: .top :: .top :: .top :: .top :: .top :: .top :: .top :: .top :: .top :: .top :: .top :: .top :: .top :: .top :: .top :: .top :: .top :: .top :: .top :: .top :: .top :: .top :: .top :: .top :: .top :: .top :: .top :: .top :: .top :: .top :: .top :: .top :: .top :: .top :: .top :: .top :: .top :: .top :: .top :: .top :: .top :: .top :: .top :: .top :: .top :: .top :: .top :: .top :: .top :: .top :: .top :: .top :: .top :: .top :: .top :: .top :: .top :: .top :: .top :: .top :: .top :: .top :: .top :: .top :: .top :: .top :: .top :: .top :: .top :: .top :: .top :: .top :: .top :: .top :: .top :: .top :: .top :: .top :: .top :: .top :: .top :: .top :: .top :: .top :: .top :: .top :: .top :: .top :: .top :: .top :: .top :: []) H (kEnd Tryz.prog [.tmp 0] fun v H' => Gives H.length v H' r Ho) from by kernel_rfl).trans (runnellaw7_known_c_eq H _)

theorem runnellaw7_known_fn {r : AV} {Ho : List Ob} (h : runnellaw7_known_P0 [] (awp Tryz.prog runnellaw7_known_ann) (kEnd Tryz.prog [.tmp 0] fun v H' => Gives 0 v H' r Ho)) : Abs.Fn Tryz.prog runnellaw7_known_i [] [] r Ho :=
  fn_intro mixed runnellaw7_known_ann (fn := Tryz.f4) (by kernel_rfl) (by kernel_rfl) (by rw [runnellaw7_known_eq]; exact h)

def runnellaw7_known_P2 (j1 : AV) (H : List Ob) (self : Code → List AV → List Ob → Ko → Prop) (kp : Ko) : Prop :=
  aCall Tryz.prog (.p (.func runnellaw4_X_i [])) [] H fun v5 h6 =>
  aCall Tryz.prog (.p (.func val_Int_i [])) [(.p (.int .i64 7))] h6 fun v7 h8 =>
  aCall Tryz.prog (.p (.func runnellaw4_Lit_i [])) [v7] h8 fun v9 h10 =>
  aBuildSlice 8 [v5, v9] fun v11 =>
  aBuild [(.p (.int .i64 0)), (.p (.str [])), (.p (.int .i64 0)), (.full []), (.full []), (.p (.str [])), (.p (.int .i64 0)), (.p (.int .i64 0)), (.p (.bool false)), (.p (.str [])), (.full []), (.p (.int .i64 0)), (.full []), (.p (.int .i64 0)), (.p (.int .i64 0))] [(0, 1, (.p (.int .i64 4))), (4, 1, v11)] fun v12 =>
  aAlloc [(.p (.int .i64 0)), (.p (.str [])), (.p (.int .i64 0)), (.full []), (.full []), (.p (.str [])), (.p (.int .i64 0)), (.p (.int .i64 0)), (.p (.bool false)), (.p (.str [])), (.full []), (.p (.int .i64 0)), (.full []), (.p (.int .i64 0)), (.p (.int .i64 0))] h10 fun v13 h14 =>
  aStore 15 v13 v12 h14 fun _ h16 =>
  self runnellaw7_known_c3 (keepS [1, 2, 9999] 0 (.top :: j1 :: v13 :: .top :: .top :: .top :: .top :: .top :: .top :: .top :: .top :: .top :: .top :: .top :: .top :: v5 :: v7 :: v9 :: v11 :: v12 :: .top :: .top :: .top :: .top :: .top :: .top :: .top :: .top :: .top :: .top :: .top :: .top :: .top :: .top :: .top :: .top :: .top :: .top :: .top :: .top :: .top :: .top :: .top :: .top :: .top :: .top :: .top :: .top :: .top :: .top :: .top :: .top :: .top :: .top :: .top :: .top :: .top :: .top :: .top :: .top :: .top :: .top :: .top :: .top :: .top :: .top :: .top :: .top :: .top :: .top :: .top :: .top :: .top :: .top :: .top :: .top :: .top :: .top :: .top :: .top :: .top :: .top :: .top :: .top :: .top :: .top :: .top :: .top :: .top :: .top :: .top :: .top :: .top :: .top :: .top :: .top :: .top :: .top :: .top :: .top :: .top :: .top :: .top :: .top :: .top :: .top :: .top :: .top :: [])) h16 kp

theorem runnellaw7_known_P2_x (j0 j1 j2 j3 j4 j5 j6 j7 j8 j9 j10 j11 j12 j13 j14 j15 j16 j17 j18 j19 j20 j21 j22 j23 j24 j25 j26 j27 j28 j29 j30 j31 j32 j33 j34 j35 j36 j37 j38 j39 j40 j41 j42 j43 j44 j45 j46 j47 j48 j49 j50 j51 j52 j53 j54 j55 j56 j57 j58 j59 j60 j61 j62 j63 j64 j65 j66 j67 j68 j69 j70 j71 j72 j73 j74 j75 j76 j77 j78 j79 j80 j81 j82 j83 j84 j85 j86 j87 j88 j89 j90 j91 j92 j93 j94 j95 j96 j97 j98 j99 j100 j101 j102 j103 j104 j105 j106 j107 : AV) (H : List Ob) (self : Code → List AV → List Ob → Ko → Prop) (kp : Ko) : awpX Tryz.prog runnellaw7_known_ann self runnellaw7_known_cut runnellaw7_known_c2 (keepS [1, 9999] 0 (j0 :: j1 :: j2 :: j3 :: j4 :: j5 :: j6 :: j7 :: j8 :: j9 :: j10 :: j11 :: j12 :: j13 :: j14 :: j15 :: j16 :: j17 :: j18 :: j19 :: j20 :: j21 :: j22 :: j23 :: j24 :: j25 :: j26 :: j27 :: j28 :: j29 :: j30 :: j31 :: j32 :: j33 :: j34 :: j35 :: j36 :: j37 :: j38 :: j39 :: j40 :: j41 :: j42 :: j43 :: j44 :: j45 :: j46 :: j47 :: j48 :: j49 :: j50 :: j51 :: j52 :: j53 :: j54 :: j55 :: j56 :: j57 :: j58 :: j59 :: j60 :: j61 :: j62 :: j63 :: j64 :: j65 :: j66 :: j67 :: j68 :: j69 :: j70 :: j71 :: j72 :: j73 :: j74 :: j75 :: j76 :: j77 :: j78 :: j79 :: j80 :: j81 :: j82 :: j83 :: j84 :: j85 :: j86 :: j87 :: j88 :: j89 :: j90 :: j91 :: j92 :: j93 :: j94 :: j95 :: j96 :: j97 :: j98 :: j99 :: j100 :: j101 :: j102 :: j103 :: j104 :: j105 :: j106 :: j107 :: [])) H kp = runnellaw7_known_P2 j1 H self kp := by kernel_rfl

theorem runnellaw7_known_c2_eq (j0 j1 j2 j3 j4 j5 j6 j7 j8 j9 j10 j11 j12 j13 j14 j15 j16 j17 j18 j19 j20 j21 j22 j23 j24 j25 j26 j27 j28 j29 j30 j31 j32 j33 j34 j35 j36 j37 j38 j39 j40 j41 j42 j43 j44 j45 j46 j47 j48 j49 j50 j51 j52 j53 j54 j55 j56 j57 j58 j59 j60 j61 j62 j63 j64 j65 j66 j67 j68 j69 j70 j71 j72 j73 j74 j75 j76 j77 j78 j79 j80 j81 j82 j83 j84 j85 j86 j87 j88 j89 j90 j91 j92 j93 j94 j95 j96 j97 j98 j99 j100 j101 j102 j103 j104 j105 j106 j107 : AV) (H : List Ob) (kp : Ko) : awp Tryz.prog runnellaw7_known_ann runnellaw7_known_c2 (keepS [1, 9999] 0 (j0 :: j1 :: j2 :: j3 :: j4 :: j5 :: j6 :: j7 :: j8 :: j9 :: j10 :: j11 :: j12 :: j13 :: j14 :: j15 :: j16 :: j17 :: j18 :: j19 :: j20 :: j21 :: j22 :: j23 :: j24 :: j25 :: j26 :: j27 :: j28 :: j29 :: j30 :: j31 :: j32 :: j33 :: j34 :: j35 :: j36 :: j37 :: j38 :: j39 :: j40 :: j41 :: j42 :: j43 :: j44 :: j45 :: j46 :: j47 :: j48 :: j49 :: j50 :: j51 :: j52 :: j53 :: j54 :: j55 :: j56 :: j57 :: j58 :: j59 :: j60 :: j61 :: j62 :: j63 :: j64 :: j65 :: j66 :: j67 :: j68 :: j69 :: j70 :: j71 :: j72 :: j73 :: j74 :: j75 :: j76 :: j77 :: j78 :: j79 :: j80 :: j81 :: j82 :: j83 :: j84 :: j85 :: j86 :: j87 :: j88 :: j89 :: j90 :: j91 :: j92 :: j93 :: j94 :: j95 :: j96 :: j97 :: j98 :: j99 :: j100 :: j101 :: j102 :: j103 :: j104 :: j105 :: j106 :: j107 :: [])) H kp = runnellaw7_known_P2 j1 H (awp Tryz.prog runnellaw7_known_ann) kp :=
  (awpX_eq Tryz.prog runnellaw7_known_ann runnellaw7_known_cut runnellaw7_known_c2 (keepS [1, 9999] 0 (j0 :: j1 :: j2 :: j3 :: j4 :: j5 :: j6 :: j7 :: j8 :: j9 :: j10 :: j11 :: j12 :: j13 :: j14 :: j15 :: j16 :: j17 :: j18 :: j19 :: j20 :: j21 :: j22 :: j23 :: j24 :: j25 :: j26 :: j27 :: j28 :: j29 :: j30 :: j31 :: j32 :: j33 :: j34 :: j35 :: j36 :: j37 :: j38 :: j39 :: j40 :: j41 :: j42 :: j43 :: j44 :: j45 :: j46 :: j47 :: j48 :: j49 :: j50 :: j51 :: j52 :: j53 :: j54 :: j55 :: j56 :: j57 :: j58 :: j59 :: j60 :: j61 :: j62 :: j63 :: j64 :: j65 :: j66 :: j67 :: j68 :: j69 :: j70 :: j71 :: j72 :: j73 :: j74 :: j75 :: j76 :: j77 :: j78 :: j79 :: j80 :: j81 :: j82 :: j83 :: j84 :: j85 :: j86 :: j87 :: j88 :: j89 :: j90 :: j91 :: j92 :: j93 :: j94 :: j95 :: j96 :: j97 :: j98 :: j99 :: j100 :: j101 :: j102 :: j103 :: j104 :: j105 :: j106 :: j107 :: [])) H kp).symm.trans (runnellaw7_known_P2_x j0 j1 j2 j3 j4 j5 j6 j7 j8 j9 j10 j11 j12 j13 j14 j15 j16 j17 j18 j19 j20 j21 j22 j23 j24 j25 j26 j27 j28 j29 j30 j31 j32 j33 j34 j35 j36 j37 j38 j39 j40 j41 j42 j43 j44 j45 j46 j47 j48 j49 j50 j51 j52 j53 j54 j55 j56 j57 j58 j59 j60 j61 j62 j63 j64 j65 j66 j67 j68 j69 j70 j71 j72 j73 j74 j75 j76 j77 j78 j79 j80 j81 j82 j83 j84 j85 j86 j87 j88 j89 j90 j91 j92 j93 j94 j95 j96 j97 j98 j99 j100 j101 j102 j103 j104 j105 j106 j107 H (awp Tryz.prog runnellaw7_known_ann) kp)

def runnellaw7_known_P3 (j1 j2 : AV) (H : List Ob) (self : Code → List AV → List Ob → Ko → Prop) (kp : Ko) : Prop :=
  aLoad true 15 j2 H fun v17 =>
  aLoad true 2 j1 H fun v18 =>
  aBuildSlice 2 [v18] fun v19 =>
  aCall Tryz.prog (.p (.func op_Out_i [])) [v17, v19] H fun v20 h21 =>
  aExtract v20 0 fun v22 =>
  aExtract v20 1 fun v23 =>
  aAlloc [(.p (.int .i64 0)), (.full [])] h21 fun v24 h25 =>
  aStore 2 v24 v22 h25 fun _ h27 =>
  self runnellaw7_known_c4 (keepS [1, 2, 3, 4, 9999] 0 (.top :: j1 :: j2 :: v24 :: v23 :: .top :: .top :: .top :: .top :: .top :: .top :: .top :: .top :: .top :: .top :: .top :: .top :: .top :: .top :: .top :: v20 :: v17 :: v18 :: v19 :: v20 :: v22 :: v23 :: .top :: .top :: .top :: .top :: .top :: .top :: .top :: .top :: .top :: .top :: .top :: .top :: .top :: .top :: .top :: .top :: .top :: .top :: .top :: .top :: .top :: .top :: .top :: .top :: .top :: .top :: .top :: .top :: .top :: .top :: .top :: .top :: .top :: .top :: .top :: .top :: .top :: .top :: .top :: .top :: .top :: .top :: .top :: .top :: .top :: .top :: .top :: .top :: .top :: .top :: .top :: .top :: .top :: .top :: .top :: .top :: .top :: .top :: .top :: .top :: .top :: .top :: .top :: .top :: .top :: .top :: .top :: .top :: .top :: .top :: .top :: .top :: .top :: .top :: .top :: .top :: .top :: .top :: .top :: .top :: .top :: [])) h27 kp

theorem runnellaw7_known_P3_x (j0 j1 j2 j3 j4 j5 j6 j7 j8 j9 j10 j11 j12 j13 j14 j15 j16 j17 j18 j19 j20 j21 j22 j23 j24 j25 j26 j27 j28 j29 j30 j31 j32 j33 j34 j35 j36 j37 j38 j39 j40 j41 j42 j43 j44 j45 j46 j47 j48 j49 j50 j51 j52 j53 j54 j55 j56 j57 j58 j59 j60 j61 j62 j63 j64 j65 j66 j67 j68 j69 j70 j71 j72 j73 j74 j75 j76 j77 j78 j79 j80 j81 j82 j83 j84 j85 j86 j87 j88 j89 j90 j91 j92 j93 j94 j95 j96 j97 j98 j99 j100 j101 j102 j103 j104 j105 j106 j107 : AV) (H : List Ob) (self : Code → List AV → List Ob → Ko → Prop) (kp : Ko) : awpX Tryz.prog runnellaw7_known_ann self runnellaw7_known_cut runnellaw7_known_c3 (keepS [1, 2, 9999] 0 (j0 :: j1 :: j2 :: j3 :: j4 :: j5 :: j6 :: j7 :: j8 :: j9 :: j10 :: j11 :: j12 :: j13 :: j14 :: j15 :: j16 :: j17 :: j18 :: j19 :: j20 :: j21 :: j22 :: j23 :: j24 :: j25 :: j26 :: j27 :: j28 :: j29 :: j30 :: j31 :: j32 :: j33 :: j34 :: j35 :: j36 :: j37 :: j38 :: j39 :: j40 :: j41 :: j42 :: j43 :: j44 :: j45 :: j46 :: j47 :: j48 :: j49 :: j50 :: j51 :: j52 :: j53 :: j54 :: j55 :: j56 :: j57 :: j58 :: j59 :: j60 :: j61 :: j62 :: j63 :: j64 :: j65 :: j66 :: j67 :: j68 :: j69 :: j70 :: j71 :: j72 :: j73 :: j74 :: j75 :: j76 :: j77 :: j78 :: j79 :: j80 :: j81 :: j82 :: j83 :: j84 :: j85 :: j86 :: j87 :: j88 :: j89 :: j90 :: j91 :: j92 :: j93 :: j94 :: j95 :: j96 :: j97 :: j98 :: j99 :: j100 :: j101 :: j102 :: j103 :: j104 :: j105 :: j106 :: j107 :: [])) H kp = runnellaw7_known_P3 j1 j2 H self kp := by kernel_rfl

theorem runnellaw7_known_c3_eq (j0 j1 j2 j3 j4 j5 j6 j7 j8 j9 j10 j11 j12 j13 j14 j15 j16 j17 j18 j19 j20 j21 j22 j23 j24 j25 j26 j27 j28 j29 j30 j31 j32 j33 j34 j35 j36 j37 j38 j39 j40 j41 j42 j43 j44 j45 j46 j47 j48 j49 j50 j51 j52 j53 j54 j55 j56 j57 j58 j59 j60 j61 j62 j63 j64 j65 j66 j67 j68 j69 j70 j71 j72 j73 j74 j75 j76 j77 j78 j79 j80 j81 j82 j83 j84 j85 j86 j87 j88 j89 j90 j91 j92 j93 j94 j95 j96 j97 j98 j99 j100 j101 j102 j103 j104 j105 j106 j107 : AV) (H : List Ob) (kp : Ko) : awp Tryz.prog runnellaw7_known_ann runnellaw7_known_c3 (keepS [1, 2, 9999] 0 (j0 :: j1 :: j2 :: j3 :: j4 :: j5 :: j6 :: j7 :: j8 :: j9 :: j10 :: j11 :: j12 :: j13 :: j14 :: j15 :: j16 :: j17 :: j18 :: j19 :: j20 :: j21 :: j22 :: j23 :: j24 :: j25 :: j26 :: j27 :: j28 :: j29 :: j30 :: j31 :: j32 :: j33 :: j34 :: j35 :: j36 :: j37 :: j38 :: j39 :: j40 :: j41 :: j42 :: j43 :: j44 :: j45 :: j46 :: j47 :: j48 :: j49 :: j50 :: j51 :: j52 :: j53 :: j54 :: j55 :: j56 :: j57 :: j58 :: j59 :: j60 :: j61 :: j62 :: j63 :: j64 :: j65 :: j66 :: j67 :: j68 :: j69 :: j70 :: j71 :: j72 :: j73 :: j74 :: j75 :: j76 :: j77 :: j78 :: j79 :: j80 :: j81 :: j82 :: j83 :: j84 :: j85 :: j86 :: j87 :: j88 :: j89 :: j90 :: j91 :: j92 :: j93 :: j94 :: j95 :: j96 :: j97 :: j98 :: j99 :: j100 :: j101 :: j102 :: j103 :: j104 :: j105 :: j106 :: j107 :: [])) H kp = runnellaw7_known_P3 j1 j2 H (awp Tryz.prog runnellaw7_known_ann) kp :=
  (awpX_eq Tryz.prog runnellaw7_known_ann runnellaw7_known_cut runnellaw7_known_c3 (keepS [1, 2, 9999] 0 (j0 :: j1 :: j2 :: j3 :: j4 :: j5 :: j6 :: j7 :: j8 :: j9 :: j10 :: j11 :: j12 :: j13 :: j14 :: j15 :: j16 :: j17 :: j18 :: j19 :: j20 :: j21 :: j22 :: j23 :: j24 :: j25 :: j26 :: j27 :: j28 :: j29 :: j30 :: j31 :: j32 :: j33 :: j34 :: j35 :: j36 :: j37 :: j38 :: j39 :: j40 :: j41 :: j42 :: j43 :: j44 :: j45 :: j46 :: j47 :: j48 :: j49 :: j50 :: j51 :: j52 :: j53 :: j54 :: j55 :: j56 :: j57 :: j58 :: j59 :: j60 :: j61 :: j62 :: j63 :: j64 :: j65 :: j66 :: j67 :: j68 :: j69 :: j70 :: j71 :: j72 :: j73 :: j74 :: j75 :: j76 :: j77 :: j78 :: j79 :: j80 :: j81 :: j82 :: j83 :: j84 :: j85 :: j86 :: j87 :: j88 :: j89 :: j90 :: j91 :: j92 :: j93 :: j94 :: j95 :: j96 :: j97 :: j98 :: j99 :: j100 :: j101 :: j102 :: j103 :: j104 :: j105 :: j106 :: j107 :: [])) H kp).symm.trans (runnellaw7_known_P3_x j0 j1 j2 j3 j4 j5 j6 j7 j8 j9 j10 j11 j12 j13 j14 j15 j16 j17 j18 j19 j20 j21 j22 j23 j24 j25 j26 j27 j28 j29 j30 j31 j32 j33 j34 j35 j36 j37 j38 j39 j40 j41 j42 j43 j44 j45 j46 j47 j48 j49 j50 j51 j52 j53 j54 j55 j56 j57 j58 j59 j60 j61 j62 j63 j64 j65 j66 j67 j68 j69 j70 j71 j72 j73 j74 j75 j76 j77 j78 j79 j80 j81 j82 j83 j84 j85 j86 j87 j88 j89 j90 j91 j92 j93 j94 j95 j96 j97 j98 j99 j100 j101 j102 j103 j104 j105 j106 j107 H (awp Tryz.prog runnellaw7_known_ann) kp)

def runnellaw7_known_P4 (j1 j2 j3 j4 : AV) (H : List Ob) (self : Code → List AV → List Ob → Ko → Prop) (kp : Ko) : Prop :=
  aLoad true 15 j2 H fun v28 =>
  aCallT Tryz.prog (.p (.func val_Int_i [])) [(.p (.int .i64 3))] fun v29 =>
  aCallT Tryz.prog (.p (.func op_Apply_i [])) [v28, v29] fun v30 =>
  aExtract v30 0 fun v31 =>
  aExtract v30 1 fun v32 =>
  self runnellaw7_known_c5 (keepS [1, 2, 3, 4, 5, 6, 9999] 0 (.top :: j1 :: j2 :: j3 :: j4 :: v31 :: v32 :: .top :: .top :: .top :: .top :: .top :: .top :: .top :: .top :: .top :: .top :: .top :: .top :: .top :: .top :: .top :: .top :: .top :: .top :: .top :: .top :: v30 :: v28 :: v29 :: v30 :: v31 :: v32 :: .top :: .top :: .top :: .top :: .top :: .top :: .top :: .top :: .top :: .top :: .top :: .top :: .top :: .top :: .top :: .top :: .top :: .top :: .top :: .top :: .top :: .top :: .top :: .top :: .top :: .top :: .top :: .top :: .top :: .top :: .top :: .top :: .top :: .top :: .top :: .top :: .top :: .top :: .top :: .top :: .top :: .top :: .top :: .top :: .top :: .top :: .top :: .top :: .top :: .top :: .top :: .top :: .top :: .top :: .top :: .top :: .top :: .top :: .top :: .top :: .top :: .top :: .top :: .top :: .top :: .top :: .top :: .top :: .top :: .top :: .top :: .top :: .top :: .top :: .top :: [])) H kp

theorem runnellaw7_known_P4_x (j0 j1 j2 j3 j4 j5 j6 j7 j8 j9 j10 j11 j12 j13 j14 j15 j16 j17 j18 j19 j20 j21 j22 j23 j24 j25 j26 j27 j28 j29 j30 j31 j32 j33 j34 j35 j36 j37 j38 j39 j40 j41 j42 j43 j44 j45 j46 j47 j48 j49 j50 j51 j52 j53 j54 j55 j56 j57 j58 j59 j60 j61 j62 j63 j64 j65 j66 j67 j68 j69 j70 j71 j72 j73 j74 j75 j76 j77 j78 j79 j80 j81 j82 j83 j84 j85 j86 j87 j88 j89 j90 j91 j92 j93 j94 j95 j96 j97 j98 j99 j100 j101 j102 j103 j104 j105 j106 j107 : AV) (H : List Ob) (self : Code → List AV → List Ob → Ko → Prop) (kp : Ko) : awpX Tryz.prog runnellaw7_known_ann self runnellaw7_known_cut runnellaw7_known_c4 (keepS [1, 2, 3, 4, 9999] 0 (j0 :: j1 :: j2 :: j3 :: j4 :: j5 :: j6 :: j7 :: j8 :: j9 :: j10 :: j11 :: j12 :: j13 :: j14 :: j15 :: j16 :: j17 :: j18 :: j19 :: j20 :: j21 :: j22 :: j23 :: j24 :: j25 :: j26 :: j27 :: j28 :: j29 :: j30 :: j31 :: j32 :: j33 :: j34 :: j35 :: j36 :: j37 :: j38 :: j39 :: j40 :: j41 :: j42 :: j43 :: j44 :: j45 :: j46 :: j47 :: j48 :: j49 :: j50 :: j51 :: j52 :: j53 :: j54 :: j55 :: j56 :: j57 :: j58 :: j59 :: j60 :: j61 :: j62 :: j63 :: j64 :: j65 :: j66 :: j67 :: j68 :: j69 :: j70 :: j71 :: j72 :: j73 :: j74 :: j75 :: j76 :: j77 :: j78 :: j79 :: j80 :: j81 :: j82 :: j83 :: j84 :: j85 :: j86 :: j87 :: j88 :: j89 :: j90 :: j91 :: j92 :: j93 :: j94 :: j95 :: j96 :: j97 :: j98 :: j99 :: j100 :: j101 :: j102 :: j103 :: j104 :: j105 :: j106 :: j107 :: [])) H kp = runnellaw7_known_P4 j1 j2 j3 j4 H self kp := by kernel_rfl

theorem runnellaw7_known_c4_eq (j0 j1 j2 j3 j4 j5 j6 j7 j8 j9 j10 j11 j12 j13 j14 j15 j16 j17 j18 j19 j20 j21 j22 j23 j24 j25 j26 j27 j28 j29 j30 j31 j32 j33 j34 j35 j36 j37 j38 j39 j40 j41 j42 j43 j44 j45 j46 j47 j48 j49 j50 j51 j52 j53 j54 j55 j56 j57 j58 j59 j60 j61 j62 j63 j64 j65 j66 j67 j68 j69 j70 j71 j72 j73 j74 j75 j76 j77 j78 j79 j80 j81 j82 j83 j84 j85 j86 j87 j88 j89 j90 j91 j92 j93 j94 j95 j96 j97 j98 j99 j100 j101 j102 j103 j104 j105 j106 j107 : AV) (H : List Ob) (kp : Ko) : awp Tryz.prog runnellaw7_known_ann runnellaw7_known_c4 (keepS [1, 2, 3, 4, 9999] 0 (j0 :: j1 :: j2 :: j3 :: j4 :: j5 :: j6 :: j7 :: j8 :: j9 :: j10 :: j11 :: j12 :: j13 :: j14 :: j15 :: j16 :: j17 :: j18 :: j19 :: j20 :: j21 :: j22 :: j23 :: j24 :: j25 :: j26 :: j27 :: j28 :: j29 :: j30 :: j31 :: j32 :: j33 :: j34 :: j35 :: j36 :: j37 :: j38 :: j39 :: j40 :: j41 :: j42 :: j43 :: j44 :: j45 :: j46 :: j47 :: j48 :: j49 :: j50 :: j51 :: j52 :: j53 :: j54 :: j55 :: j56 :: j57 :: j58 :: j59 :: j60 :: j61 :: j62 :: j63 :: j64 :: j65 :: j66 :: j67 :: j68 :: j69 :: j70 :: j71 :: j72 :: j73 :: j74 :: j75 :: j76 :: j77 :: j78 :: j79 :: j80 :: j81 :: j82 :: j83 :: j84 :: j85 :: j86 :: j87 :: j88 :: j89 :: j90 :: j91 :: j92 :: j93 :: j94 :: j95 :: j96 :: j97 :: j98 :: j99 :: j100 :: j101 :: j102 :: j103 :: j104 :: j105 :: j106 :: j107 :: [])) H kp = runnellaw7_known_P4 j1 j2 j3 j4 H (awp Tryz.prog runnellaw7_known_ann) kp :=
  (awpX_eq Tryz.prog runnellaw7_known_ann runnellaw7_known_cut runnellaw7_known_c4 (keepS [1, 2, 3, 4, 9999] 0 (j0 :: j1 :: j2 :: j3 :: j4 :: j5 :: j6 :: j7 :: j8 :: j9 :: j10 :: j11 :: j12 :: j13 :: j14 :: j15 :: j16 :: j17 :: j18 :: j19 :: j20 :: j21 :: j22 :: j23 :: j24 :: j25 :: j26 :: j27 :: j28 :: j29 :: j30 :: j31 :: j32 :: j33 :: j34 :: j35 :: j36 :: j37 :: j38 :: j39 :: j40 :: j41 :: j42 :: j43 :: j44 :: j45 :: j46 :: j47 :: j48 :: j49 :: j50 :: j51 :: j52 :: j53 :: j54 :: j55 :: j56 :: j57 :: j58 :: j59 :: j60 :: j61 :: j62 :: j63 :: j64 :: j65 :: j66 :: j67 :: j68 :: j69 :: j70 :: j71 :: j72 :: j73 :: j74 :: j75 :: j76 :: j77 :: j78 :: j79 :: j80 :: j81 :: j82 :: j83 :: j84 :: j85 :: j86 :: j87 :: j88 :: j89 :: j90 :: j91 :: j92 :: j93 :: j94 :: j95 :: j96 :: j97 :: j98 :: j99 :: j100 :: j101 :: j102 :: j103 :: j104 :: j105 :: j106 :: j107 :: [])) H kp).symm.trans (runnellaw7_known_P4_x j0 j1 j2 j3 j4 j5 j6 j7 j8 j9 j10 j11 j12 j13 j14 j15 j16 j17 j18 j19 j20 j21 j22 j23 j24 j25 j26 j27 j28 j29 j30 j31 j32 j33 j34 j35 j36 j37 j38 j39 j40 j41 j42 j43 j44 j45 j46 j47 j48 j49 j50 j51 j52 j53 j54 j55 j56 j57 j58 j59 j60 j61 j62 j63 j64 j65 j66 j67 j68 j69 j70 j71 j72 j73 j74 j75 j76 j77 j78 j79 j80 j81 j82 j83 j84 j85 j86 j87 j88 j89 j90 j91 j92 j93 j94 j95 j96 j97 j98 j99 j100 j101 j102 j103 j104 j105 j106 j107 H (awp Tryz.prog runnellaw7_known_ann) kp)

def runnellaw7_known_P5 (j1 j2 j3 j4 j5 j6 : AV) (H : List Ob) (self : Code → List AV → List Ob → Ko → Prop) (kp : Ko) : Prop :=
  aCall Tryz.prog (.p (.func runnellaw4_X_i [])) [] H fun v33 h34 =>
  aBuild [(.p (.int .i64 0)), (.p (.str [])), (.p (.int .i64 0)), (.full []), (.full []), (.p (.str [])), (.p (.int .i64 0)), (.p (.int .i64 0)), (.p (.bool false)), (.p (.str [])), (.full []), (.p (.int .i64 0)), (.full []), (.p (.int .i64 0)), (.p (.int .i64 0))] [(0, 1, (.p (.int .i64 6))), (5, 8, v33), (14, 1, (.p (.int .i64 2)))] fun v35 =>
  aAlloc [(.p (.int .i64 0)), (.p (.str [])), (.p (.int .i64 0)), (.full []), (.full []), (.p (.str [])), (.p (.int .i64 0)), (.p (.int .i64 0)), (.p (.bool false)), (.p (.str [])), (.full []), (.p (.int .i64 0)), (.full []), (.p (.int .i64 0)), (.p (.int .i64 0))] h34 fun v36 h37 =>
  aStore 15 v36 v35 h37 fun _ h39 =>
  self runnellaw7_known_c6 (keepS [1, 2, 3, 4, 5, 6, 7, 9999] 0 (.top :: j1 :: j2 :: j3 :: j4 :: j5 :: j6 :: v36 :: .top :: .top :: .top :: .top :: .top :: .top :: .top :: .top :: .top :: .top :: .top :: .top :: .top :: .top :: .top :: .top :: .top :: .top :: .top :: .top :: .top :: .top :: .top :: .top :: .top :: v33 :: v35 :: .top :: .top :: .top :: .top :: .top :: .top :: .top :: .top :: .top :: .top :: .top :: .top :: .top :: .top :: .top :: .top :: .top :: .top :: .top :: .top :: .top :: .top :: .top :: .top :: .top :: .top :: .top :: .top :: .top :: .top :: .top :: .top :: .top :: .top :: .top :: .top :: .top :: .top :: .top :: .top :: .top :: .top :: .top :: .top :: .top :: .top :: .top :: .top :: .top :: .top :: .top :: .top :: .top :: .top :: .top :: .top :: .top :: .top :: .top :: .top :: .top :: .top :: .top :: .top :: .top :: .top :: .top :: .top :: .top :: .top :: .top :: .top :: .top :: [])) h39 kp

theorem runnellaw7_known_P5_x (j0 j1 j2 j3 j4 j5 j6 j7 j8 j9 j10 j11 j12 j13 j14 j15 j16 j17 j18 j19 j20 j21 j22 j23 j24 j25 j26 j27 j28 j29 j30 j31 j32 j33 j34 j35 j36 j37 j38 j39 j40 j41 j42 j43 j44 j45 j46 j47 j48 j49 j50 j51 j52 j53 j54 j55 j56 j57 j58 j59 j60 j61 j62 j63 j64 j65 j66 j67 j68 j69 j70 j71 j72 j73 j74 j75 j76 j77 j78 j79 j80 j81 j82 j83 j84 j85 j86 j87 j88 j89 j90 j91 j92 j93 j94 j95 j96 j97 j98 j99 j100 j101 j102 j103 j104 j105 j106 j107 : AV) (H : List Ob) (self : Code → List AV → List Ob → Ko → Prop) (kp : Ko) : awpX Tryz.prog runnellaw7_known_ann self runnellaw7_known_cut runnellaw7_known_c5 (keepS [1, 2, 3, 4, 5, 6, 9999] 0 (j0 :: j1 :: j2 :: j3 :: j4 :: j5 :: j6 :: j7 :: j8 :: j9 :: j10 :: j11 :: j12 :: j13 :: j14 :: j15 :: j16 :: j17 :: j18 :: j19 :: j20 :: j21 :: j22 :: j23 :: j24 :: j25 :: j26 :: j27 :: j28 :: j29 :: j30 :: j31 :: j32 :: j33 :: j34 :: j35 :: j36 :: j37 :: j38 :: j39 :: j40 :: j41 :: j42 :: j43 :: j44 :: j45 :: j46 :: j47 :: j48 :: j49 :: j50 :: j51 :: j52 :: j53 :: j54 :: j55 :: j56 :: j57 :: j58 :: j59 :: j60 :: j61 :: j62 :: j63 :: j64 :: j65 :: j66 :: j67 :: j68 :: j69 :: j70 :: j71 :: j72 :: j73 :: j74 :: j75 :: j76 :: j77 :: j78 :: j79 :: j80 :: j81 :: j82 :: j83 :: j84 :: j85 :: j86 :: j87 :: j88 :: j89 :: j90 :: j91 :: j92 :: j93 :: j94 :: j95 :: j96 :: j97 :: j98 :: j99 :: j100 :: j101 :: j102 :: j103 :: j104 :: j105 :: j106 :: j107 :: [])) H kp = runnellaw7_known_P5 j1 j2 j3 j4 j5 j6 H self kp := by kernel_rfl

theorem runnellaw7_known_c5_eq (j0 j1 j2 j3 j4 j5 j6 j7 j8 j9 j10 j11 j12 j13 j14 j15 j16 j17 j18 j19 j20 j21 j22 j23 j24 j25 j26 j27 j28 j29 j30 j31 j32 j33 j34 j35 j36 j37 j38 j39 j40 j41 j42 j43 j44 j45 j46 j47 j48 j49 j50 j51 j52 j53 j54 j55 j56 j57 j58 j59 j60 j61 j62 j63 j64 j65 j66 j67 j68 j69 j70 j71 j72 j73 j74 j75 j76 j77 j78 j79 j80 j81 j82 j83 j84 j85 j86 j87 j88 j89 j90 j91 j92 j93 j94 j95 j96 j97 j98 j99 j100 j101 j102 j103 j104 j105 j106 j107 : AV) (H : List Ob) (kp : Ko) : awp Tryz.prog runnellaw7_known_ann runnellaw7_known_c5 (keepS [1, 2, 3, 4, 5, 6, 9999] 0 (j0 :: j1 :: j2 :: j3 :: j4 :: j5 :: j6 :: j7 :: j8 :: j9 :: j10 :: j11 :: j12 :: j13 :: j14 :: j15 :: j16 :: j17 :: j18 :: j19 :: j20 :: j21 :: j22 :: j23 :: j24 :: j25 :: j26 :: j27 :: j28 :: j29 :: j30 :: j31 :: j32 :: j33 :: j34 :: j35 :: j36 :: j37 :: j38 :: j39 :: j40 :: j41 :: j42 :: j43 :: j44 :: j45 :: j46 :: j47 :: j48 :: j49 :: j50 :: j51 :: j52 :: j53 :: j54 :: j55 :: j56 :: j57 :: j58 :: j59 :: j60 :: j61 :: j62 :: j63 :: j64 :: j65 :: j66 :: j67 :: j68 :: j69 :: j70 :: j71 :: j72 :: j73 :: j74 :: j75 :: j76 :: j77 :: j78 :: j79 :: j80 :: j81 :: j82 :: j83 :: j84 :: j85 :: j86 :: j87 :: j88 :: j89 :: j90 :: j91 :: j92 :: j93 :: j94 :: j95 :: j96 :: j97 :: j98 :: j99 :: j100 :: j101 :: j102 :: j103 :: j104 :: j105 :: j106 :: j107 :: [])) H kp = runnellaw7_known_P5 j1 j2 j3 j4 j5 j6 H (awp Tryz.prog runnellaw7_known_ann) kp :=
  (awpX_eq Tryz.prog runnellaw7_known_ann runnellaw7_known_cut runnellaw7_known_c5 (keepS [1, 2, 3, 4, 5, 6, 9999] 0 (j0 :: j1 :: j2 :: j3 :: j4 :: j5 :: j6 :: j7 :: j8 :: j9 :: j10 :: j11 :: j12 :: j13 :: j14 :: j15 :: j16 :: j17 :: j18 :: j19 :: j20 :: j21 :: j22 :: j23 :: j24 :: j25 :: j26 :: j27 :: j28 :: j29 :: j30 :: j31 :: j32 :: j33 :: j34 :: j35 :: j36 :: j37 :: j38 :: j39 :: j40 :: j41 :: j42 :: j43 :: j44 :: j45 :: j46 :: j47 :: j48 :: j49 :: j50 :: j51 :: j52 :: j53 :: j54 :: j55 :: j56 :: j57 :: j58 :: j59 :: j60 :: j61 :: j62 :: j63 :: j64 :: j65 :: j66 :: j67 :: j68 :: j69 :: j70 :: j71 :: j72 :: j73 :: j74 :: j75 :: j76 :: j77 :: j78 :: j79 :: j80 :: j81 :: j82 :: j83 :: j84 :: j85 :: j86 :: j87 :: j88 :: j89 :: j90 :: j91 :: j92 :: j93 :: j94 :: j95 :: j96 :: j97 :: j98 :: j99 :: j100 :: j101 :: j102 :: j103 :: j104 :: j105 :: j106 :: j107 :: [])) H kp).symm.trans (runnellaw7_known_P5_x j0 j1 j2 j3 j4 j5 j6 j7 j8 j9 j10 j11 j12 j13 j14 j15 j16 j17 j18 j19 j20 j21 j22 j23 j24 j25 j26 j27 j28 j29 j30 j31 j32 j33 j34 j35 j36 j37 j38 j39 j40 j41 j42 j43 j44 j45 j46 j47 j48 j49 j50 j51 j52 j53 j54 j55 j56 j57 j58 j59 j60 j61 j62 j63 j64 j65 j66 j67 j68 j69 j70 j71 j72 j73 j74 j75 j76 j77 j78 j79 j80 j81 j82 j83 j84 j85 j86 j87 j88 j89 j90 j91 j92 j93 j94 j95 j96 j97 j98 j99 j100 j101 j102 j103 j104 j105 j106 j107 H (awp Tryz.prog runnellaw7_known_ann) kp)

def runnellaw7_known_P6 (j1 j2 j3 j4 j5 j6 j7 : AV) (H : List Ob) (self : Code → List AV → List Ob → Ko → Prop) (kp : Ko) : Prop :=
  aLoad true 15 j7 H fun v40 =>
  aLoad true 2 j1 H fun v41 =>
  aBuildSlice 2 [v41] fun v42 =>
  aCall Tryz.prog (.p (.func op_Out_i [])) [v40, v42] H fun v43 h44 =>
  aExtract v43 0 fun v45 =>
  aExtract v43 1 fun v46 =>
  aAlloc [(.p (.int .i64 0)), (.full [])] h44 fun v47 h48 =>
  aStore 2 v47 v45 h48 fun _ h50 =>
  self runnellaw7_known_c7 (keepS [2, 3, 4, 5, 6, 7, 8, 9, 9999] 0 (.top :: j1 :: j2 :: j3 :: j4 :: j5 :: j6 :: j7 :: v47 :: v46 :: .top :: .top :: .top :: .top :: .top :: .top :: .top :: .top :: .top :: .top :: .top :: .top :: .top :: .top :: .top :: .top :: .top :: .top :: .top :: .top :: .top :: .top :: .top :: .top :: .top :: v43 :: v40 :: v41 :: v42 :: v43 :: v45 :: v46 :: .top :: .top :: .top :: .top :: .top :: .top :: .top :: .top :: .top :: .top :: .top :: .top :: .top :: .top :: .top :: .top :: .top :: .top :: .top :: .top :: .top :: .top :: .top :: .top :: .top :: .top :: .top :: .top :: .top :: .top :: .top :: .top :: .top :: .top :: .top :: .top :: .top :: .top :: .top :: .top :: .top :: .top :: .top :: .top :: .top :: .top :: .top :: .top :: .top :: .top :: .top :: .top :: .top :: .top :: .top :: .top :: .top :: .top :: .top :: .top :: .top :: .top :: .top :: .top :: .top :: .top :: [])) h50 kp

theorem runnellaw7_known_P6_x (j0 j1 j2 j3 j4 j5 j6 j7 j8 j9 j10 j11 j12 j13 j14 j15 j16 j17 j18 j19 j20 j21 j22 j23 j24 j25 j26 j27 j28 j29 j30 j31 j32 j33 j34 j35 j36 j37 j38 j39 j40 j41 j42 j43 j44 j45 j46 j47 j48 j49 j50 j51 j52 j53 j54 j55 j56 j57 j58 j59 j60 j61 j62 j63 j64 j65 j66 j67 j68 j69 j70 j71 j72 j73 j74 j75 j76 j77 j78 j79 j80 j81 j82 j83 j84 j85 j86 j87 j88 j89 j90 j91 j92 j93 j94 j95 j96 j97 j98 j99 j100 j101 j102 j103 j104 j105 j106 j107 : AV) (H : List Ob) (self : Code → List AV → List Ob → Ko → Prop) (kp : Ko) : awpX Tryz.prog runnellaw7_known_ann self runnellaw7_known_cut runnellaw7_known_c6 (keepS [1, 2, 3, 4, 5, 6, 7, 9999] 0 (j0 :: j1 :: j2 :: j3 :: j4 :: j5 :: j6 :: j7 :: j8 :: j9 :: j10 :: j11 :: j12 :: j13 :: j14 :: j15 :: j16 :: j17 :: j18 :: j19 :: j20 :: j21 :: j22 :: j23 :: j24 :: j25 :: j26 :: j27 :: j28 :: j29 :: j30 :: j31 :: j32 :: j33 :: j34 :: j35 :: j36 :: j37 :: j38 :: j39 :: j40 :: j41 :: j42 :: j43 :: j44 :: j45 :: j46 :: j47 :: j48 :: j49 :: j50 :: j51 :: j52 :: j53 :: j54 :: j55 :: j56 :: j57 :: j58 :: j59 :: j60 :: j61 :: j62 :: j63 :: j64 :: j65 :: j66 :: j67 :: j68 :: j69 :: j70 :: j71 :: j72 :: j73 :: j74 :: j75 :: j76 :: j77 :: j78 :: j79 :: j80 :: j81 :: j82 :: j83 :: j84 :: j85 :: j86 :: j87 :: j88 :: j89 :: j90 :: j91 :: j92 :: j93 :: j94 :: j95 :: j96 :: j97 :: j98 :: j99 :: j100 :: j101 :: j102 :: j103 :: j104 :: j105 :: j106 :: j107 :: [])) H kp = runnellaw7_known_P6 j1 j2 j3 j4 j5 j6 j7 H self kp := by kernel_rfl

theorem runnellaw7_known_c6_eq (j0 j1 j2 j3 j4 j5 j6 j7 j8 j9 j10 j11 j12 j13 j14 j15 j16 j17 j18 j19 j20 j21 j22 j23 j24 j25 j26 j27 j28 j29 j30 j31 j32 j33 j34 j35 j36 j37 j38 j39 j40 j41 j42 j43 j44 j45 j46 j47 j48 j49 j50 j51 j52 j53 j54 j55 j56 j57 j58 j59 j60 j61 j62 j63 j64 j65 j66 j67 j68 j69 j70 j71 j72 j73 j74 j75 j76 j77 j78 j79 j80 j81 j82 j83 j84 j85 j86 j87 j88 j89 j90 j91 j92 j93 j94 j95 j96 j97 j98 j99 j100 j101 j102 j103 j104 j105 j106 j107 : AV) (H : List Ob) (kp : Ko) : awp Tryz.prog runnellaw7_known_ann runnellaw7_known_c6 (keepS [1, 2, 3, 4, 5, 6, 7, 9999] 0 (j0 :: j1 :: j2 :: j3 :: j4 :: j5 :: j6 :: j7 :: j8 :: j9 :: j10 :: j11 :: j12 :: j13 :: j14 :: j15 :: j16 :: j17 :: j18 :: j19 :: j20 :: j21 :: j22 :: j23 :: j24 :: j25 :: j26 :: j27 :: j28 :: j29 :: j30 :: j31 :: j32 :: j33 :: j34 :: j35 :: j36 :: j37 :: j38 :: j39 :: j40 :: j41 :: j42 :: j43 :: j44 :: j45 :: j46 :: j47 :: j48 :: j49 :: j50 :: j51 :: j52 :: j53 :: j54 :: j55 :: j56 :: j57 :: j58 :: j59 :: j60 :: j61 :: j62 :: j63 :: j64 :: j65 :: j66 :: j67 :: j68 :: j69 :: j70 :: j71 :: j72 :: j73 :: j74 :: j75 :: j76 :: j77 :: j78 :: j79 :: j80 :: j81 :: j82 :: j83 :: j84 :: j85 :: j86 :: j87 :: j88 :: j89 :: j90 :: j91 :: j92 :: j93 :: j94 :: j95 :: j96 :: j97 :: j98 :: j99 :: j100 :: j101 :: j102 :: j103 :: j104 :: j105 :: j106 :: j107 :: [])) H kp = runnellaw7_known_P6 j1 j2 j3 j4 j5 j6 j7 H (awp Tryz.prog runnellaw7_known_ann) kp :=
  (awpX_eq Tryz.prog runnellaw7_known_ann runnellaw7_known_cut runnellaw7_known_c6 (keepS [1, 2, 3, 4, 5, 6, 7, 9999] 0 (j0 :: j1 :: j2 :: j3 :: j4 :: j5 :: j6 :: j7 :: j8 :: j9 :: j10 :: j11 :: j12 :: j13 :: j14 :: j15 :: j16 :: j17 :: j18 :: j19 :: j20 :: j21 :: j22 :: j23 :: j24 :: j25 :: j26 :: j27 :: j28 :: j29 :: j30 :: j31 :: j32 :: j33 :: j34 :: j35 :: j36 :: j37 :: j38 :: j39 :: j40 :: j41 :: j42 :: j43 :: j44 :: j45 :: j46 :: j47 :: j48 :: j49 :: j50 :: j51 :: j52 :: j53 :: j54 :: j55 :: j56 :: j57 :: j58 :: j59 :: j60 :: j61 :: j62 :: j63 :: j64 :: j65 :: j66 :: j67 :: j68 :: j69 :: j70 :: j71 :: j72 :: j73 :: j74 :: j75 :: j76 :: j77 :: j78 :: j79 :: j80 :: j81 :: j82 :: j83 :: j84 :: j85 :: j86 :: j87 :: j88 :: j89 :: j90 :: j91 :: j92 :: j93 :: j94 :: j95 :: j96 :: j97 :: j98 :: j99 :: j100 :: j101 :: j102 :: j103 :: j104 :: j105 :: j106 :: j107 :: [])) H kp).symm.trans (runnellaw7_known_P6_x j0 j1 j2 j3 j4 j5 j6 j7 j8 j9 j10 j11 j12 j13 j14 j15 j16 j17 j18 j19 j20 j21 j22 j23 j24 j25 j26 j27 j28 j29 j30 j31 j32 j33 j34 j35 j36 j37 j38 j39 j40 j41 j42 j43 j44 j45 j46 j47 j48 j49 j50 j51 j52 j53 j54 j55 j56 j57 j58 j59 j60 j61 j62 j63 j64 j65 j66 j67 j68 j69 j70 j71 j72 j73 j74 j75 j76 j77 j78 j79 j80 j81 j82 j83 j84 j85 j86 j87 j88 j89 j90 j91 j92 j93 j94 j95 j96 j97 j98 j99 j100 j101 j102 j103 j104 j105 j106 j107 H (awp Tryz.prog runnellaw7_known_ann) kp)

def runnellaw7_known_P7 (j2 j3 j4 j5 j6 j7 j8 j9 : AV) (H : List Ob) (self : Code → List AV → List Ob → Ko → Prop) (kp : Ko) : Prop :=
  aBuild [(.p (.int .i64 0)), (.p (.str [])), (.p (.int .i64 0)), (.full []), (.full []), (.p (.str [])), (.p (.int .i64 0)), (.p (.int .i64 0)), (.p (.bool false)), (.p (.str [])), (.full []), (.p (.int .i64 0)), (.full []), (.p (.int .i64 0)), (.p (.int .i64 0))] [(0, 1, (.p (.int .i64 1))), (1, 1, (.p (.str [65])))] fun v51 =>
  aCall Tryz.prog (.p (.func op_Out_i [])) [v51, (.full [])] H fun v52 h53 =>
  aExtract v52 0 fun v54 =>
  aExtract v52 1 fun v55 =>
  aAlloc [(.p (.int .i64 0)), (.full [])] h53 fun v56 h57 =>
  aStore 2 v56 v54 h57 fun _ h59 =>
  self runnellaw7_known_c8 (keepS [2, 3, 4, 5, 6, 7, 8, 9, 11, 9999] 0 (.top :: .top :: j2 :: j3 :: j4 :: j5 :: j6 :: j7 :: j8 :: j9 :: v56 :: v55 :: .top :: .top :: .top :: .top :: .top :: .top :: .top :: .top :: .top :: .top :: .top :: .top :: .top :: .top :: .top :: .top :: .top :: .top :: .top :: .top :: .top :: .top :: .top :: .top :: .top :: .top :: .top :: .top :: .top :: .top :: v52 :: v51 :: v52 :: v54 :: v55 :: .top :: .top :: .top :: .top :: .top :: .top :: .top :: .top :: .top :: .top :: .top :: .top :: .top :: .top :: .top :: .top :: .top :: .top :: .top :: .top :: .top :: .top :: .top :: .top :: .top :: .top :: .top :: .top :: .top :: .top :: .top :: .top :: .top :: .top :: .top :: .top :: .top :: .top :: .top :: .top :: .top :: .top :: .top :: .top :: .top :: .top :: .top :: .top :: .top :: .top :: .top :: .top :: .top :: .top :: .top :: .top :: .top :: .top :: .top :: .top :: .top :: [])) h59 kp

theorem runnellaw7_known_P7_x (j0 j1 j2 j3 j4 j5 j6 j7 j8 j9 j10 j11 j12 j13 j14 j15 j16 j17 j18 j19 j20 j21 j22 j23 j24 j25 j26 j27 j28 j29 j30 j31 j32 j33 j34 j35 j36 j37 j38 j39 j40 j41 j42 j43 j44 j45 j46 j47 j48 j49 j50 j51 j52 j53 j54 j55 j56 j57 j58 j59 j60 j61 j62 j63 j64 j65 j66 j67 j68 j69 j70 j71 j72 j73 j74 j75 j76 j77 j78 j79 j80 j81 j82 j83 j84 j85 j86 j87 j88 j89 j90 j91 j92 j93 j94 j95 j96 j97 j98 j99 j100 j101 j102 j103 j104 j105 j106 j107 : AV) (H : List Ob) (self : Code → List AV → List Ob → Ko → Prop) (kp : Ko) : awpX Tryz.prog runnellaw7_known_ann self runnellaw7_known_cut runnellaw7_known_c7 (keepS [2, 3, 4, 5, 6, 7, 8, 9, 9999] 0 (j0 :: j1 :: j2 :: j3 :: j4 :: j5 :: j6 :: j7 :: j8 :: j9 :: j10 :: j11 :: j12 :: j13 :: j14 :: j15 :: j16 :: j17 :: j18 :: j19 :: j20 :: j21 :: j22 :: j23 :: j24 :: j25 :: j26 :: j27 :: j28 :: j29 :: j30 :: j31 :: j32 :: j33 :: j34 :: j35 :: j36 :: j37 :: j38 :: j39 :: j40 :: j41 :: j42 :: j43 :: j44 :: j45 :: j46 :: j47 :: j48 :: j49 :: j50 :: j51 :: j52 :: j53 :: j54 :: j55 :: j56 :: j57 :: j58 :: j59 :: j60 :: j61 :: j62 :: j63 :: j64 :: j65 :: j66 :: j67 :: j68 :: j69 :: j70 :: j71 :: j72 :: j73 :: j74 :: j75 :: j76 :: j77 :: j78 :: j79 :: j80 :: j81 :: j82 :: j83 :: j84 :: j85 :: j86 :: j87 :: j88 :: j89 :: j90 :: j91 :: j92 :: j93 :: j94 :: j95 :: j96 :: j97 :: j98 :: j99 :: j100 :: j101 :: j102 :: j103 :: j104 :: j105 :: j106 :: j107 :: [])) H kp = runnellaw7_known_P7 j2 j3 j4 j5 j6 j7 j8 j9 H self kp := by kernel_rfl

theorem runnellaw7_known_c7_eq (j0 j1 j2 j3 j4 j5 j6 j7 j8 j9 j10 j11 j12 j13 j14 j15 j16 j17 j18 j19 j20 j21 j22 j23 j24 j25 j26 j27 j28 j29 j30 j31 j32 j33 j34 j35 j36 j37 j38 j39 j40 j41 j42 j43 j44 j45 j46 j47 j48 j49 j50 j51 j52 j53 j54 j55 j56 j57 j58 j59 j60 j61 j62 j63 j64 j65 j66 j67 j68 j69 j70 j71 j72 j73 j74 j75 j76 j77 j78 j79 j80 j81 j82 j83 j84 j85 j86 j87 j88 j89 j90 j91 j92 j93 j94 j95 j96 j97 j98 j99 j100 j101 j102 j103 j104 j105 j106 j107 : AV) (H : List Ob) (kp : Ko) : awp Tryz.prog runnellaw7_known_ann runnellaw7_known_c7 (keepS [2, 3, 4, 5, 6, 7, 8, 9, 9999] 0 (j0 :: j1 :: j2 :: j3 :: j4 :: j5 :: j6 :: j7 :: j8 :: j9 :: j10 :: j11 :: j12 :: j13 :: j14 :: j15 :: j16 :: j17 :: j18 :: j19 :: j20 :: j21 :: j22 :: j23 :: j24 :: j25 :: j26 :: j27 :: j28 :: j29 :: j30 :: j31 :: j32 :: j33 :: j34 :: j35 :: j36 :: j37 :: j38 :: j39 :: j40 :: j41 :: j42 :: j43 :: j44 :: j45 :: j46 :: j47 :: j48 :: j49 :: j50 :: j51 :: j52 :: j53 :: j54 :: j55 :: j56 :: j57 :: j58 :: j59 :: j60 :: j61 :: j62 :: j63 :: j64 :: j65 :: j66 :: j67 :: j68 :: j69 :: j70 :: j71 :: j72 :: j73 :: j74 :: j75 :: j76 :: j77 :: j78 :: j79 :: j80 :: j81 :: j82 :: j83 :: j84 :: j85 :: j86 :: j87 :: j88 :: j89 :: j90 :: j91 :: j92 :: j93 :: j94 :: j95 :: j96 :: j97 :: j98 :: j99 :: j100 :: j101 :: j102 :: j103 :: j104 :: j105 :: j106 :: j107 :: [])) H kp = runnellaw7_known_P7 j2 j3 j4 j5 j6 j7 j8 j9 H (awp Tryz.prog runnellaw7_known_ann) kp :=
  (awpX_eq Tryz.prog runnellaw7_known_ann runnellaw7_known_cut runnellaw7_known_c7 (keepS [2, 3, 4, 5, 6, 7, 8, 9, 9999] 0 (j0 :: j1 :: j2 :: j3 :: j4 :: j5 :: j6 :: j7 :: j8 :: j9 :: j10 :: j11 :: j12 :: j13 :: j14 :: j15 :: j16 :: j17 :: j18 :: j19 :: j20 :: j21 :: j22 :: j23 :: j24 :: j25 :: j26 :: j27 :: j28 :: j29 :: j30 :: j31 :: j32 :: j33 :: j34 :: j35 :: j36 :: j37 :: j38 :: j39 :: j40 :: j41 :: j42 :: j43 :: j44 :: j45 :: j46 :: j47 :: j48 :: j49 :: j50 :: j51 :: j52 :: j53 :: j54 :: j55 :: j56 :: j57 :: j58 :: j59 :: j60 :: j61 :: j62 :: j63 :: j64 :: j65 :: j66 :: j67 :: j68 :: j69 :: j70 :: j71 :: j72 :: j73 :: j74 :: j75 :: j76 :: j77 :: j78 :: j79 :: j80 :: j81 :: j82 :: j83 :: j84 :: j85 :: j86 :: j87 :: j88 :: j89 :: j90 :: j91 :: j92 :: j93 :: j94 :: j95 :: j96 :: j97 :: j98 :: j99 :: j100 :: j101 :: j102 :: j103 :: j104 :: j105 :: j106 :: j107 :: [])) H kp).symm.trans (runnellaw7_known_P7_x j0 j1 j2 j3 j4 j5 j6 j7 j8 j9 j10 j11 j12 j13 j14 j15 j16 j17 j18 j19 j20 j21 j22 j23 j24 j25 j26 j27 j28 j29 j30 j31 j32 j33 j34 j35 j36 j37 j38 j39 j40 j41 j42 j43 j44 j45 j46 j47 j48 j49 j50 j51 j52 j53 j54 j55 j56 j57 j58 j59 j60 j61 j62 j63 j64 j65 j66 j67 j68 j69 j70 j71 j72 j73 j74 j75 j76 j77 j78 j79 j80 j81 j82 j83 j84 j85 j86 j87 j88 j89 j90 j91 j92 j93 j94 j95 j96 j97 j98 j99 j100 j101 j102 j103 j104 j105 j106 j107 H (awp Tryz.prog runnellaw7_known_ann) kp)

def runnellaw7_known_P8 (j2 j3 j4 j5 j6 j7 j8 j9 j11 : AV) (H : List Ob) (self : Code → List AV → List Ob → Ko → Prop) (kp : Ko) : Prop :=
  aAlloc [(.p (.int .i64 0)), (.p (.int .i64 0)), (.p (.bool false)), (.p (.str [])), (.full [])] H fun v60 h61 =>
  aLoad true 15 j7 h61 fun v62 =>
  aCallT Tryz.prog (.p (.func val_Int_i [])) [(.p (.int .i64 5))] fun v63 =>
  aCallT Tryz.prog (.p (.func op_Key_i [])) [v62, v63] fun v64 =>
  aExtract v64 0 fun v65 =>
  aExtract v64 1 fun v66 =>
  aStore 5 v60 v65 h61 fun _ h68 =>
  self runnellaw7_known_c9 (keepS [2, 3, 4, 5, 6, 7, 8, 9, 11, 12, 13, 9999] 0 (.top :: .top :: j2 :: j3 :: j4 :: j5 :: j6 :: j7 :: j8 :: j9 :: .top :: j11 :: v60 :: v66 :: .top :: .top :: .top :: .top :: .top :: .top :: .top :: .top :: .top :: .top :: .top :: .top :: .top :: .top :: .top :: .top :: .top :: .top :: .top :: .top :: .top :: .top :: .top :: .top :: .top :: .top :: .top :: .top :: .top :: .top :: .top :: .top :: .top :: v64 :: v62 :: v63 :: v64 :: v65 :: v66 :: .top :: .top :: .top :: .top :: .top :: .top :: .top :: .top :: .top :: .top :: .top :: .top :: .top :: .top :: .top :: .top :: .top :: .top :: .top :: .top :: .top :: .top :: .top :: .top :: .top :: .top :: .top :: .top :: .top :: .top :: .top :: .top :: .top :: .top :: .top :: .top :: .top :: .top :: .top :: .top :: .top :: .top :: .top :: .top :: .top :: .top :: .top :: .top :: .top :: .top :: .top :: .top :: .top :: .top :: .top :: [])) h68 kp

theorem runnellaw7_known_P8_x (j0 j1 j2 j3 j4 j5 j6 j7 j8 j9 j10 j11 j12 j13 j14 j15 j16 j17 j18 j19 j20 j21 j22 j23 j24 j25 j26 j27 j28 j29 j30 j31 j32 j33 j34 j35 j36 j37 j38 j39 j40 j41 j42 j43 j44 j45 j46 j47 j48 j49 j50 j51 j52 j53 j54 j55 j56 j57 j58 j59 j60 j61 j62 j63 j64 j65 j66 j67 j68 j69 j70 j71 j72 j73 j74 j75 j76 j77 j78 j79 j80 j81 j82 j83 j84 j85 j86 j87 j88 j89 j90 j91 j92 j93 j94 j95 j96 j97 j98 j99 j100 j101 j102 j103 j104 j105 j106 j107 : AV) (H : List Ob) (self : Code → List AV → List Ob → Ko → Prop) (kp : Ko) : awpX Tryz.prog runnellaw7_known_ann self runnellaw7_known_cut runnellaw7_known_c8 (keepS [2, 3, 4, 5, 6, 7, 8, 9, 11, 9999] 0 (j0 :: j1 :: j2 :: j3 :: j4 :: j5 :: j6 :: j7 :: j8 :: j9 :: j10 :: j11 :: j12 :: j13 :: j14 :: j15 :: j16 :: j17 :: j18 :: j19 :: j20 :: j21 :: j22 :: j23 :: j24 :: j25 :: j26 :: j27 :: j28 :: j29 :: j30 :: j31 :: j32 :: j33 :: j34 :: j35 :: j36 :: j37 :: j38 :: j39 :: j40 :: j41 :: j42 :: j43 :: j44 :: j45 :: j46 :: j47 :: j48 :: j49 :: j50 :: j51 :: j52 :: j53 :: j54 :: j55 :: j56 :: j57 :: j58 :: j59 :: j60 :: j61 :: j62 :: j63 :: j64 :: j65 :: j66 :: j67 :: j68 :: j69 :: j70 :: j71 :: j72 :: j73 :: j74 :: j75 :: j76 :: j77 :: j78 :: j79 :: j80 :: j81 :: j82 :: j83 :: j84 :: j85 :: j86 :: j87 :: j88 :: j89 :: j90 :: j91 :: j92 :: j93 :: j94 :: j95 :: j96 :: j97 :: j98 :: j99 :: j100 :: j101 :: j102 :: j103 :: j104 :: j105 :: j106 :: j107 :: [])) H kp = runnellaw7_known_P8 j2 j3 j4 j5 j6 j7 j8 j9 j11 H self kp := by kernel_rfl

theorem runnellaw7_known_c8_eq (j0 j1 j2 j3 j4 j5 j6 j7 j8 j9 j10 j11 j12 j13 j14 j15 j16 j17 j18 j19 j20 j21 j22 j23 j24 j25 j26 j27 j28 j29 j30 j31 j32 j33 j34 j35 j36 j37 j38 j39 j40 j41 j42 j43 j44 j45 j46 j47 j48 j49 j50 j51 j52 j53 j54 j55 j56 j57 j58 j59 j60 j61 j62 j63 j64 j65 j66 j67 j68 j69 j70 j71 j72 j73 j74 j75 j76 j77 j78 j79 j80 j81 j82 j83 j84 j85 j86 j87 j88 j89 j90 j91 j92 j93 j94 j95 j96 j97 j98 j99 j100 j101 j102 j103 j104 j105 j106 j107 : AV) (H : List Ob) (kp : Ko) : awp Tryz.prog runnellaw7_known_ann runnellaw7_known_c8 (keepS [2, 3, 4, 5, 6, 7, 8, 9, 11, 9999] 0 (j0 :: j1 :: j2 :: j3 :: j4 :: j5 :: j6 :: j7 :: j8 :: j9 :: j10 :: j11 :: j12 :: j13 :: j14 :: j15 :: j16 :: j17 :: j18 :: j19 :: j20 :: j21 :: j22 :: j23 :: j24 :: j25 :: j26 :: j27 :: j28 :: j29 :: j30 :: j31 :: j32 :: j33 :: j34 :: j35 :: j36 :: j37 :: j38 :: j39 :: j40 :: j41 :: j42 :: j43 :: j44 :: j45 :: j46 :: j47 :: j48 :: j49 :: j50 :: j51 :: j52 :: j53 :: j54 :: j55 :: j56 :: j57 :: j58 :: j59 :: j60 :: j61 :: j62 :: j63 :: j64 :: j65 :: j66 :: j67 :: j68 :: j69 :: j70 :: j71 :: j72 :: j73 :: j74 :: j75 :: j76 :: j77 :: j78 :: j79 :: j80 :: j81 :: j82 :: j83 :: j84 :: j85 :: j86 :: j87 :: j88 :: j89 :: j90 :: j91 :: j92 :: j93 :: j94 :: j95 :: j96 :: j97 :: j98 :: j99 :: j100 :: j101 :: j102 :: j103 :: j104 :: j105 :: j106 :: j107 :: [])) H kp = runnellaw7_known_P8 j2 j3 j4 j5 j6 j7 j8 j9 j11 H (awp Tryz.prog runnellaw7_known_ann) kp :=
  (awpX_eq Tryz.prog runnellaw7_known_ann runnellaw7_known_cut runnellaw7_known_c8 (keepS [2, 3, 4, 5, 6, 7, 8, 9, 11, 9999] 0 (j0 :: j1 :: j2 :: j3 :: j4 :: j5 :: j6 :: j7 :: j8 :: j9 :: j10 :: j11 :: j12 :: j13 :: j14 :: j15 :: j16 :: j17 :: j18 :: j19 :: j20 :: j21 :: j22 :: j23 :: j24 :: j25 :: j26 :: j27 :: j28 :: j29 :: j30 :: j31 :: j32 :: j33 :: j34 :: j35 :: j36 :: j37 :: j38 :: j39 :: j40 :: j41 :: j42 :: j43 :: j44 :: j45 :: j46 :: j47 :: j48 :: j49 :: j50 :: j51 :: j52 :: j53 :: j54 :: j55 :: j56 :: j57 :: j58 :: j59 :: j60 :: j61 :: j62 :: j63 :: j64 :: j65 :: j66 :: j67 :: j68 :: j69 :: j70 :: j71 :: j72 :: j73 :: j74 :: j75 :: j76 :: j77 :: j78 :: j79 :: j80 :: j81 :: j82 :: j83 :: j84 :: j85 :: j86 :: j87 :: j88 :: j89 :: j90 :: j91 :: j92 :: j93 :: j94 :: j95 :: j96 :: j97 :: j98 :: j99 :: j100 :: j101 :: j102 :: j103 :: j104 :: j105 :: j106 :: j107 :: [])) H kp).symm.trans (runnellaw7_known_P8_x j0 j1 j2 j3 j4 j5 j6 j7 j8 j9 j10 j11 j12 j13 j14 j15 j16 j17 j18 j19 j20 j21 j22 j23 j24 j25 j26 j27 j28 j29 j30 j31 j32 j33 j34 j35 j36 j37 j38 j39 j40 j41 j42 j43 j44 j45 j46 j47 j48 j49 j50 j51 j52 j53 j54 j55 j56 j57 j58 j59 j60 j61 j62 j63 j64 j65 j66 j67 j68 j69 j70 j71 j72 j73 j74 j75 j76 j77 j78 j79 j80 j81 j82 j83 j84 j85 j86 j87 j88 j89 j90 j91 j92 j93 j94 j95 j96 j97 j98 j99 j100 j101 j102 j103 j104 j105 j106 j107 H (awp Tryz.prog runnellaw7_known_ann) kp)

def runnellaw7_known_P9 (j2 j3 j4 j5 j6 j7 j8 j9 j11 j12 j13 : AV) (H : List Ob) (_ : Code → List AV → List Ob → Ko → Prop) (kp : Ko) : Prop :=
  aBin false false .add j4 j6 fun v69 =>
  aBin false false .add v69 j9 fun v70 =>
  aBin false false .add v70 j13 fun v71 =>
  aBin false false .eql v71 (.p (.int .i64 0)) fun v72 =>
  aMerge true v72 (fun Q73 =>
  aFieldAddr 0 j3 fun v74 =>
  aLoad false 1 v74 H fun v75 =>
  aBin false false .eql v75 (.p (.int .i64 1)) fun v76 =>
  (H = H ∧ Q73 v76)) fun v77 =>
  aMerge true v77 (fun Q78 =>
  aLenS false j5 fun v79 =>
  aBin false false .eql v79 (.p (.int .i64 2)) fun v80 =>
  (H = H ∧ Q78 v80)) fun v81 =>
  aMerge true v81 (fun Q82 =>
  aIndexAddr 5 j5 (.p (.int .i64 1)) fun v83 =>
  aFieldAddr 1 v83 fun v84 =>
  aLoad false 1 v84 H fun v85 =>
  aBin false false .eql v85 (.p (.int .i64 7)) fun v86 =>
  (H = H ∧ Q82 v86)) fun v87 =>
  aMerge true v87 (fun Q88 =>
  aLoad true 2 j8 H fun v89 =>
  aCall Tryz.prog (.p (.func typ_Text_i [])) [v89] H fun v90 h91 =>
  aBin false false .eql v90 (.p (.str [40, 105, 110, 116, 44, 105, 110, 116, 41])) fun v92 =>
  (h91 = H ∧ Q88 v92)) fun v93 =>
  aMerge true v93 (fun Q94 =>
  aBin false false .eql j11 (.p (.int .i64 6)) fun v95 =>
  (H = H ∧ Q94 v95)) fun v96 =>
  aMerge true v96 (fun Q97 =>
  aLoad true 15 j7 H fun v98 =>
  aCall Tryz.prog (.p (.func op_Keyed_i [])) [v98] H fun v99 h100 =>
  (h100 = H ∧ Q97 v99)) fun v101 =>
  aMerge true v101 (fun Q102 =>
  aLoad true 15 j2 H fun v103 =>
  aCall Tryz.prog (.p (.func op_Keyed_i [])) [v103] H fun v104 h105 =>
  aUn .not v104 fun v106 =>
  (h105 = H ∧ Q102 v106)) fun v107 =>
  aMerge true v107 (fun Q108 =>
  aFieldAddr 1 j12 fun v109 =>
  aLoad false 1 v109 H fun v110 =>
  aBin false false .eql v110 (.p (.int .i64 5)) fun v111 =>
  (H = H ∧ Q108 v111)) fun v112 =>
  aMerge true v112 (fun Q113 =>
  aCall Tryz.prog (.p (.func op_Name_i [])) [(.p (.str [97, 95, 49]))] H fun v114 h115 =>
  (h115 = H ∧ Q113 v114)) fun v116 =>
  aMerge true v116 (fun Q117 =>
  aCall Tryz.prog (.p (.func op_Name_i [])) [(.p (.str [49, 97]))] H fun v118 h119 =>
  aUn .not v118 fun v120 =>
  (h119 = H ∧ Q117 v120)) fun v121 =>
  kp .ret (v121 :: .top :: j2 :: j3 :: j4 :: j5 :: j6 :: j7 :: j8 :: j9 :: .top :: j11 :: j12 :: j13 :: .top :: .top :: .top :: .top :: .top :: .top :: .top :: .top :: .top :: .top :: .top :: .top :: .top :: .top :: .top :: .top :: .top :: .top :: .top :: .top :: .top :: .top :: .top :: .top :: .top :: .top :: .top :: .top :: .top :: .top :: .top :: .top :: .top :: .top :: .top :: .top :: .top :: .top :: .top :: j4 :: j6 :: v69 :: j9 :: v70 :: j13 :: v71 :: v72 :: v72 :: .top :: .top :: .top :: v77 :: v77 :: .top :: .top :: .top :: v81 :: v81 :: .top :: .top :: .top :: .top :: .top :: v87 :: v87 :: .top :: .top :: .top :: v93 :: v93 :: .top :: .top :: v96 :: v96 :: .top :: .top :: v101 :: v101 :: .top :: .top :: .top :: v107 :: v107 :: .top :: .top :: .top :: v112 :: v112 :: .top :: v116 :: v116 :: .top :: .top :: v121 :: []) H

theorem runnellaw7_known_P9_x (j0 j1 j2 j3 j4 j5 j6 j7 j8 j9 j10 j11 j12 j13 j14 j15 j16 j17 j18 j19 j20 j21 j22 j23 j24 j25 j26 j27 j28 j29 j30 j31 j32 j33 j34 j35 j36 j37 j38 j39 j40 j41 j42 j43 j44 j45 j46 j47 j48 j49 j50 j51 j52 j53 j54 j55 j56 j57 j58 j59 j60 j61 j62 j63 j64 j65 j66 j67 j68 j69 j70 j71 j72 j73 j74 j75 j76 j77 j78 j79 j80 j81 j82 j83 j84 j85 j86 j87 j88 j89 j90 j91 j92 j93 j94 j95 j96 j97 j98 j99 j100 j101 j102 j103 j104 j105 j106 j107 : AV) (H : List Ob) (self : Code → List AV → List Ob → Ko → Prop) (kp : Ko) : awpX Tryz.prog runnellaw7_known_ann self runnellaw7_known_cut runnellaw7_known_c9 (keepS [2, 3, 4, 5, 6, 7, 8, 9, 11, 12, 13, 9999] 0 (j0 :: j1 :: j2 :: j3 :: j4 :: j5 :: j6 :: j7 :: j8 :: j9 :: j10 :: j11 :: j12 :: j13 :: j14 :: j15 :: j16 :: j17 :: j18 :: j19 :: j20 :: j21 :: j22 :: j23 :: j24 :: j25 :: j26 :: j27 :: j28 :: j29 :: j30 :: j31 :: j32 :: j33 :: j34 :: j35 :: j36 :: j37 :: j38 :: j39 :: j40 :: j41 :: j42 :: j43 :: j44 :: j45 :: j46 :: j47 :: j48 :: j49 :: j50 :: j51 :: j52 :: j53 :: j54 :: j55 :: j56 :: j57 :: j58 :: j59 :: j60 :: j61 :: j62 :: j63 :: j64 :: j65 :: j66 :: j67 :: j68 :: j69 :: j70 :: j71 :: j72 :: j73 :: j74 :: j75 :: j76 :: j77 :: j78 :: j79 :: j80 :: j81 :: j82 :: j83 :: j84 :: j85 :: j86 :: j87 :: j88 :: j89 :: j90 :: j91 :: j92 :: j93 :: j94 :: j95 :: j96 :: j97 :: j98 :: j99 :: j100 :: j101 :: j102 :: j103 :: j104 :: j105 :: j106 :: j107 :: [])) H kp = runnellaw7_known_P9 j2 j3 j4 j5 j6 j7 j8 j9 j11 j12 j13 H self kp := by kernel_rfl

theorem runnellaw7_known_c9_eq (j0 j1 j2 j3 j4 j5 j6 j7 j8 j9 j10 j11 j12 j13 j14 j15 j16 j17 j18 j19 j20 j21 j22 j23 j24 j25 j26 j27 j28 j29 j30 j31 j32 j33 j34 j35 j36 j37 j38 j39 j40 j41 j42 j43 j44 j45 j46 j47 j48 j49 j50 j51 j52 j53 j54 j55 j56 j57 j58 j59 j60 j61 j62 j63 j64 j65 j66 j67 j68 j69 j70 j71 j72 j73 j74 j75 j76 j77 j78 j79 j80 j81 j82 j83 j84 j85 j86 j87 j88 j89 j90 j91 j92 j93 j94 j95 j96 j97 j98 j99 j100 j101 j102 j103 j104 j105 j106 j107 : AV) (H : List Ob) (kp : Ko) : awp Tryz.prog runnellaw7_known_ann runnellaw7_known_c9 (keepS [2, 3, 4, 5, 6, 7, 8, 9, 11, 12, 13, 9999] 0 (j0 :: j1 :: j2 :: j3 :: j4 :: j5 :: j6 :: j7 :: j8 :: j9 :: j10 :: j11 :: j12 :: j13 :: j14 :: j15 :: j16 :: j17 :: j18 :: j19 :: j20 :: j21 :: j22 :: j23 :: j24 :: j25 :: j26 :: j27 :: j28 :: j29 :: j30 :: j31 :: j32 :: j33 :: j34 :: j35 :: j36 :: j37 :: j38 :: j39 :: j40 :: j41 :: j42 :: j43 :: j44 :: j45 :: j46 :: j47 :: j48 :: j49 :: j50 :: j51 :: j52 :: j53 :: j54 :: j55 :: j56 :: j57 :: j58 :: j59 :: j60 :: j61 :: j62 :: j63 :: j64 :: j65 :: j66 :: j67 :: j68 :: j69 :: j70 :: j71 :: j72 :: j73 :: j74 :: j75 :: j76 :: j77 :: j78 :: j79 :: j80 :: j81 :: j82 :: j83 :: j84 :: j85 :: j86 :: j87 :: j88 :: j89 :: j90 :: j91 :: j92 :: j93 :: j94 :: j95 :: j96 :: j97 :: j98 :: j99 :: j100 :: j101 :: j102 :: j103 :: j104 :: j105 :: j106 :: j107 :: [])) H kp = runnellaw7_known_P9 j2 j3 j4 j5 j6 j7 j8 j9 j11 j12 j13 H (awp Tryz.prog runnellaw7_known_ann) kp :=
  (awpX_eq Tryz.prog runnellaw7_known_ann runnellaw7_known_cut runnellaw7_known_c9 (keepS [2, 3, 4, 5, 6, 7, 8, 9, 11, 12, 13, 9999] 0 (j0 :: j1 :: j2 :: j3 :: j4 :: j5 :: j6 :: j7 :: j8 :: j9 :: j10 :: j11 :: j12 :: j13 :: j14 :: j15 :: j16 :: j17 :: j18 :: j19 :: j20 :: j21 :: j22 :: j23 :: j24 :: j25 :: j26 :: j27 :: j28 :: j29 :: j30 :: j31 :: j32 :: j33 :: j34 :: j35 :: j36 :: j37 :: j38 :: j39 :: j40 :: j41 :: j42 :: j43 :: j44 :: j45 :: j46 :: j47 :: j48 :: j49 :: j50 :: j51 :: j52 :: j53 :: j54 :: j55 :: j56 :: j57 :: j58 :: j59 :: j60 :: j61 :: j62 :: j63 :: j64 :: j65 :: j66 :: j67 :: j68 :: j69 :: j70 :: j71 :: j72 :: j73 :: j74 :: j75 :: j76 :: j77 :: j78 :: j79 :: j80 :: j81 :: j82 :: j83 :: j84 :: j85 :: j86 :: j87 :: j88 :: j89 :: j90 :: j91 :: j92 :: j93 :: j94 :: j95 :: j96 :: j97 :: j98 :: j99 :: j100 :: j101 :: j102 :: j103 :: j104 :: j105 :: j106 :: j107 :: [])) H kp).symm.trans (runnellaw7_known_P9_x j0 j1 j2 j3 j4 j5 j6 j7 j8 j9 j10 j11 j12 j13 j14 j15 j16 j17 j18 j19 j20 j21 j22 j23 j24 j25 j26 j27 j28 j29 j30 j31 j32 j33 j34 j35 j36 j37 j38 j39 j40 j41 j42 j43 j44 j45 j46 j47 j48 j49 j50 j51 j52 j53 j54 j55 j56 j57 j58 j59 j60 j61 j62 j63 j64 j65 j66 j67 j68 j69 j70 j71 j72 j73 j74 j75 j76 j77 j78 j79 j80 j81 j82 j83 j84 j85 j86 j87 j88 j89 j90 j91 j92 j93 j94 j95 j96 j97 j98 j99 j100 j101 j102 j103 j104 j105 j106 j107 H (awp Tryz.prog runnellaw7_known_ann) kp)


end Go.Proofs.YtklnalofcjagnaaGreat
end

section
/- Made by program (Gen.lean): functions of the dump, over trees. -/
set_option maxRecDepth 4000
set_option linter.unusedVariables false
namespace Go.Proofs.YtklnalofcjagnaaGreat
open Go Go.Abs

/- runnel/runnelref10.Out -/
def runnelref10_Out_L2 (q2s1 q2s2 q2s4 q2s7 y0 y1 : AV) (H : List Ob) (B2 : List AV → List Ob → Prop) (K : AV → List Ob → Prop) : Prop :=
  aFieldAddr 4 q2s2 fun v84 =>
  aLoad false 1 v84 H fun v85 =>
  aLen false false v85 fun v86 =>
  aBin false false .lss y1 v86 fun v87 =>
  aGuard v87
  (aAlloc [(.p (.int .i64 0)), (.full [])] H fun v88 h89 =>
  aFieldAddr 4 q2s2 fun v90 =>
  aLoad false 1 v90 h89 fun v91 =>
  aIndexAddr 8 v91 y1 fun v92 =>
  aLoad true 8 v92 h89 fun v93 =>
  aIndexAddr 2 q2s1 (.p (.int .i64 0)) fun v94 =>
  aLoad true 2 v94 h89 fun v95 =>
  aCallT Tryz.prog (.p (.func runnelref6_CheckExpr_i [])) [v93, v95] fun v96 =>
  aExtract v96 0 fun v97 =>
  aExtract v96 1 fun v98 =>
  aStore 2 v88 v97 h89 fun _ h100 =>
  aBin false false .neq v98 (.p (.int .i64 0)) fun v101 =>
  aGuard v101
  (aBuild [(.p (.int .i64 0)), (.full [])] [] fun v102 =>
  aStore 2 q2s4 v102 h100 fun _ h104 =>
  aLoad true 2 q2s4 h104 fun v105 =>
  K (.tup [v105, v98]) h104)
  (aLoad true 2 v88 h100 fun v106 =>
  aBuildSlice 2 [v106] fun v107 =>
  aAppend false 2 32 y0 v107 h100 fun v108 h109 =>
  aBin false false .add y1 (.p (.int .i64 1)) fun v110 =>
  B2 [v108, v110] h109))
  (aLoad true 15 q2s2 H fun v111 =>
  aLoad true 2 q2s7 H fun v112 =>
  aCall Tryz.prog (.p (.func runnelref10_made_i [])) [v111, q2s1, v112, y0] H fun v113 h114 =>
  aExtract v113 0 fun v115 =>
  aExtract v113 1 fun v116 =>
  aStore 2 q2s4 v115 h114 fun _ h118 =>
  aLoad true 2 q2s4 h118 fun v119 =>
  K (.tup [v119, v116]) h118)

def runnelref10_Out_J1 (j1s1 j1s2 j1s4 j1s7 : AV) (H : List Ob) (K : AV → List Ob → Prop) : Prop :=
  aLoopN 2 [(.full []), (.p (.int .i64 0))] H fun xs H B2 => runnelref10_Out_L2 j1s1 j1s2 j1s4 j1s7 (xs.getD 0 .top) (xs.getD 1 .top) H B2 K

def runnelref10_Out_L1 (q1s1 q1s2 q1s4 y0 : AV) (H : List Ob) (B1 : List AV → List Ob → Prop) (K : AV → List Ob → Prop) : Prop :=
  aLen false false q1s1 fun v50 =>
  aBin false false .lss y0 v50 fun v51 =>
  aGuard v51
  (aIndexAddr 2 q1s1 y0 fun v52 =>
  aLoad true 2 v52 H fun v53 =>
  aCall Tryz.prog (.p (.func runnelref6_CheckType_i [])) [v53] H fun v54 h55 =>
  aBin false false .neq v54 (.p (.int .i64 0)) fun v56 =>
  aGuard v56
  (aBuild [(.p (.int .i64 0)), (.full [])] [] fun v57 =>
  aStore 2 q1s4 v57 h55 fun _ h59 =>
  aLoad true 2 q1s4 h59 fun v60 =>
  K (.tup [v60, (.p (.int .i64 5))]) h59)
  (aBin false false .add y0 (.p (.int .i64 1)) fun v61 =>
  B1 [v61] h55))
  (aFieldAddr 0 q1s2 fun v62 =>
  aLoad false 1 v62 H fun v63 =>
  aBin false false .eql v63 (.p (.int .i64 1)) fun v64 =>
  aGuard v64
  (aFieldAddr 2 q1s2 fun v65 =>
  aLoad true 2 v65 H fun v66 =>
  aCall Tryz.prog (.p (.func runnelref6_CheckType_i [])) [v66] H fun v67 h68 =>
  aBin false false .neq v67 (.p (.int .i64 0)) fun v69 =>
  aGuard v69
  (aBuild [(.p (.int .i64 0)), (.full [])] [] fun v70 =>
  aStore 2 q1s4 v70 h68 fun _ h72 =>
  aLoad true 2 q1s4 h72 fun v73 =>
  K (.tup [v73, (.p (.int .i64 5))]) h72)
  (aFieldAddr 2 q1s2 fun v74 =>
  aLoad true 2 v74 h68 fun v75 =>
  aStore 2 q1s4 v75 h68 fun _ h77 =>
  aLoad true 2 q1s4 h77 fun v78 =>
  K (.tup [v78, (.p (.int .i64 0))]) h77))
  (aBuild [(.p (.int .i64 0)), (.full [])] [] fun v79 =>
  aAlloc [(.p (.int .i64 0)), (.full [])] H fun v80 h81 =>
  aStore 2 v80 v79 h81 fun _ h83 =>
  aLoad true 15 q1s2 h83 fun v120 =>
  aCall Tryz.prog (.p (.func runnelref10_Keyed_i [])) [v120] h83 fun v121 h122 =>
  aGuard v121
  (aAlloc [(.p (.int .i64 0)), (.full [])] h122 fun v123 h124 =>
  aFieldAddr 5 q1s2 fun v125 =>
  aLoad true 8 v125 h124 fun v126 =>
  aIndexAddr 2 q1s1 (.p (.int .i64 0)) fun v127 =>
  aLoad true 2 v127 h124 fun v128 =>
  aCallT Tryz.prog (.p (.func runnelref6_CheckExpr_i [])) [v126, v128] fun v129 =>
  aExtract v129 0 fun v130 =>
  aExtract v129 1 fun v131 =>
  aStore 2 v123 v130 h124 fun _ h133 =>
  aBin false false .neq v131 (.p (.int .i64 0)) fun v134 =>
  aGuard v134
  (aBuild [(.p (.int .i64 0)), (.full [])] [] fun v135 =>
  aStore 2 q1s4 v135 h133 fun _ h137 =>
  aLoad true 2 q1s4 h137 fun v138 =>
  K (.tup [v138, v131]) h137)
  (aLoad true 2 v123 h133 fun v139 =>
  aStore 2 v80 v139 h133 fun _ h141 =>
  runnelref10_Out_J1 q1s1 q1s2 q1s4 v80 h141 K))
  (runnelref10_Out_J1 q1s1 q1s2 q1s4 v80 h122 K)))

def runnelref10_Out (x0 x1 : AV) (H : List Ob) (K : AV → List Ob → Prop) : Prop :=
  aBox x0 H fun v0 h1 =>
  aAlloc [(.p (.int .i64 0)), (.full [])] h1 fun v2 h3 =>
  aFieldAddr 0 v0 fun v4 =>
  aLoad false 1 v4 h3 fun v5 =>
  aBin false false .lss v5 (.p (.int .i64 1)) fun v6 =>
  aMerge false v6 (fun Q7 =>
  aFieldAddr 0 v0 fun v8 =>
  aLoad false 1 v8 h3 fun v9 =>
  aBin false false .gtr v9 (.p (.int .i64 9)) fun v10 =>
  (h3 = h3 ∧ Q7 v10)) fun v11 =>
  aGuard v11
  (aBuild [(.p (.int .i64 0)), (.full [])] [] fun v12 =>
  aStore 2 v2 v12 h3 fun _ h14 =>
  aLoad true 2 v2 h14 fun v15 =>
  K (.tup [v15, (.p (.int .i64 6))]) h14)
  (aFieldAddr 0 v0 fun v16 =>
  aLoad false 1 v16 h3 fun v17 =>
  aBin false false .eql v17 (.p (.int .i64 1)) fun v18 =>
  aMerge false v18 (fun Q19 =>
  aFieldAddr 0 v0 fun v20 =>
  aLoad false 1 v20 h3 fun v21 =>
  aBin false false .eql v21 (.p (.int .i64 9)) fun v22 =>
  (h3 = h3 ∧ Q19 v22)) fun v23 =>
  aMerge true v23 (fun Q24 =>
  aFieldAddr 1 v0 fun v25 =>
  aLoad false 1 v25 h3 fun v26 =>
  aCall Tryz.prog (.p (.func runnelref10_Good_i [])) [v26] h3 fun v27 h28 =>
  aUn .not v27 fun v29 =>
  (h28 = h3 ∧ Q24 v29)) fun v30 =>
  aGuard v30
  (aBuild [(.p (.int .i64 0)), (.full [])] [] fun v31 =>
  aStore 2 v2 v31 h3 fun _ h33 =>
  aLoad true 2 v2 h33 fun v34 =>
  K (.tup [v34, (.p (.int .i64 6))]) h33)
  (aLoad true 15 v0 h3 fun v35 =>
  aCall Tryz.prog (.p (.func runnelref10_fields_i [])) [v35] h3 fun v36 h37 =>
  aMerge false v36 (fun Q38 =>
  aFieldAddr 0 v0 fun v39 =>
  aLoad false 1 v39 h37 fun v40 =>
  aLenS false x1 fun v41 =>
  aCall Tryz.prog (.p (.func runnelref10_ins_i [])) [v40, v41] h37 fun v42 h43 =>
  aUn .not v42 fun v44 =>
  (h43 = h37 ∧ Q38 v44)) fun v45 =>
  aGuard v45
  (aBuild [(.p (.int .i64 0)), (.full [])] [] fun v46 =>
  aStore 2 v2 v46 h37 fun _ h48 =>
  aLoad true 2 v2 h48 fun v49 =>
  K (.tup [v49, (.p (.int .i64 1))]) h48)
  (aLoopN 1 [(.p (.int .i64 0))] h37 fun xs H B1 => runnelref10_Out_L1 x1 v0 v2 (xs.getD 0 .top) H B1 K)))

def runnelref10_Out_ann : Nat → List Nat := fun k => match k with | 8 => [6] | 24 => [10, 11] | _ => []

theorem runnelref10_Out_eq (x0 x1 : AV) (H : List Ob) (r : AV) (Ho : List Ob) : aBody Tryz.prog runnelref10_Out_ann Tryz.f9 H [x0, x1] r Ho = runnelref10_Out x0 x1 H (fun v H' => Gives H.length v H' r Ho) := by kernel_rfl

theorem runnelref10_Out_fnH {x0 x1 : AV} {Hin : List Ob} {r : AV} {Ho : List Ob} (h : runnelref10_Out x0 x1 Hin (fun v H' => Gives Hin.length v H' r Ho)) : Abs.Fn Tryz.prog runnelref10_Out_i Hin [x0, x1] r Ho :=
  fn_intro mixed runnelref10_Out_ann (fn := Tryz.f9) (by kernel_rfl) (by kernel_rfl) (by rw [runnelref10_Out_eq]; exact h)

theorem runnelref10_Out_fn {x0 x1 : AV} {r : AV} {Ho : List Ob} (h : runnelref10_Out x0 x1 [] (fun v H' => Gives 0 v H' r Ho)) : Abs.Fn Tryz.prog runnelref10_Out_i [] [x0, x1] r Ho := runnelref10_Out_fnH (Hin := []) h

/- runnel/runnelref10.Apply -/
def runnelref10_Apply_L1 (q1s2 q1s3 y0 y1 : AV) (H : List Ob) (B1 : List AV → List Ob → Prop) (K : AV → List Ob → Prop) : Prop :=
  aFieldAddr 4 q1s2 fun v19 =>
  aLoad false 1 v19 H fun v20 =>
  aLen false false v20 fun v21 =>
  aBin false false .lss y1 v21 fun v22 =>
  aGuard v22
  (aAlloc [(.p (.int .i64 0)), (.p (.int .i64 0)), (.p (.bool false)), (.p (.str [])), (.full [])] H fun v23 h24 =>
  aFieldAddr 4 q1s2 fun v25 =>
  aLoad false 1 v25 h24 fun v26 =>
  aIndexAddr 8 v26 y1 fun v27 =>
  aLoad true 8 v27 h24 fun v28 =>
  aLoad true 5 q1s3 h24 fun v29 =>
  aCallT Tryz.prog (.p (.func runnelref6_Eval_i [])) [v28, v29] fun v30 =>
  aExtract v30 0 fun v31 =>
  aExtract v30 1 fun v32 =>
  aStore 5 v23 v31 h24 fun _ h34 =>
  aBin false false .neq v32 (.p (.int .i64 0)) fun v35 =>
  aGuard v35
  (K (.tup [(.full []), v32]) h34)
  (aLoad true 5 v23 h34 fun v36 =>
  aBuildSlice 5 [v36] fun v37 =>
  aAppend false 5 64 y0 v37 h34 fun v38 h39 =>
  aBin false false .add y1 (.p (.int .i64 1)) fun v40 =>
  B1 [v38, v40] h39))
  (aFieldAddr 0 q1s2 fun v41 =>
  aLoad false 1 v41 H fun v42 =>
  aBin false false .eql v42 (.p (.int .i64 3)) fun v43 =>
  aGuard v43
  (aIndexAddr 5 y0 (.p (.int .i64 0)) fun v44 =>
  aFieldAddr 2 v44 fun v45 =>
  aLoad false 1 v45 H fun v46 =>
  aUn .not v46 fun v47 =>
  aGuard v47
  (K (.tup [(.full []), (.p (.int .i64 0))]) H)
  (aLoad true 5 q1s3 H fun v48 =>
  aBuildSlice 5 [v48] fun v49 =>
  K (.tup [v49, (.p (.int .i64 0))]) H))
  (K (.tup [y0, (.p (.int .i64 0))]) H))

def runnelref10_Apply (x0 x1 : AV) (H : List Ob) (K : AV → List Ob → Prop) : Prop :=
  aBox x0 H fun v0 h1 =>
  aBox x1 h1 fun v2 h3 =>
  aFieldAddr 0 v0 fun v4 =>
  aLoad false 1 v4 h3 fun v5 =>
  aBin false false .neq v5 (.p (.int .i64 2)) fun v6 =>
  aMerge true v6 (fun Q7 =>
  aFieldAddr 0 v0 fun v8 =>
  aLoad false 1 v8 h3 fun v9 =>
  aBin false false .neq v9 (.p (.int .i64 3)) fun v10 =>
  (h3 = h3 ∧ Q7 v10)) fun v11 =>
  aMerge true v11 (fun Q12 =>
  aFieldAddr 0 v0 fun v13 =>
  aLoad false 1 v13 h3 fun v14 =>
  aBin false false .neq v14 (.p (.int .i64 4)) fun v15 =>
  (h3 = h3 ∧ Q12 v15)) fun v16 =>
  aGuard v16
  (aLoad true 5 v2 h3 fun v17 =>
  aBuildSlice 5 [v17] fun v18 =>
  K (.tup [v18, (.p (.int .i64 0))]) h3)
  (aLoopN 2 [(.full []), (.p (.int .i64 0))] h3 fun xs H B1 => runnelref10_Apply_L1 v0 v2 (xs.getD 0 .top) (xs.getD 1 .top) H B1 K)

def runnelref10_Apply_ann : Nat → List Nat := fun k => match k with | 5 => [6, 7] | _ => []

theorem runnelref10_Apply_eq (x0 x1 : AV) (H : List Ob) (r : AV) (Ho : List Ob) : aBody Tryz.prog runnelref10_Apply_ann Tryz.f12 H [x0, x1] r Ho = runnelref10_Apply x0 x1 H (fun v H' => Gives H.length v H' r Ho) := by kernel_rfl

theorem runnelref10_Apply_fnH {x0 x1 : AV} {Hin : List Ob} {r : AV} {Ho : List Ob} (h : runnelref10_Apply x0 x1 Hin (fun v H' => Gives Hin.length v H' r Ho)) : Abs.Fn Tryz.prog runnelref10_Apply_i Hin [x0, x1] r Ho :=
  fn_intro mixed runnelref10_Apply_ann (fn := Tryz.f12) (by kernel_rfl) (by kernel_rfl) (by rw [runnelref10_Apply_eq]; exact h)

theorem runnelref10_Apply_fn {x0 x1 : AV} {r : AV} {Ho : List Ob} (h : runnelref10_Apply x0 x1 [] (fun v H' => Gives 0 v H' r Ho)) : Abs.Fn Tryz.prog runnelref10_Apply_i [] [x0, x1] r Ho := runnelref10_Apply_fnH (Hin := []) h

/- runnel/runnelref10.Keyed -/
def runnelref10_Keyed (x0 : AV) (H : List Ob) (K : AV → List Ob → Prop) : Prop :=
  aBox x0 H fun v0 h1 =>
  aFieldAddr 0 v0 fun v2 =>
  aLoad false 1 v2 h1 fun v3 =>
  aBin false false .eql v3 (.p (.int .i64 5)) fun v4 =>
  aMerge false v4 (fun Q5 =>
  aFieldAddr 0 v0 fun v6 =>
  aLoad false 1 v6 h1 fun v7 =>
  aBin false false .eql v7 (.p (.int .i64 6)) fun v8 =>
  (h1 = h1 ∧ Q5 v8)) fun v9 =>
  aMerge false v9 (fun Q10 =>
  aFieldAddr 0 v0 fun v11 =>
  aLoad false 1 v11 h1 fun v12 =>
  aBin false false .eql v12 (.p (.int .i64 7)) fun v13 =>
  (h1 = h1 ∧ Q10 v13)) fun v14 =>
  K v14 h1

def runnelref10_Keyed_ann : Nat → List Nat := fun _ => []

theorem runnelref10_Keyed_eq (x0 : AV) (H : List Ob) (r : AV) (Ho : List Ob) : aBody Tryz.prog runnelref10_Keyed_ann Tryz.f14 H [x0] r Ho = runnelref10_Keyed x0 H (fun v H' => Gives H.length v H' r Ho) := by kernel_rfl

theorem runnelref10_Keyed_fnH {x0 : AV} {Hin : List Ob} {r : AV} {Ho : List Ob} (h : runnelref10_Keyed x0 Hin (fun v H' => Gives Hin.length v H' r Ho)) : Abs.Fn Tryz.prog runnelref10_Keyed_i Hin [x0] r Ho :=
  fn_intro mixed runnelref10_Keyed_ann (fn := Tryz.f14) (by kernel_rfl) (by kernel_rfl) (by rw [runnelref10_Keyed_eq]; exact h)

theorem runnelref10_Keyed_fn {x0 : AV} {r : AV} {Ho : List Ob} (h : runnelref10_Keyed x0 [] (fun v H' => Gives 0 v H' r Ho)) : Abs.Fn Tryz.prog runnelref10_Keyed_i [] [x0] r Ho := runnelref10_Keyed_fnH (Hin := []) h

/- runnel/runnelref10.Good -/
def runnelref10_Good_L1 (q1s0 y0 : AV) (H : List Ob) (B1 : List AV → List Ob → Prop) (K : AV → List Ob → Prop) : Prop :=
  aLen false true q1s0 fun v14 =>
  aBin false false .lss y0 v14 fun v15 =>
  aGuard v15
  (aIndex q1s0 y0 fun v16 =>
  aBin false false .lss v16 (.p (.int .u8 97)) fun v17 =>
  aMerge false v17 (fun Q18 =>
  aIndex q1s0 y0 fun v19 =>
  aBin false false .gtr v19 (.p (.int .u8 122)) fun v20 =>
  (H = H ∧ Q18 v20)) fun v21 =>
  aMerge true v21 (fun Q22 =>
  aIndex q1s0 y0 fun v23 =>
  aBin false false .lss v23 (.p (.int .u8 48)) fun v24 =>
  aMerge false v24 (fun Q25 =>
  aIndex q1s0 y0 fun v26 =>
  aBin false false .gtr v26 (.p (.int .u8 57)) fun v27 =>
  (H = H ∧ Q25 v27)) fun v28 =>
  (H = H ∧ Q22 v28)) fun v29 =>
  aMerge true v29 (fun Q30 =>
  aIndex q1s0 y0 fun v31 =>
  aBin false false .neq v31 (.p (.int .u8 95)) fun v32 =>
  (H = H ∧ Q30 v32)) fun v33 =>
  aGuard v33
  (K (.p (.bool false)) H)
  (aBin false false .add y0 (.p (.int .i64 1)) fun v34 =>
  B1 [v34] H))
  (K (.p (.bool true)) H)

def runnelref10_Good (x0 : AV) (H : List Ob) (K : AV → List Ob → Prop) : Prop :=
  aLen false true x0 fun v0 =>
  aBin false false .lss v0 (.p (.int .i64 1)) fun v1 =>
  aMerge false v1 (fun Q2 =>
  aLenS true x0 fun v3 =>
  aBin false false .gtr v3 (.p (.int .i64 16)) fun v4 =>
  (H = H ∧ Q2 v4)) fun v5 =>
  aMerge false v5 (fun Q6 =>
  aIndex x0 (.p (.int .i64 0)) fun v7 =>
  aBin false false .lss v7 (.p (.int .u8 97)) fun v8 =>
  (H = H ∧ Q6 v8)) fun v9 =>
  aMerge false v9 (fun Q10 =>
  aIndex x0 (.p (.int .i64 0)) fun v11 =>
  aBin false false .gtr v11 (.p (.int .u8 122)) fun v12 =>
  (H = H ∧ Q10 v12)) fun v13 =>
  aGuard v13
  (K (.p (.bool false)) H)
  (aLoopN 1 [(.p (.int .i64 0))] H fun xs H B1 => runnelref10_Good_L1 x0 (xs.getD 0 .top) H B1 K)

def runnelref10_Good_ann : Nat → List Nat := fun k => match k with | 4 => [3] | _ => []

theorem runnelref10_Good_eq (x0 : AV) (H : List Ob) (r : AV) (Ho : List Ob) : aBody Tryz.prog runnelref10_Good_ann Tryz.f29 H [x0] r Ho = runnelref10_Good x0 H (fun v H' => Gives H.length v H' r Ho) := by kernel_rfl

theorem runnelref10_Good_fnH {x0 : AV} {Hin : List Ob} {r : AV} {Ho : List Ob} (h : runnelref10_Good x0 Hin (fun v H' => Gives Hin.length v H' r Ho)) : Abs.Fn Tryz.prog runnelref10_Good_i Hin [x0] r Ho :=
  fn_intro mixed runnelref10_Good_ann (fn := Tryz.f29) (by kernel_rfl) (by kernel_rfl) (by rw [runnelref10_Good_eq]; exact h)

theorem runnelref10_Good_fn {x0 : AV} {r : AV} {Ho : List Ob} (h : runnelref10_Good x0 [] (fun v H' => Gives 0 v H' r Ho)) : Abs.Fn Tryz.prog runnelref10_Good_i [] [x0] r Ho := runnelref10_Good_fnH (Hin := []) h

/- runnel/runnelref10.fields -/
def runnelref10_fields_J1 (j1s1 j1s3 j1s4 j1s5 : AV) (H : List Ob) (K : AV → List Ob → Prop) : Prop :=
  aUn .not j1s3 fun v10 =>
  aMerge true v10 (fun Q11 =>
  aFieldAddr 1 j1s1 fun v12 =>
  aLoad false 1 v12 H fun v13 =>
  aBin false false .neq v13 (.p (.str [])) fun v14 =>
  (H = H ∧ Q11 v14)) fun v15 =>
  aGuard v15
  (K (.p (.bool true)) H)
  (aFieldAddr 0 j1s1 fun v16 =>
  aLoad false 1 v16 H fun v17 =>
  aBin false false .neq v17 (.p (.int .i64 1)) fun v18 =>
  aMerge true v18 (fun Q19 =>
  aFieldAddr 2 j1s1 fun v20 =>
  aFieldAddr 0 v20 fun v21 =>
  aLoad false 1 v21 H fun v22 =>
  aBin false false .neq v22 (.p (.int .i64 0)) fun v23 =>
  aMerge false v23 (fun Q24 =>
  aFieldAddr 2 j1s1 fun v25 =>
  aFieldAddr 1 v25 fun v26 =>
  aLoad false 1 v26 H fun v27 =>
  aLenS false v27 fun v28 =>
  aBin false false .gtr v28 (.p (.int .i64 0)) fun v29 =>
  (H = H ∧ Q24 v29)) fun v30 =>
  (H = H ∧ Q19 v30)) fun v31 =>
  aGuard v31
  (K (.p (.bool true)) H)
  (aFieldAddr 4 j1s1 fun v32 =>
  aLoad false 1 v32 H fun v33 =>
  aLen false false v33 fun v34 =>
  aBin false false .lss v34 j1s4 fun v35 =>
  aMerge false v35 (fun Q36 =>
  aFieldAddr 4 j1s1 fun v37 =>
  aLoad false 1 v37 H fun v38 =>
  aLenS false v38 fun v39 =>
  aBin false false .gtr v39 j1s5 fun v40 =>
  (H = H ∧ Q36 v40)) fun v41 =>
  aGuard v41
  (K (.p (.bool true)) H)
  (aLoad true 15 j1s1 H fun v42 =>
  aCall Tryz.prog (.p (.func runnelref10_Keyed_i [])) [v42] H fun v43 h44 =>
  aUn .not v43 fun v45 =>
  aMerge true v45 (fun Q46 =>
  aFieldAddr 5 j1s1 fun v47 =>
  aLoad true 8 v47 h44 fun v48 =>
  aCall Tryz.prog (.p (.func runnelref10_bare_i [])) [v48] h44 fun v49 h50 =>
  aUn .not v49 fun v51 =>
  (h50 = h44 ∧ Q46 v51)) fun v52 =>
  aGuard v52
  (K (.p (.bool true)) h44)
  (aFieldAddr 0 j1s1 fun v53 =>
  aLoad false 1 v53 h44 fun v54 =>
  aBin false false .eql v54 (.p (.int .i64 5)) fun v55 =>
  aMerge true v55 (fun Q56 =>
  aFieldAddr 13 j1s1 fun v57 =>
  aLoad false 1 v57 h44 fun v58 =>
  aBin false false .lss v58 (.p (.int .i64 1)) fun v59 =>
  aMerge false v59 (fun Q60 =>
  aFieldAddr 13 j1s1 fun v61 =>
  aLoad false 1 v61 h44 fun v62 =>
  aBin false false .gtr v62 (.p (.int .i64 4)) fun v63 =>
  (h44 = h44 ∧ Q60 v63)) fun v64 =>
  (h44 = h44 ∧ Q56 v64)) fun v65 =>
  aMerge false v65 (fun Q66 =>
  aFieldAddr 0 j1s1 fun v67 =>
  aLoad false 1 v67 h44 fun v68 =>
  aBin false false .neq v68 (.p (.int .i64 5)) fun v69 =>
  aMerge true v69 (fun Q70 =>
  aFieldAddr 13 j1s1 fun v71 =>
  aLoad false 1 v71 h44 fun v72 =>
  aBin false false .neq v72 (.p (.int .i64 0)) fun v73 =>
  (h44 = h44 ∧ Q70 v73)) fun v74 =>
  (h44 = h44 ∧ Q66 v74)) fun v75 =>
  aGuard v75
  (K (.p (.bool true)) h44)
  (aFieldAddr 0 j1s1 fun v76 =>
  aLoad false 1 v76 h44 fun v77 =>
  aBin false false .eql v77 (.p (.int .i64 6)) fun v78 =>
  aMerge true v78 (fun Q79 =>
  aFieldAddr 14 j1s1 fun v80 =>
  aLoad false 1 v80 h44 fun v81 =>
  aBin false false .lss v81 (.p (.int .i64 1)) fun v82 =>
  aMerge false v82 (fun Q83 =>
  aFieldAddr 14 j1s1 fun v84 =>
  aLoad false 1 v84 h44 fun v85 =>
  aBin false false .gtr v85 (.p (.int .i64 1000)) fun v86 =>
  (h44 = h44 ∧ Q83 v86)) fun v87 =>
  (h44 = h44 ∧ Q79 v87)) fun v88 =>
  aMerge false v88 (fun Q89 =>
  aFieldAddr 0 j1s1 fun v90 =>
  aLoad false 1 v90 h44 fun v91 =>
  aBin false false .neq v91 (.p (.int .i64 6)) fun v92 =>
  aMerge true v92 (fun Q93 =>
  aFieldAddr 14 j1s1 fun v94 =>
  aLoad false 1 v94 h44 fun v95 =>
  aBin false false .neq v95 (.p (.int .i64 0)) fun v96 =>
  (h44 = h44 ∧ Q93 v96)) fun v97 =>
  (h44 = h44 ∧ Q89 v97)) fun v98 =>
  K v98 h44)))))

def runnelref10_fields (x0 : AV) (H : List Ob) (K : AV → List Ob → Prop) : Prop :=
  aBox x0 H fun v0 h1 =>
  aFieldAddr 0 v0 fun v2 =>
  aLoad false 1 v2 h1 fun v3 =>
  aBin false false .eql v3 (.p (.int .i64 1)) fun v4 =>
  aMerge false v4 (fun Q5 =>
  aFieldAddr 0 v0 fun v6 =>
  aLoad false 1 v6 h1 fun v7 =>
  aBin false false .eql v7 (.p (.int .i64 9)) fun v8 =>
  (h1 = h1 ∧ Q5 v8)) fun v9 =>
  aFieldAddr 0 v0 fun v99 =>
  aLoad false 1 v99 h1 fun v100 =>
  aBin false false .eql v100 (.p (.int .i64 2)) fun v101 =>
  aMerge false v101 (fun Q102 =>
  aBin false false .eql v100 (.p (.int .i64 3)) fun v103 =>
  aMerge false v103 (fun Q104 =>
  aBin false false .eql v100 (.p (.int .i64 5)) fun v105 =>
  (h1 = h1 ∧ Q104 v105)) fun v106 =>
  (h1 = h1 ∧ Q102 v106)) fun v107 =>
  aGuard v107
  (runnelref10_fields_J1 v0 v9 (.p (.int .i64 1)) (.p (.int .i64 1)) h1 K)
  (aBin false false .eql v100 (.p (.int .i64 4)) fun v108 =>
  aGuard v108
  (runnelref10_fields_J1 v0 v9 (.p (.int .i64 1)) (.p (.int .i64 4)) h1 K)
  (runnelref10_fields_J1 v0 v9 (.p (.int .i64 0)) (.p (.int .i64 0)) h1 K))

def runnelref10_fields_ann : Nat → List Nat := fun k => match k with | 1000007 => [1] | 1000006 => [1] | _ => []

theorem runnelref10_fields_eq (x0 : AV) (H : List Ob) (r : AV) (Ho : List Ob) : aBody Tryz.prog runnelref10_fields_ann Tryz.f30 H [x0] r Ho = runnelref10_fields x0 H (fun v H' => Gives H.length v H' r Ho) := by kernel_rfl

theorem runnelref10_fields_fnH {x0 : AV} {Hin : List Ob} {r : AV} {Ho : List Ob} (h : runnelref10_fields x0 Hin (fun v H' => Gives Hin.length v H' r Ho)) : Abs.Fn Tryz.prog runnelref10_fields_i Hin [x0] r Ho :=
  fn_intro mixed runnelref10_fields_ann (fn := Tryz.f30) (by kernel_rfl) (by kernel_rfl) (by rw [runnelref10_fields_eq]; exact h)

theorem runnelref10_fields_fn {x0 : AV} {r : AV} {Ho : List Ob} (h : runnelref10_fields x0 [] (fun v H' => Gives 0 v H' r Ho)) : Abs.Fn Tryz.prog runnelref10_fields_i [] [x0] r Ho := runnelref10_fields_fnH (Hin := []) h

/- runnel/runnelref10.ins -/
def runnelref10_ins (x0 x1 : AV) (H : List Ob) (K : AV → List Ob → Prop) : Prop :=
  aBin false false .eql x0 (.p (.int .i64 1)) fun v0 =>
  aGuard v0
  (aBin false false .eql x1 (.p (.int .i64 0)) fun v1 =>
  K v1 H)
  (aBin false false .eql x0 (.p (.int .i64 8)) fun v2 =>
  aGuard v2
  (aBin false false .geq x1 (.p (.int .i64 2)) fun v3 =>
  aMerge true v3 (fun Q4 =>
  aBin false false .leq x1 (.p (.int .i64 4)) fun v5 =>
  (H = H ∧ Q4 v5)) fun v6 =>
  K v6 H)
  (aBin false false .eql x1 (.p (.int .i64 1)) fun v7 =>
  K v7 H))

def runnelref10_ins_ann : Nat → List Nat := fun _ => []

theorem runnelref10_ins_eq (x0 x1 : AV) (H : List Ob) (r : AV) (Ho : List Ob) : aBody Tryz.prog runnelref10_ins_ann Tryz.f31 H [x0, x1] r Ho = runnelref10_ins x0 x1 H (fun v H' => Gives H.length v H' r Ho) := by kernel_rfl

theorem runnelref10_ins_fnH {x0 x1 : AV} {Hin : List Ob} {r : AV} {Ho : List Ob} (h : runnelref10_ins x0 x1 Hin (fun v H' => Gives Hin.length v H' r Ho)) : Abs.Fn Tryz.prog runnelref10_ins_i Hin [x0, x1] r Ho :=
  fn_intro mixed runnelref10_ins_ann (fn := Tryz.f31) (by kernel_rfl) (by kernel_rfl) (by rw [runnelref10_ins_eq]; exact h)

theorem runnelref10_ins_fn {x0 x1 : AV} {r : AV} {Ho : List Ob} (h : runnelref10_ins x0 x1 [] (fun v H' => Gives 0 v H' r Ho)) : Abs.Fn Tryz.prog runnelref10_ins_i [] [x0, x1] r Ho := runnelref10_ins_fnH (Hin := []) h

/- runnel/runnelref10.made -/
def runnelref10_made_L1 (q1s3 q1s8 y0 : AV) (H : List Ob) (B1 : List AV → List Ob → Prop) (K : AV → List Ob → Prop) : Prop :=
  aLen false false q1s3 fun v29 =>
  aBin false false .lss y0 v29 fun v30 =>
  aGuard v30
  (aIndexAddr 2 q1s3 y0 fun v31 =>
  aLoad true 2 v31 H fun v32 =>
  aIndexAddr 2 q1s3 (.p (.int .i64 0)) fun v33 =>
  aLoad true 2 v33 H fun v34 =>
  aCallT Tryz.prog (.p (.func runnelref6_SameType_i [])) [v32, v34] fun v35 =>
  aUn .not v35 fun v36 =>
  aGuard v36
  (aBuild [(.p (.int .i64 0)), (.full [])] [] fun v37 =>
  aStore 2 q1s8 v37 H fun _ h39 =>
  aLoad true 2 q1s8 h39 fun v40 =>
  K (.tup [v40, (.p (.int .i64 5))]) h39)
  (aBin false false .add y0 (.p (.int .i64 1)) fun v41 =>
  B1 [v41] H))
  (aIndexAddr 2 q1s3 (.p (.int .i64 0)) fun v42 =>
  aLoad true 2 v42 H fun v43 =>
  aStore 2 q1s8 v43 H fun _ h45 =>
  aLoad true 2 q1s8 h45 fun v46 =>
  K (.tup [v46, (.p (.int .i64 0))]) h45)

def runnelref10_made_L2 (q2s1 q2s8 y0 : AV) (H : List Ob) (B2 : List AV → List Ob → Prop) (K : AV → List Ob → Prop) : Prop :=
  aLen false false q2s1 fun v90 =>
  aBin false false .lss y0 v90 fun v91 =>
  aGuard v91
  (aIndexAddr 2 q2s1 y0 fun v92 =>
  aLoad true 2 v92 H fun v93 =>
  aIndexAddr 2 q2s1 (.p (.int .i64 0)) fun v94 =>
  aLoad true 2 v94 H fun v95 =>
  aCallT Tryz.prog (.p (.func runnelref6_SameType_i [])) [v93, v95] fun v96 =>
  aUn .not v96 fun v97 =>
  aGuard v97
  (aBuild [(.p (.int .i64 0)), (.full [])] [] fun v98 =>
  aStore 2 q2s8 v98 H fun _ h100 =>
  aLoad true 2 q2s8 h100 fun v101 =>
  K (.tup [v101, (.p (.int .i64 5))]) h100)
  (aBin false false .add y0 (.p (.int .i64 1)) fun v102 =>
  B2 [v102] H))
  (aIndexAddr 2 q2s1 (.p (.int .i64 0)) fun v103 =>
  aLoad true 2 v103 H fun v104 =>
  aStore 2 q2s8 v104 H fun _ h106 =>
  aLoad true 2 q2s8 h106 fun v107 =>
  K (.tup [v107, (.p (.int .i64 0))]) h106)

def runnelref10_made (x0 x1 x2 x3 : AV) (H : List Ob) (K : AV → List Ob → Prop) : Prop :=
  aBox x0 H fun v0 h1 =>
  aBox x2 h1 fun v2 h3 =>
  aAlloc [(.p (.int .i64 0)), (.full [])] h3 fun v4 h5 =>
  aFieldAddr 0 v0 fun v6 =>
  aLoad false 1 v6 h5 fun v7 =>
  aBin false false .eql v7 (.p (.int .i64 2)) fun v8 =>
  aGuard v8
  (aIndexAddr 2 x3 (.p (.int .i64 0)) fun v9 =>
  aLoad true 2 v9 h5 fun v10 =>
  aStore 2 v4 v10 h5 fun _ h12 =>
  aLoad true 2 v4 h12 fun v13 =>
  K (.tup [v13, (.p (.int .i64 0))]) h12)
  (aBin false false .eql v7 (.p (.int .i64 3)) fun v14 =>
  aGuard v14
  (aIndexAddr 2 x3 (.p (.int .i64 0)) fun v15 =>
  aFieldAddr 0 v15 fun v16 =>
  aLoad false 1 v16 h5 fun v17 =>
  aBin false false .neq v17 (.p (.int .i64 2)) fun v18 =>
  aGuard v18
  (aBuild [(.p (.int .i64 0)), (.full [])] [] fun v19 =>
  aStore 2 v4 v19 h5 fun _ h21 =>
  aLoad true 2 v4 h21 fun v22 =>
  K (.tup [v22, (.p (.int .i64 5))]) h21)
  (aIndexAddr 2 x1 (.p (.int .i64 0)) fun v23 =>
  aLoad true 2 v23 h5 fun v24 =>
  aStore 2 v4 v24 h5 fun _ h26 =>
  aLoad true 2 v4 h26 fun v27 =>
  K (.tup [v27, (.p (.int .i64 0))]) h26))
  (aBin false false .eql v7 (.p (.int .i64 4)) fun v28 =>
  aGuard v28
  (aLoopN 1 [(.p (.int .i64 1))] h5 fun xs H B1 => runnelref10_made_L1 x3 v4 (xs.getD 0 .top) H B1 K)
  (aBin false false .eql v7 (.p (.int .i64 5)) fun v47 =>
  aMerge false v47 (fun Q48 =>
  aBin false false .eql v7 (.p (.int .i64 6)) fun v49 =>
  (h5 = h5 ∧ Q48 v49)) fun v50 =>
  aGuard v50
  (aFieldAddr 0 v0 fun v51 =>
  aLoad false 1 v51 h5 fun v52 =>
  aBin false false .eql v52 (.p (.int .i64 5)) fun v53 =>
  aMerge true v53 (fun Q54 =>
  aIndexAddr 2 x3 (.p (.int .i64 0)) fun v55 =>
  aFieldAddr 0 v55 fun v56 =>
  aLoad false 1 v56 h5 fun v57 =>
  aBin false false .neq v57 (.p (.int .i64 1)) fun v58 =>
  (h5 = h5 ∧ Q54 v58)) fun v59 =>
  aGuard v59
  (aBuild [(.p (.int .i64 0)), (.full [])] [] fun v60 =>
  aStore 2 v4 v60 h5 fun _ h62 =>
  aLoad true 2 v4 h62 fun v63 =>
  K (.tup [v63, (.p (.int .i64 5))]) h62)
  (aAlloc [(.p (.int .i64 0)), (.full [])] h5 fun v64 h65 =>
  aLoad true 2 v2 h65 fun v66 =>
  aCallT Tryz.prog (.p (.func runnelref6_Plain_i [])) [(.p (.int .i64 1))] fun v67 =>
  aBuildSlice 2 [v66, v67] fun v68 =>
  aBuild [(.p (.int .i64 0)), (.full [])] [(0, 1, (.p (.int .i64 4))), (1, 1, v68)] fun v69 =>
  aStore 2 v64 v69 h65 fun _ h71 =>
  aLoad true 2 v64 h71 fun v72 =>
  aCall Tryz.prog (.p (.func runnelref6_CheckType_i [])) [v72] h71 fun v73 h74 =>
  aBin false false .neq v73 (.p (.int .i64 0)) fun v75 =>
  aGuard v75
  (aBuild [(.p (.int .i64 0)), (.full [])] [] fun v76 =>
  aStore 2 v4 v76 h74 fun _ h78 =>
  aLoad true 2 v4 h78 fun v79 =>
  K (.tup [v79, v73]) h78)
  (aLoad true 2 v64 h74 fun v80 =>
  aStore 2 v4 v80 h74 fun _ h82 =>
  aLoad true 2 v4 h82 fun v83 =>
  K (.tup [v83, (.p (.int .i64 0))]) h82)))
  (aBin false false .eql v7 (.p (.int .i64 7)) fun v84 =>
  aGuard v84
  (aLoad true 2 v2 h5 fun v85 =>
  aStore 2 v4 v85 h5 fun _ h87 =>
  aLoad true 2 v4 h87 fun v88 =>
  K (.tup [v88, (.p (.int .i64 0))]) h87)
  (aBin false false .eql v7 (.p (.int .i64 8)) fun v89 =>
  aGuard v89
  (aLoopN 1 [(.p (.int .i64 1))] h5 fun xs H B2 => runnelref10_made_L2 x1 v4 (xs.getD 0 .top) H B2 K)
  (aIndexAddr 2 x1 (.p (.int .i64 0)) fun v108 =>
  aLoad true 2 v108 h5 fun v109 =>
  aStore 2 v4 v109 h5 fun _ h111 =>
  aLoad true 2 v4 h111 fun v112 =>
  K (.tup [v112, (.p (.int .i64 0))]) h111))))))

def runnelref10_made_ann : Nat → List Nat := fun k => match k with | 9 => [10] | 27 => [13] | 1000015 => [1] | _ => []

theorem runnelref10_made_eq (x0 x1 x2 x3 : AV) (H : List Ob) (r : AV) (Ho : List Ob) : aBody Tryz.prog runnelref10_made_ann Tryz.f34 H [x0, x1, x2, x3] r Ho = runnelref10_made x0 x1 x2 x3 H (fun v H' => Gives H.length v H' r Ho) := by kernel_rfl

theorem runnelref10_made_fnH {x0 x1 x2 x3 : AV} {Hin : List Ob} {r : AV} {Ho : List Ob} (h : runnelref10_made x0 x1 x2 x3 Hin (fun v H' => Gives Hin.length v H' r Ho)) : Abs.Fn Tryz.prog runnelref10_made_i Hin [x0, x1, x2, x3] r Ho :=
  fn_intro mixed runnelref10_made_ann (fn := Tryz.f34) (by kernel_rfl) (by kernel_rfl) (by rw [runnelref10_made_eq]; exact h)

theorem runnelref10_made_fn {x0 x1 x2 x3 : AV} {r : AV} {Ho : List Ob} (h : runnelref10_made x0 x1 x2 x3 [] (fun v H' => Gives 0 v H' r Ho)) : Abs.Fn Tryz.prog runnelref10_made_i [] [x0, x1, x2, x3] r Ho := runnelref10_made_fnH (Hin := []) h

/- runnel/runnelref10.bare -/
def runnelref10_bare (x0 : AV) (H : List Ob) (K : AV → List Ob → Prop) : Prop :=
  aBox x0 H fun v0 h1 =>
  aFieldAddr 0 v0 fun v2 =>
  aLoad false 1 v2 h1 fun v3 =>
  aBin false false .eql v3 (.p (.str [])) fun v4 =>
  aMerge true v4 (fun Q5 =>
  aFieldAddr 1 v0 fun v6 =>
  aFieldAddr 0 v6 fun v7 =>
  aLoad false 1 v7 h1 fun v8 =>
  aBin false false .eql v8 (.p (.int .i64 0)) fun v9 =>
  (h1 = h1 ∧ Q5 v9)) fun v10 =>
  aMerge true v10 (fun Q11 =>
  aFieldAddr 1 v0 fun v12 =>
  aFieldAddr 1 v12 fun v13 =>
  aLoad false 1 v13 h1 fun v14 =>
  aBin false false .eql v14 (.p (.int .i64 0)) fun v15 =>
  (h1 = h1 ∧ Q11 v15)) fun v16 =>
  aMerge true v16 (fun Q17 =>
  aFieldAddr 1 v0 fun v18 =>
  aFieldAddr 2 v18 fun v19 =>
  aLoad false 1 v19 h1 fun v20 =>
  aUn .not v20 fun v21 =>
  (h1 = h1 ∧ Q17 v21)) fun v22 =>
  aMerge true v22 (fun Q23 =>
  aFieldAddr 1 v0 fun v24 =>
  aFieldAddr 3 v24 fun v25 =>
  aLoad false 1 v25 h1 fun v26 =>
  aBin false false .eql v26 (.p (.str [])) fun v27 =>
  (h1 = h1 ∧ Q23 v27)) fun v28 =>
  aMerge true v28 (fun Q29 =>
  aFieldAddr 1 v0 fun v30 =>
  aFieldAddr 4 v30 fun v31 =>
  aLoad false 1 v31 h1 fun v32 =>
  aLenS false v32 fun v33 =>
  aBin false false .eql v33 (.p (.int .i64 0)) fun v34 =>
  (h1 = h1 ∧ Q29 v34)) fun v35 =>
  aMerge true v35 (fun Q36 =>
  aFieldAddr 6 v0 fun v37 =>
  aLoad false 1 v37 h1 fun v38 =>
  aBin false false .eql v38 (.p (.int .i64 0)) fun v39 =>
  (h1 = h1 ∧ Q36 v39)) fun v40 =>
  aMerge true v40 (fun Q41 =>
  aFieldAddr 7 v0 fun v42 =>
  aLoad false 1 v42 h1 fun v43 =>
  aLenS false v43 fun v44 =>
  aBin false false .eql v44 (.p (.int .i64 0)) fun v45 =>
  (h1 = h1 ∧ Q41 v45)) fun v46 =>
  K v46 h1

def runnelref10_bare_ann : Nat → List Nat := fun _ => []

theorem runnelref10_bare_eq (x0 : AV) (H : List Ob) (r : AV) (Ho : List Ob) : aBody Tryz.prog runnelref10_bare_ann Tryz.f55 H [x0] r Ho = runnelref10_bare x0 H (fun v H' => Gives H.length v H' r Ho) := by kernel_rfl

theorem runnelref10_bare_fnH {x0 : AV} {Hin : List Ob} {r : AV} {Ho : List Ob} (h : runnelref10_bare x0 Hin (fun v H' => Gives Hin.length v H' r Ho)) : Abs.Fn Tryz.prog runnelref10_bare_i Hin [x0] r Ho :=
  fn_intro mixed runnelref10_bare_ann (fn := Tryz.f55) (by kernel_rfl) (by kernel_rfl) (by rw [runnelref10_bare_eq]; exact h)

theorem runnelref10_bare_fn {x0 : AV} {r : AV} {Ho : List Ob} (h : runnelref10_bare x0 [] (fun v H' => Gives 0 v H' r Ho)) : Abs.Fn Tryz.prog runnelref10_bare_i [] [x0] r Ho := runnelref10_bare_fnH (Hin := []) h

end Go.Proofs.YtklnalofcjagnaaGreat
end
