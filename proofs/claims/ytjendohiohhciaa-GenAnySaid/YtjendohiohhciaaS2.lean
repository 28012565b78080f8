/- Made by program (Gen.lean): functions of the dump, over trees. -/
import Derived.Test.YtjendohiohhciaaS1

section
/- Made by program (Gen.lean): functions of the dump, over trees. -/
set_option maxRecDepth 4000
set_option linter.unusedVariables false
namespace Go.Proofs.Ytjendohiohhciaa
open Go Go.Abs

/- runnel/runnellaw12.GenAny -/
def runnellaw12_GenAny_L1 (q1s2 q1s5 y0 : AV) (H : List Ob) (B1 : List AV → List Ob → Prop) (K : AV → List Ob → Prop) : Prop :=
  aFieldAddr 4 q1s2 fun v38 =>
  aLoad false 1 v38 H fun v39 =>
  aLen false false v39 fun v40 =>
  aBin false false .lss y0 v40 fun v41 =>
  aGuard v41
  (aFieldAddr 4 q1s2 fun v42 =>
  aLoad false 1 v42 H fun v43 =>
  aIndexAddr 8 v43 y0 fun v44 =>
  aLoad true 8 v44 H fun v45 =>
  aCallT Try.prog (.p (.func gen_Expr_i [])) [v45] fun v46 =>
  aFieldAddr 4 q1s5 fun v47 =>
  aLoad false 1 v47 H fun v48 =>
  aIndexAddr 8 v48 y0 fun v49 =>
  aLoad true 8 v49 H fun v50 =>
  aCallT Try.prog (.p (.func runnelref14_GenExpr_i [])) [v50] fun v51 =>
  aCallT Try.prog (.p (.func runnellaw11_Same_i [])) [v46, v51] fun v52 =>
  aUn .not v52 fun v53 =>
  aGuard v53
  (K (.p (.bool false)) H)
  (aBin false false .add y0 (.p (.int .i64 1)) fun v54 =>
  B1 [v54] H))
  (K (.p (.bool true)) H)

def runnellaw12_GenAny_J3 (j3s2 j3s5 : AV) (H : List Ob) (K : AV → List Ob → Prop) : Prop :=
  aLoopN 1 [(.p (.int .i64 0))] H fun xs H B1 => runnellaw12_GenAny_L1 j3s2 j3s5 (xs.getD 0 .top) H B1 K

def runnellaw12_GenAny_J2 (j2s2 j2s5 j2s6 : AV) (H : List Ob) (K : AV → List Ob → Prop) : Prop :=
  aLoad true 15 j2s5 H fun v28 =>
  aCall Try.prog (.p (.func runnelref10_Out_i [])) [v28, j2s6] H fun v29 h30 =>
  aExtract v29 0 fun v31 =>
  aExtract v29 1 fun v32 =>
  aAlloc [(.p (.int .i64 0)), (.full [])] h30 fun v33 h34 =>
  aStore 2 v33 v31 h34 fun _ h36 =>
  aBin false false .neq v32 (.p (.int .i64 0)) fun v37 =>
  aGuard v37
  (K (.p (.bool true)) h36)
  (aLoad true 15 j2s2 h36 fun v55 =>
  aCallT Try.prog (.p (.func gen_Of_i [])) [v55] fun v56 =>
  aLoad true 15 j2s5 h36 fun v57 =>
  aCallT Try.prog (.p (.func runnelref14_Gen_i [])) [v57] fun v58 =>
  aCallT Try.prog (.p (.func runnellaw11_Same_i [])) [v56, v58] fun v59 =>
  aUn .not v59 fun v60 =>
  aGuard v60
  (K (.p (.bool false)) h36)
  (aLoad true 15 j2s5 h36 fun v61 =>
  aCallT Try.prog (.p (.func runnelref10_Keyed_i [])) [v61] fun v62 =>
  aGuard v62
  (aLoad true 15 j2s2 h36 fun v63 =>
  aCallT Try.prog (.p (.func gen_Key_i [])) [v63] fun v64 =>
  aLoad true 15 j2s5 h36 fun v65 =>
  aCallT Try.prog (.p (.func runnelref14_GenKey_i [])) [v65] fun v66 =>
  aCallT Try.prog (.p (.func runnellaw11_Same_i [])) [v64, v66] fun v67 =>
  aUn .not v67 fun v68 =>
  aGuard v68
  (K (.p (.bool false)) h36)
  (runnellaw12_GenAny_J3 j2s2 j2s5 h36 K))
  (runnellaw12_GenAny_J3 j2s2 j2s5 h36 K)))

def runnellaw12_GenAny_J1 (j1s2 j1s5 j1s6 : AV) (H : List Ob) (K : AV → List Ob → Prop) : Prop :=
  aFieldAddr 0 j1s2 fun v69 =>
  aLoad false 1 v69 H fun v70 =>
  aBin false false .eql v70 (.p (.int .i64 1)) fun v71 =>
  aGuard v71
  (runnellaw12_GenAny_J2 j1s2 j1s5 (.full []) H K)
  (runnellaw12_GenAny_J2 j1s2 j1s5 j1s6 H K)

def runnellaw12_GenAny (x0 x1 : AV) (H : List Ob) (K : AV → List Ob → Prop) : Prop :=
  aBox x0 H fun v0 h1 =>
  aBox x1 h1 fun v2 h3 =>
  aCall Try.prog (.p (.func runnellaw12_known_i [])) [] h3 fun v4 h5 =>
  aUn .not v4 fun v6 =>
  aGuard v6
  (K (.p (.bool false)) h5)
  (aLoad true 15 v0 h5 fun v7 =>
  aCall Try.prog (.p (.func runnellaw7_Few_i [])) [v7] h5 fun v8 h9 =>
  aUn .not v8 fun v10 =>
  aMerge false v10 (fun Q11 =>
  aLoad true 2 v2 h9 fun v12 =>
  aCall Try.prog (.p (.func runnellaw1_Few_i [])) [v12] h9 fun v13 h14 =>
  aUn .not v13 fun v15 =>
  (h14 = h9 ∧ Q11 v15)) fun v16 =>
  aGuard v16
  (K (.p (.bool true)) h9)
  (aLoad true 15 v0 h9 fun v17 =>
  aCall Try.prog (.p (.func runnellaw7_Of_i [])) [v17] h9 fun v18 h19 =>
  aAlloc [(.p (.int .i64 0)), (.p (.str [])), (.p (.int .i64 0)), (.full []), (.full []), (.p (.str [])), (.p (.int .i64 0)), (.p (.int .i64 0)), (.p (.bool false)), (.p (.str [])), (.full []), (.p (.int .i64 0)), (.full []), (.p (.int .i64 0)), (.p (.int .i64 0))] h19 fun v20 h21 =>
  aStore 15 v20 v18 h21 fun _ h23 =>
  aLoad true 2 v2 h23 fun v24 =>
  aCall Try.prog (.p (.func runnellaw1_Of_i [])) [v24] h23 fun v25 h26 =>
  aBuildSlice 2 [v25] fun v27 =>
  aFieldAddr 0 v0 fun v72 =>
  aLoad false 1 v72 h26 fun v73 =>
  aBin false false .eql v73 (.p (.int .i64 8)) fun v74 =>
  aGuard v74
  (aIndexAddr 2 v27 (.p (.int .i64 0)) fun v75 =>
  aLoad true 2 v75 h26 fun v76 =>
  aBuildSlice 2 [v76] fun v77 =>
  aAppend false 2 32 v27 v77 h26 fun v78 h79 =>
  runnellaw12_GenAny_J1 v0 v20 v78 h79 K)
  (runnellaw12_GenAny_J1 v0 v20 v27 h26 K)))

def runnellaw12_GenAny_ann : Nat → List Nat := fun k => match k with | 17 => [9] | _ => []

theorem runnellaw12_GenAny_eq (x0 x1 : AV) (H : List Ob) (r : AV) (Ho : List Ob) : aBody Try.prog runnellaw12_GenAny_ann Try.f3 H [x0, x1] r Ho = runnellaw12_GenAny x0 x1 H (fun v H' => Gives H.length v H' r Ho) := by kernel_rfl

theorem runnellaw12_GenAny_fn {x0 x1 : AV} {r : AV} {Ho : List Ob} (h : runnellaw12_GenAny x0 x1 [] (fun v H' => Gives 0 v H' r Ho)) : Abs.Fn Try.prog runnellaw12_GenAny_i [] [x0, x1] r Ho :=
  fn_intro mixed runnellaw12_GenAny_ann (fn := Try.f3) (by kernel_rfl) (by kernel_rfl) (by rw [runnellaw12_GenAny_eq]; exact h)

/- runnel/runnellaw12.GenSizes -/
def runnellaw12_GenSizes_L1 (q1s0 q1s3 y0 y1 : AV) (H : List Ob) (B1 : List AV → List Ob → Prop) (K : AV → List Ob → Prop) : Prop :=
  aLen false false q1s0 fun v11 =>
  aBin false false .lss y1 v11 fun v12 =>
  aGuard v12
  (aIndexAddr 1 q1s0 y1 fun v13 =>
  aLoad false 1 v13 H fun v14 =>
  aBin false false .rem v14 (.p (.int .u8 4)) fun v15 =>
  aBin false false .eql v15 (.p (.int .u8 0)) fun v16 =>
  aGuard v16
  (aLoad true 8 q1s3 H fun v17 =>
  aBuildSlice 8 [v17] fun v18 =>
  aCall Try.prog (.p (.func runnellaw4_Op_i [])) [(.p (.str [110, 111, 116])), v18] H fun v19 h20 =>
  aStore 8 q1s3 v19 h20 fun _ h22 =>
  aBin false false .add y0 (.p (.int .i64 1)) fun v23 =>
  aBin false false .add y1 (.p (.int .i64 1)) fun v24 =>
  B1 [v23, v24] h22)
  (aBin false false .eql v15 (.p (.int .u8 1)) fun v25 =>
  aGuard v25
  (aLoad true 8 q1s3 H fun v26 =>
  aCallT Try.prog (.p (.func val_Bool_i [])) [(.p (.bool true))] fun v27 =>
  aCallT Try.prog (.p (.func runnellaw4_Lit_i [])) [v27] fun v28 =>
  aBuildSlice 8 [v26, v28] fun v29 =>
  aCallT Try.prog (.p (.func runnellaw4_Op_i [])) [(.p (.str [97, 110, 100])), v29] fun v30 =>
  aStore 8 q1s3 v30 H fun _ h32 =>
  aBin false false .add y0 (.p (.int .i64 4)) fun v33 =>
  aBin false false .add y1 (.p (.int .i64 1)) fun v34 =>
  B1 [v33, v34] h32)
  (aBin false false .eql v15 (.p (.int .u8 2)) fun v35 =>
  aGuard v35
  (aLoad true 8 q1s3 H fun v36 =>
  aCallT Try.prog (.p (.func runnellaw4_X_i [])) [] fun v37 =>
  aBuildSlice 8 [v36, v37] fun v38 =>
  aCallT Try.prog (.p (.func runnellaw4_Op_i [])) [(.p (.str [111, 114])), v38] fun v39 =>
  aStore 8 q1s3 v39 H fun _ h41 =>
  aBin false false .add y0 (.p (.int .i64 4)) fun v42 =>
  aBin false false .add y1 (.p (.int .i64 1)) fun v43 =>
  B1 [v42, v43] h41)
  (aBin false false .eql v15 (.p (.int .u8 3)) fun v44 =>
  aGuard v44
  (aLoad true 8 q1s3 H fun v45 =>
  aCallT Try.prog (.p (.func runnellaw4_X_i [])) [] fun v46 =>
  aCallT Try.prog (.p (.func val_Bool_i [])) [(.p (.bool false))] fun v47 =>
  aCallT Try.prog (.p (.func runnellaw4_Lit_i [])) [v47] fun v48 =>
  aBuildSlice 8 [v45, v46, v48] fun v49 =>
  aCallT Try.prog (.p (.func runnellaw4_Op_i [])) [(.p (.str [105, 102])), v49] fun v50 =>
  aStore 8 q1s3 v50 H fun _ h52 =>
  aBin false false .add y0 (.p (.int .i64 4)) fun v53 =>
  aBin false false .add y1 (.p (.int .i64 1)) fun v54 =>
  B1 [v53, v54] h52)
  (aBin false false .add y1 (.p (.int .i64 1)) fun v55 =>
  B1 [y0, v55] H)))))
  (aLoad true 8 q1s3 H fun v56 =>
  aCall Try.prog (.p (.func gen_Expr_i [])) [v56] H fun v57 h58 =>
  aLoad true 8 q1s3 h58 fun v59 =>
  aBuildSlice 8 [v59] fun v60 =>
  aBuild [(.p (.int .i64 0)), (.p (.str [])), (.p (.int .i64 0)), (.full []), (.full []), (.p (.str [])), (.p (.int .i64 0)), (.p (.int .i64 0)), (.p (.bool false)), (.p (.str [])), (.full []), (.p (.int .i64 0)), (.full []), (.p (.int .i64 0)), (.p (.int .i64 0))] [(0, 1, (.p (.int .i64 3))), (4, 1, v60)] fun v61 =>
  aCall Try.prog (.p (.func gen_Of_i [])) [v61] h58 fun v62 h63 =>
  aLoad true 8 q1s3 h63 fun v64 =>
  aBuild [(.p (.int .i64 0)), (.p (.str [])), (.p (.int .i64 0)), (.full []), (.full []), (.p (.str [])), (.p (.int .i64 0)), (.p (.int .i64 0)), (.p (.bool false)), (.p (.str [])), (.full []), (.p (.int .i64 0)), (.full []), (.p (.int .i64 0)), (.p (.int .i64 0))] [(0, 1, (.p (.int .i64 7))), (5, 8, v64)] fun v65 =>
  aCall Try.prog (.p (.func gen_Key_i [])) [v65] h63 fun v66 h67 =>
  aLen false false v57 fun v68 =>
  aBin false false .eql v68 y0 fun v69 =>
  aMerge true v69 (fun Q70 =>
  aLenS false v62 fun v71 =>
  aBin false false .add y0 (.p (.int .i64 4)) fun v72 =>
  aBin false false .eql v71 v72 fun v73 =>
  (h67 = h67 ∧ Q70 v73)) fun v74 =>
  aMerge true v74 (fun Q75 =>
  aLenS false v66 fun v76 =>
  aBin false false .add y0 (.p (.int .i64 2)) fun v77 =>
  aBin false false .eql v76 v77 fun v78 =>
  (h67 = h67 ∧ Q75 v78)) fun v79 =>
  aMerge true v79 (fun Q80 =>
  aLoad true 8 q1s3 h67 fun v81 =>
  aCall Try.prog (.p (.func runnellaw4_Of_i [])) [v81] h67 fun v82 h83 =>
  aCall Try.prog (.p (.func runnelref14_GenExpr_i [])) [v82] h83 fun v84 h85 =>
  aCall Try.prog (.p (.func runnellaw11_Same_i [])) [v57, v84] h85 fun v86 h87 =>
  (h87 = h67 ∧ Q80 v86)) fun v88 =>
  K v88 h67)

def runnellaw12_GenSizes (x0 : AV) (H : List Ob) (K : AV → List Ob → Prop) : Prop :=
  aCall Try.prog (.p (.func runnellaw12_known_i [])) [] H fun v0 h1 =>
  aUn .not v0 fun v2 =>
  aGuard v2
  (K (.p (.bool false)) h1)
  (aLen false false x0 fun v3 =>
  aBin false false .gtr v3 (.p (.int .i64 10)) fun v4 =>
  aGuard v4
  (K (.p (.bool true)) h1)
  (aCall Try.prog (.p (.func runnellaw4_X_i [])) [] h1 fun v5 h6 =>
  aAlloc [(.p (.str [])), (.p (.int .i64 0)), (.p (.int .i64 0)), (.p (.bool false)), (.p (.str [])), (.full []), (.p (.int .i64 0)), (.full [])] h6 fun v7 h8 =>
  aStore 8 v7 v5 h8 fun _ h10 =>
  aLoopN 2 [(.p (.int .i64 1)), (.p (.int .i64 0))] h10 fun xs H B1 => runnellaw12_GenSizes_L1 x0 v7 (xs.getD 0 .top) (xs.getD 1 .top) H B1 K))

def runnellaw12_GenSizes_ann : Nat → List Nat := fun k => match k with | 8 => [4, 5] | _ => []

theorem runnellaw12_GenSizes_eq (x0 : AV) (H : List Ob) (r : AV) (Ho : List Ob) : aBody Try.prog runnellaw12_GenSizes_ann Try.f4 H [x0] r Ho = runnellaw12_GenSizes x0 H (fun v H' => Gives H.length v H' r Ho) := by kernel_rfl

theorem runnellaw12_GenSizes_fn {x0 : AV} {r : AV} {Ho : List Ob} (h : runnellaw12_GenSizes x0 [] (fun v H' => Gives 0 v H' r Ho)) : Abs.Fn Try.prog runnellaw12_GenSizes_i [] [x0] r Ho :=
  fn_intro mixed runnellaw12_GenSizes_ann (fn := Try.f4) (by kernel_rfl) (by kernel_rfl) (by rw [runnellaw12_GenSizes_eq]; exact h)

/- runnel/runnellaw12.known -/
def runnellaw12_known (H : List Ob) (K : AV → List Ob → Prop) : Prop :=
  aCall Try.prog (.p (.func runnellaw4_X_i [])) [] H fun v0 h1 =>
  aCall Try.prog (.p (.func val_Int_i [])) [(.p (.int .i64 3))] h1 fun v2 h3 =>
  aCall Try.prog (.p (.func runnellaw4_Lit_i [])) [v2] h3 fun v4 h5 =>
  aBuildSlice 8 [v0, v4] fun v6 =>
  aCall Try.prog (.p (.func runnellaw4_Op_i [])) [(.p (.str [108, 116])), v6] h5 fun v7 h8 =>
  aBuildSlice 8 [v7] fun v9 =>
  aBuild [(.p (.int .i64 0)), (.p (.str [])), (.p (.int .i64 0)), (.full []), (.full []), (.p (.str [])), (.p (.int .i64 0)), (.p (.int .i64 0)), (.p (.bool false)), (.p (.str [])), (.full []), (.p (.int .i64 0)), (.full []), (.p (.int .i64 0)), (.p (.int .i64 0))] [(0, 1, (.p (.int .i64 3))), (4, 1, v9)] fun v10 =>
  aCall Try.prog (.p (.func gen_Of_i [])) [v10] h8 fun v11 h12 =>
  aCall Try.prog (.p (.func runnellaw4_X_i [])) [] h12 fun v13 h14 =>
  aCall Try.prog (.p (.func runnellaw4_X_i [])) [] h14 fun v15 h16 =>
  aBuildSlice 8 [v13, v15] fun v17 =>
  aCall Try.prog (.p (.func runnellaw4_Op_i [])) [(.p (.str [97, 110, 100])), v17] h16 fun v18 h19 =>
  aCall Try.prog (.p (.func gen_Expr_i [])) [v18] h19 fun v20 h21 =>
  aLen false false v11 fun v22 =>
  aBin false false .eql v22 (.p (.int .i64 7)) fun v23 =>
  aMerge true v23 (fun Q24 =>
  aIndexAddr 7 v11 (.p (.int .i64 3)) fun v25 =>
  aFieldAddr 0 v25 fun v26 =>
  aLoad false 1 v26 h21 fun v27 =>
  aBin false false .eql v27 (.p (.str [106, 102])) fun v28 =>
  (h21 = h21 ∧ Q24 v28)) fun v29 =>
  aMerge true v29 (fun Q30 =>
  aIndexAddr 7 v11 (.p (.int .i64 3)) fun v31 =>
  aFieldAddr 6 v31 fun v32 =>
  aLoad false 1 v32 h21 fun v33 =>
  aBin false false .eql v33 (.p (.int .i64 6)) fun v34 =>
  (h21 = h21 ∧ Q30 v34)) fun v35 =>
  aMerge true v35 (fun Q36 =>
  aIndexAddr 7 v11 (.p (.int .i64 6)) fun v37 =>
  aFieldAddr 0 v37 fun v38 =>
  aLoad false 1 v38 h21 fun v39 =>
  aBin false false .eql v39 (.p (.str [114, 101, 116])) fun v40 =>
  (h21 = h21 ∧ Q36 v40)) fun v41 =>
  aMerge true v41 (fun Q42 =>
  aLenS false v20 fun v43 =>
  aBin false false .eql v43 (.p (.int .i64 5)) fun v44 =>
  (h21 = h21 ∧ Q42 v44)) fun v45 =>
  aMerge true v45 (fun Q46 =>
  aIndexAddr 7 v20 (.p (.int .i64 1)) fun v47 =>
  aFieldAddr 6 v47 fun v48 =>
  aLoad false 1 v48 h21 fun v49 =>
  aBin false false .eql v49 (.p (.int .i64 4)) fun v50 =>
  (h21 = h21 ∧ Q46 v50)) fun v51 =>
  aMerge true v51 (fun Q52 =>
  aIndexAddr 7 v20 (.p (.int .i64 3)) fun v53 =>
  aFieldAddr 6 v53 fun v54 =>
  aLoad false 1 v54 h21 fun v55 =>
  aBin false false .eql v55 (.p (.int .i64 5)) fun v56 =>
  (h21 = h21 ∧ Q52 v56)) fun v57 =>
  aMerge true v57 (fun Q58 =>
  aCall Try.prog (.p (.func runnellaw4_X_i [])) [] h21 fun v59 h60 =>
  aBuild [(.p (.int .i64 0)), (.p (.str [])), (.p (.int .i64 0)), (.full []), (.full []), (.p (.str [])), (.p (.int .i64 0)), (.p (.int .i64 0)), (.p (.bool false)), (.p (.str [])), (.full []), (.p (.int .i64 0)), (.full []), (.p (.int .i64 0)), (.p (.int .i64 0))] [(0, 1, (.p (.int .i64 7))), (5, 8, v59)] fun v61 =>
  aCall Try.prog (.p (.func gen_Key_i [])) [v61] h60 fun v62 h63 =>
  aLenS false v62 fun v64 =>
  aBin false false .eql v64 (.p (.int .i64 3)) fun v65 =>
  (h63 = h21 ∧ Q58 v65)) fun v66 =>
  K v66 h21

def runnellaw12_known_ann : Nat → List Nat := fun _ => []

theorem runnellaw12_known_eq (H : List Ob) (r : AV) (Ho : List Ob) : aBody Try.prog runnellaw12_known_ann Try.f9 H [] r Ho = runnellaw12_known H (fun v H' => Gives H.length v H' r Ho) := by kernel_rfl

theorem runnellaw12_known_fn {r : AV} {Ho : List Ob} (h : runnellaw12_known [] (fun v H' => Gives 0 v H' r Ho)) : Abs.Fn Try.prog runnellaw12_known_i [] [] r Ho :=
  fn_intro mixed runnellaw12_known_ann (fn := Try.f9) (by kernel_rfl) (by kernel_rfl) (by rw [runnellaw12_known_eq]; exact h)

end Go.Proofs.Ytjendohiohhciaa
end
