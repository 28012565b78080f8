/- Made by program (Gen.lean): functions of the dump, over trees. -/
import Derived.Test.YtmlooceejmfjkaaShIds
set_option maxRecDepth 4000
namespace Go.Proofs.Ytmlooceejmfjkaa
open Go Go.Abs

/- runnel/runnellaw1.TypeTexts -/
def runnellaw1_TypeTexts (x0 : AV) (H : List Ob) (K : AV → List Ob → Prop) : Prop :=
  aCall Try.prog (.p (.func runnellaw1_known_i [])) [] H fun v0 h1 =>
  aUn .not v0 fun v2 =>
  aGuard v2
  (K (.p (.bool false)) h1)
  (aLen false true x0 fun v3 =>
  aBin false false .gtr v3 (.p (.int .i64 200)) fun v4 =>
  aGuard v4
  (K (.p (.bool true)) h1)
  (aCall Try.prog (.p (.func typ_Parse_i [])) [x0] h1 fun v5 h6 =>
  aExtract v5 0 fun v7 =>
  aExtract v5 1 fun v8 =>
  aAlloc [(.p (.int .i64 0)), (.full [])] h6 fun v9 h10 =>
  aStore 2 v9 v7 h10 fun _ h12 =>
  aCall Try.prog (.p (.func runnelref6_ParseType_i [])) [x0] h12 fun v13 h14 =>
  aExtract v13 0 fun v15 =>
  aExtract v13 1 fun v16 =>
  aAlloc [(.p (.int .i64 0)), (.full [])] h14 fun v17 h18 =>
  aStore 2 v17 v15 h18 fun _ h20 =>
  aBin false false .neq v8 v16 fun v21 =>
  aGuard v21
  (K (.p (.bool false)) h20)
  (aLoad true 2 v9 h20 fun v22 =>
  aCallT Try.prog (.p (.func runnellaw1_Of_i [])) [v22] fun v23 =>
  aLoad true 2 v17 h20 fun v24 =>
  aCallT Try.prog (.p (.func runnelref6_SameType_i [])) [v23, v24] fun v25 =>
  aUn .not v25 fun v26 =>
  aGuard v26
  (K (.p (.bool false)) h20)
  (aBin false false .neq v16 (.p (.int .i64 0)) fun v27 =>
  aMerge false v27 (fun Q28 =>
  aLoad true 2 v9 h20 fun v29 =>
  aCall Try.prog (.p (.func typ_Text_i [])) [v29] h20 fun v30 h31 =>
  aBin false false .eql v30 x0 fun v32 =>
  (h31 = h20 ∧ Q28 v32)) fun v33 =>
  K v33 h20))))

def runnellaw1_TypeTexts_ann : Nat → List Nat := fun _ => []

theorem runnellaw1_TypeTexts_eq (x0 : AV) (H : List Ob) (r : AV) (Ho : List Ob) : aBody Try.prog runnellaw1_TypeTexts_ann Try.f5 H [x0] r Ho = runnellaw1_TypeTexts x0 H (fun v H' => Gives H.length v H' r Ho) := by kernel_rfl

theorem runnellaw1_TypeTexts_fn {x0 : AV} {r : AV} {Ho : List Ob} (h : runnellaw1_TypeTexts x0 [] (fun v H' => Gives 0 v H' r Ho)) : Abs.Fn Try.prog runnellaw1_TypeTexts_i [] [x0] r Ho :=
  fn_intro mixed runnellaw1_TypeTexts_ann (fn := Try.f5) (by kernel_rfl) (by kernel_rfl) (by rw [runnellaw1_TypeTexts_eq]; exact h)

/- runnel/runnellaw1.TypeDeep -/
def runnellaw1_TypeDeep_L1 (q1s3 q1s4 y0 y1 : AV) (H : List Ob) (B1 : List AV → List Ob → Prop) (K : AV → List Ob → Prop) : Prop :=
  aBin false false .lss y1 q1s3 fun v10 =>
  aGuard v10
  (aLoad true 2 q1s4 H fun v11 =>
  aBuildSlice 2 [v11] fun v12 =>
  aBuild [(.p (.int .i64 0)), (.full [])] [(0, 1, (.p (.int .i64 4))), (1, 1, v12)] fun v13 =>
  aStore 2 q1s4 v13 H fun _ h15 =>
  aBin false false .add (.p (.str [40])) y0 fun v16 =>
  aBin false false .add v16 (.p (.str [41])) fun v17 =>
  aBin false false .add y1 (.p (.int .i64 1)) fun v18 =>
  B1 [v17, v18] h15)
  (aCall Try.prog (.p (.func typ_Parse_i [])) [y0] H fun v19 h20 =>
  aExtract v19 0 fun v21 =>
  aExtract v19 1 fun v22 =>
  aAlloc [(.p (.int .i64 0)), (.full [])] h20 fun v23 h24 =>
  aStore 2 v23 v21 h24 fun _ h26 =>
  aLoad true 2 q1s4 h26 fun v27 =>
  aCall Try.prog (.p (.func typ_Check_i [])) [v27] h26 fun v28 h29 =>
  aBin false false .gtr q1s3 (.p (.int .i64 5)) fun v30 =>
  aGuard v30
  (aBin false false .eql v22 (.p (.int .i64 9)) fun v31 =>
  aMerge true v31 (fun Q32 =>
  aBin false false .eql v28 (.p (.int .i64 9)) fun v33 =>
  (h29 = h29 ∧ Q32 v33)) fun v34 =>
  K v34 h29)
  (aBin false false .add v22 v28 fun v35 =>
  aBin false false .eql v35 (.p (.int .i64 0)) fun v36 =>
  aMerge true v36 (fun Q37 =>
  aLoad true 2 q1s4 h29 fun v38 =>
  aLoad true 2 v23 h29 fun v39 =>
  aCall Try.prog (.p (.func typ_Same_i [])) [v38, v39] h29 fun v40 h41 =>
  (h41 = h29 ∧ Q37 v40)) fun v42 =>
  aMerge true v42 (fun Q43 =>
  aLoad true 2 q1s4 h29 fun v44 =>
  aCall Try.prog (.p (.func typ_Text_i [])) [v44] h29 fun v45 h46 =>
  aBin false false .eql v45 y0 fun v47 =>
  (h46 = h29 ∧ Q43 v47)) fun v48 =>
  K v48 h29))

def runnellaw1_TypeDeep (x0 : AV) (H : List Ob) (K : AV → List Ob → Prop) : Prop :=
  aCall Try.prog (.p (.func runnellaw1_known_i [])) [] H fun v0 h1 =>
  aUn .not v0 fun v2 =>
  aGuard v2
  (K (.p (.bool false)) h1)
  (aBin false false .rem x0 (.p (.int .u8 10)) fun v3 =>
  aConvInt .i64 v3 fun v4 =>
  aBuild [(.p (.int .i64 0)), (.full [])] [(0, 1, (.p (.int .i64 1)))] fun v5 =>
  aAlloc [(.p (.int .i64 0)), (.full [])] h1 fun v6 h7 =>
  aStore 2 v6 v5 h7 fun _ h9 =>
  aLoopN 2 [(.p (.str [105, 110, 116])), (.p (.int .i64 0))] h9 fun xs H B1 => runnellaw1_TypeDeep_L1 v4 v6 (xs.getD 0 .top) (xs.getD 1 .top) H B1 K)

def runnellaw1_TypeDeep_ann : Nat → List Nat := fun k => match k with | 7 => [5, 6] | _ => []

theorem runnellaw1_TypeDeep_eq (x0 : AV) (H : List Ob) (r : AV) (Ho : List Ob) : aBody Try.prog runnellaw1_TypeDeep_ann Try.f6 H [x0] r Ho = runnellaw1_TypeDeep x0 H (fun v H' => Gives H.length v H' r Ho) := by kernel_rfl

theorem runnellaw1_TypeDeep_fn {x0 : AV} {r : AV} {Ho : List Ob} (h : runnellaw1_TypeDeep x0 [] (fun v H' => Gives 0 v H' r Ho)) : Abs.Fn Try.prog runnellaw1_TypeDeep_i [] [x0] r Ho :=
  fn_intro mixed runnellaw1_TypeDeep_ann (fn := Try.f6) (by kernel_rfl) (by kernel_rfl) (by rw [runnellaw1_TypeDeep_eq]; exact h)

/- runnel/runnellaw1.TypeWide -/
def runnellaw1_TypeWide_L1 (q1s1 q1s5 q1s6 y0 : AV) (H : List Ob) (B1 : List AV → List Ob → Prop) (K : AV → List Ob → Prop) : Prop :=
  aBin false false .lss y0 q1s5 fun v10 =>
  aGuard v10
  (aFieldAddr 1 q1s6 fun v11 =>
  aLoad false 1 v11 H fun v12 =>
  aBin false false .rem q1s1 (.p (.int .u8 3)) fun v13 =>
  aConvInt .i64 v13 fun v14 =>
  aBin false false .add (.p (.int .i64 1)) v14 fun v15 =>
  aBuild [(.p (.int .i64 0)), (.full [])] [(0, 1, v15)] fun v16 =>
  aBuildSlice 2 [v16] fun v17 =>
  aAppend false 2 32 v12 v17 H fun v18 h19 =>
  aFieldAddr 1 q1s6 fun v20 =>
  aStore 1 v20 v18 h19 fun _ h22 =>
  aBin false false .add y0 (.p (.int .i64 1)) fun v23 =>
  B1 [v23] h22)
  (aBin false false .eql q1s5 (.p (.int .i64 0)) fun v24 =>
  aGuard v24
  (aLoad true 2 q1s6 H fun v25 =>
  aCall Try.prog (.p (.func typ_Check_i [])) [v25] H fun v26 h27 =>
  aBin false false .eql v26 (.p (.int .i64 1)) fun v28 =>
  K v28 h27)
  (aBin false false .gtr q1s5 (.p (.int .i64 8)) fun v29 =>
  aGuard v29
  (aLoad true 2 q1s6 H fun v30 =>
  aCall Try.prog (.p (.func typ_Check_i [])) [v30] H fun v31 h32 =>
  aBin false false .eql v31 (.p (.int .i64 10)) fun v33 =>
  K v33 h32)
  (aLoad true 2 q1s6 H fun v34 =>
  aCall Try.prog (.p (.func typ_Check_i [])) [v34] H fun v35 h36 =>
  aBin false false .eql v35 (.p (.int .i64 0)) fun v37 =>
  K v37 h36)))

def runnellaw1_TypeWide (x0 x1 : AV) (H : List Ob) (K : AV → List Ob → Prop) : Prop :=
  aCall Try.prog (.p (.func runnellaw1_known_i [])) [] H fun v0 h1 =>
  aUn .not v0 fun v2 =>
  aGuard v2
  (K (.p (.bool false)) h1)
  (aBin false false .rem x0 (.p (.int .u8 12)) fun v3 =>
  aConvInt .i64 v3 fun v4 =>
  aBuild [(.p (.int .i64 0)), (.full [])] [(0, 1, (.p (.int .i64 4)))] fun v5 =>
  aAlloc [(.p (.int .i64 0)), (.full [])] h1 fun v6 h7 =>
  aStore 2 v6 v5 h7 fun _ h9 =>
  aLoopN 1 [(.p (.int .i64 0))] h9 fun xs H B1 => runnellaw1_TypeWide_L1 x1 v4 v6 (xs.getD 0 .top) H B1 K)

def runnellaw1_TypeWide_ann : Nat → List Nat := fun k => match k with | 6 => [7] | _ => []

theorem runnellaw1_TypeWide_eq (x0 x1 : AV) (H : List Ob) (r : AV) (Ho : List Ob) : aBody Try.prog runnellaw1_TypeWide_ann Try.f7 H [x0, x1] r Ho = runnellaw1_TypeWide x0 x1 H (fun v H' => Gives H.length v H' r Ho) := by kernel_rfl

theorem runnellaw1_TypeWide_fn {x0 x1 : AV} {r : AV} {Ho : List Ob} (h : runnellaw1_TypeWide x0 x1 [] (fun v H' => Gives 0 v H' r Ho)) : Abs.Fn Try.prog runnellaw1_TypeWide_i [] [x0, x1] r Ho :=
  fn_intro mixed runnellaw1_TypeWide_ann (fn := Try.f7) (by kernel_rfl) (by kernel_rfl) (by rw [runnellaw1_TypeWide_eq]; exact h)

/- runnel/runnellaw1.Of -/
def runnellaw1_Of_L1 (q1s1 q1s2 q1s3 y0 : AV) (H : List Ob) (B1 : List AV → List Ob → Prop) (K : AV → List Ob → Prop) : Prop :=
  aFieldAddr 1 q1s1 fun v11 =>
  aLoad false 1 v11 H fun v12 =>
  aLen false false v12 fun v13 =>
  aBin false false .lss y0 v13 fun v14 =>
  aGuard v14
  (aFieldAddr 1 q1s3 fun v15 =>
  aLoad false 1 v15 H fun v16 =>
  aFieldAddr 1 q1s1 fun v17 =>
  aLoad false 1 v17 H fun v18 =>
  aIndexAddr 2 v18 y0 fun v19 =>
  aLoad true 2 v19 H fun v20 =>
  aCallT Try.prog (.p (.func runnellaw1_Of_i [])) [v20] fun v21 =>
  aBuildSlice 2 [v21] fun v22 =>
  aAppend false 2 32 v16 v22 H fun v23 h24 =>
  aFieldAddr 1 q1s3 fun v25 =>
  aStore 1 v25 v23 h24 fun _ h27 =>
  aBin false false .add y0 (.p (.int .i64 1)) fun v28 =>
  B1 [v28] h27)
  (aLoad true 2 q1s3 H fun v29 =>
  aStore 2 q1s2 v29 H fun _ h31 =>
  aLoad true 2 q1s2 h31 fun v32 =>
  K v32 h31)

def runnellaw1_Of (x0 : AV) (H : List Ob) (K : AV → List Ob → Prop) : Prop :=
  aBox x0 H fun v0 h1 =>
  aAlloc [(.p (.int .i64 0)), (.full [])] h1 fun v2 h3 =>
  aFieldAddr 0 v0 fun v4 =>
  aLoad false 1 v4 h3 fun v5 =>
  aBuild [(.p (.int .i64 0)), (.full [])] [(0, 1, v5)] fun v6 =>
  aAlloc [(.p (.int .i64 0)), (.full [])] h3 fun v7 h8 =>
  aStore 2 v7 v6 h8 fun _ h10 =>
  aLoopN 1 [(.p (.int .i64 0))] h10 fun xs H B1 => runnellaw1_Of_L1 v0 v2 v7 (xs.getD 0 .top) H B1 K

def runnellaw1_Of_ann : Nat → List Nat := fun k => match k with | 3 => [4] | _ => []

theorem runnellaw1_Of_eq (x0 : AV) (H : List Ob) (r : AV) (Ho : List Ob) : aBody Try.prog runnellaw1_Of_ann Try.f12 H [x0] r Ho = runnellaw1_Of x0 H (fun v H' => Gives H.length v H' r Ho) := by kernel_rfl

theorem runnellaw1_Of_fn {x0 : AV} {r : AV} {Ho : List Ob} (h : runnellaw1_Of x0 [] (fun v H' => Gives 0 v H' r Ho)) : Abs.Fn Try.prog runnellaw1_Of_i [] [x0] r Ho :=
  fn_intro mixed runnellaw1_Of_ann (fn := Try.f12) (by kernel_rfl) (by kernel_rfl) (by rw [runnellaw1_Of_eq]; exact h)

/- runnel/runnellaw1.known -/
def runnellaw1_known (H : List Ob) (K : AV → List Ob → Prop) : Prop :=
  aCall Try.prog (.p (.func typ_Parse_i [])) [(.p (.str [40, 105, 110, 116, 44, 40, 116, 101, 120, 116, 44, 98, 111, 111, 108, 41, 41]))] H fun v0 h1 =>
  aExtract v0 0 fun v2 =>
  aExtract v0 1 fun v3 =>
  aAlloc [(.p (.int .i64 0)), (.full [])] h1 fun v4 h5 =>
  aStore 2 v4 v2 h5 fun _ h7 =>
  aCall Try.prog (.p (.func typ_Parse_i [])) [(.p (.str [40, 105, 110, 116]))] h7 fun v8 h9 =>
  aExtract v8 0 fun v10 =>
  aExtract v8 1 fun v11 =>
  aAlloc [(.p (.int .i64 0)), (.full [])] h9 fun v12 h13 =>
  aStore 2 v12 v10 h13 fun _ h15 =>
  aCall Try.prog (.p (.func typ_Parse_i [])) [(.p (.str [40, 41]))] h15 fun v16 h17 =>
  aExtract v16 0 fun v18 =>
  aExtract v16 1 fun v19 =>
  aAlloc [(.p (.int .i64 0)), (.full [])] h17 fun v20 h21 =>
  aStore 2 v20 v18 h21 fun _ h23 =>
  aBin false false .eql v3 (.p (.int .i64 0)) fun v24 =>
  aGuard v24
  (aFieldAddr 0 v4 fun v25 =>
  aLoad false 1 v25 h23 fun v26 =>
  aBin false false .eql v26 (.p (.int .i64 4)) fun v27 =>
  aGuard v27
  (aFieldAddr 1 v4 fun v28 =>
  aLoad false 1 v28 h23 fun v29 =>
  aLen true false v29 fun v30 =>
  aBin false false .eql v30 (.p (.int .i64 2)) fun v31 =>
  aGuard v31
  (aLoad true 2 v4 h23 fun v32 =>
  aCallT Try.prog (.p (.func typ_Text_i [])) [v32] fun v33 =>
  aBin false false .eql v33 (.p (.str [40, 105, 110, 116, 44, 40, 116, 101, 120, 116, 44, 98, 111, 111, 108, 41, 41])) fun v34 =>
  aGuard v34
  (aBin false false .eql v11 (.p (.int .i64 2)) fun v35 =>
  aGuard v35
  (aBin false false .eql v19 (.p (.int .i64 1)) fun v36 =>
  aGuard v36
  (aLoad true 2 v4 h23 fun v37 =>
  aCallT Try.prog (.p (.func typ_Check_i [])) [v37] fun v38 =>
  aBin false false .eql v38 (.p (.int .i64 0)) fun v39 =>
  aGuard v39
  (aLoad true 2 v4 h23 fun v40 =>
  aLoad true 2 v4 h23 fun v41 =>
  aCallT Try.prog (.p (.func typ_Same_i [])) [v40, v41] fun v42 =>
  aGuard v42
  (aLoad true 2 v4 h23 fun v43 =>
  aFieldAddr 1 v4 fun v44 =>
  aLoad false 1 v44 h23 fun v45 =>
  aIndexAddr 2 v45 (.p (.int .i64 0)) fun v46 =>
  aLoad true 2 v46 h23 fun v47 =>
  aCallT Try.prog (.p (.func typ_Same_i [])) [v43, v47] fun v48 =>
  aUn .not v48 fun v49 =>
  K v49 h23)
  (K (.p (.bool false)) h23))
  (K (.p (.bool false)) h23))
  (K (.p (.bool false)) h23))
  (K (.p (.bool false)) h23))
  (K (.p (.bool false)) h23))
  (K (.p (.bool false)) h23))
  (K (.p (.bool false)) h23))
  (K (.p (.bool false)) h23)

def runnellaw1_known_ann : Nat → List Nat := fun _ => []

theorem runnellaw1_known_eq (H : List Ob) (r : AV) (Ho : List Ob) : aBody Try.prog runnellaw1_known_ann Try.f27 H [] r Ho = runnellaw1_known H (fun v H' => Gives H.length v H' r Ho) := by kernel_rfl

theorem runnellaw1_known_fn {r : AV} {Ho : List Ob} (h : runnellaw1_known [] (fun v H' => Gives 0 v H' r Ho)) : Abs.Fn Try.prog runnellaw1_known_i [] [] r Ho :=
  fn_intro mixed runnellaw1_known_ann (fn := Try.f27) (by kernel_rfl) (by kernel_rfl) (by rw [runnellaw1_known_eq]; exact h)

/- runnel/typ.Parse -/
def typ_Parse (x0 : AV) (H : List Ob) (K : AV → List Ob → Prop) : Prop :=
  aAlloc [(.p (.int .i64 0)), (.full [])] H fun v0 h1 =>
  aCall Try.prog (.p (.func typ_read_i [])) [x0] h1 fun v2 h3 =>
  aExtract v2 0 fun v4 =>
  aExtract v2 1 fun v5 =>
  aExtract v2 2 fun v6 =>
  aAlloc [(.p (.int .i64 0)), (.full [])] h3 fun v7 h8 =>
  aStore 2 v7 v4 h8 fun _ h10 =>
  aUn .not v6 fun v11 =>
  aMerge false v11 (fun Q12 =>
  aBin false false .neq v5 (.p (.str [])) fun v13 =>
  (h10 = h10 ∧ Q12 v13)) fun v14 =>
  aGuard v14
  (aBuild [(.p (.int .i64 0)), (.full [])] [] fun v15 =>
  aStore 2 v0 v15 h10 fun _ h17 =>
  aLoad true 2 v0 h17 fun v18 =>
  K (.tup [v18, (.p (.int .i64 2))]) h17)
  (aLoad true 2 v7 h10 fun v19 =>
  aCall Try.prog (.p (.func typ_Check_i [])) [v19] h10 fun v20 h21 =>
  aBin false false .neq v20 (.p (.int .i64 0)) fun v22 =>
  aGuard v22
  (aBuild [(.p (.int .i64 0)), (.full [])] [] fun v23 =>
  aStore 2 v0 v23 h21 fun _ h25 =>
  aLoad true 2 v0 h25 fun v26 =>
  K (.tup [v26, v20]) h25)
  (aLoad true 2 v7 h21 fun v27 =>
  aStore 2 v0 v27 h21 fun _ h29 =>
  aLoad true 2 v0 h29 fun v30 =>
  K (.tup [v30, (.p (.int .i64 0))]) h29))

def typ_Parse_ann : Nat → List Nat := fun _ => []

theorem typ_Parse_eq (x0 : AV) (H : List Ob) (r : AV) (Ho : List Ob) : aBody Try.prog typ_Parse_ann Try.f28 H [x0] r Ho = typ_Parse x0 H (fun v H' => Gives H.length v H' r Ho) := by kernel_rfl

theorem typ_Parse_fn {x0 : AV} {r : AV} {Ho : List Ob} (h : typ_Parse x0 [] (fun v H' => Gives 0 v H' r Ho)) : Abs.Fn Try.prog typ_Parse_i [] [x0] r Ho :=
  fn_intro mixed typ_Parse_ann (fn := Try.f28) (by kernel_rfl) (by kernel_rfl) (by rw [typ_Parse_eq]; exact h)

/- runnel/runnelref6.ParseType -/
def runnelref6_ParseType (x0 : AV) (H : List Ob) (K : AV → List Ob → Prop) : Prop :=
  aAlloc [(.p (.int .i64 0)), (.full [])] H fun v0 h1 =>
  aCall Try.prog (.p (.func runnelref6_typeAt_i [])) [x0, (.p (.int .i64 0))] h1 fun v2 h3 =>
  aExtract v2 0 fun v4 =>
  aExtract v2 1 fun v5 =>
  aAlloc [(.p (.int .i64 0)), (.full [])] h3 fun v6 h7 =>
  aStore 2 v6 v4 h7 fun _ h9 =>
  aLen false true x0 fun v10 =>
  aBin false false .neq v5 v10 fun v11 =>
  aGuard v11
  (aBuild [(.p (.int .i64 0)), (.full [])] [] fun v12 =>
  aStore 2 v0 v12 h9 fun _ h14 =>
  aLoad true 2 v0 h14 fun v15 =>
  K (.tup [v15, (.p (.int .i64 2))]) h14)
  (aLoad true 2 v6 h9 fun v16 =>
  aCall Try.prog (.p (.func runnelref6_CheckType_i [])) [v16] h9 fun v17 h18 =>
  aBin false false .neq v17 (.p (.int .i64 0)) fun v19 =>
  aGuard v19
  (aBuild [(.p (.int .i64 0)), (.full [])] [] fun v20 =>
  aStore 2 v0 v20 h18 fun _ h22 =>
  aLoad true 2 v0 h22 fun v23 =>
  K (.tup [v23, v17]) h22)
  (aLoad true 2 v6 h18 fun v24 =>
  aStore 2 v0 v24 h18 fun _ h26 =>
  aLoad true 2 v0 h26 fun v27 =>
  K (.tup [v27, (.p (.int .i64 0))]) h26))

def runnelref6_ParseType_ann : Nat → List Nat := fun _ => []

theorem runnelref6_ParseType_eq (x0 : AV) (H : List Ob) (r : AV) (Ho : List Ob) : aBody Try.prog runnelref6_ParseType_ann Try.f29 H [x0] r Ho = runnelref6_ParseType x0 H (fun v H' => Gives H.length v H' r Ho) := by kernel_rfl

theorem runnelref6_ParseType_fn {x0 : AV} {r : AV} {Ho : List Ob} (h : runnelref6_ParseType x0 [] (fun v H' => Gives 0 v H' r Ho)) : Abs.Fn Try.prog runnelref6_ParseType_i [] [x0] r Ho :=
  fn_intro mixed runnelref6_ParseType_ann (fn := Try.f29) (by kernel_rfl) (by kernel_rfl) (by rw [runnelref6_ParseType_eq]; exact h)

/- runnel/runnelref6.SameType -/
def runnelref6_SameType_L1 (q1s2 q1s3 y0 : AV) (H : List Ob) (B1 : List AV → List Ob → Prop) (K : AV → List Ob → Prop) : Prop :=
  aFieldAddr 1 q1s2 fun v18 =>
  aLoad false 1 v18 H fun v19 =>
  aLen false false v19 fun v20 =>
  aBin false false .lss y0 v20 fun v21 =>
  aGuard v21
  (aFieldAddr 1 q1s2 fun v22 =>
  aLoad false 1 v22 H fun v23 =>
  aIndexAddr 2 v23 y0 fun v24 =>
  aLoad true 2 v24 H fun v25 =>
  aFieldAddr 1 q1s3 fun v26 =>
  aLoad false 1 v26 H fun v27 =>
  aIndexAddr 2 v27 y0 fun v28 =>
  aLoad true 2 v28 H fun v29 =>
  aCallT Try.prog (.p (.func runnelref6_SameType_i [])) [v25, v29] fun v30 =>
  aUn .not v30 fun v31 =>
  aGuard v31
  (K (.p (.bool false)) H)
  (aBin false false .add y0 (.p (.int .i64 1)) fun v32 =>
  B1 [v32] H))
  (K (.p (.bool true)) H)

def runnelref6_SameType (x0 x1 : AV) (H : List Ob) (K : AV → List Ob → Prop) : Prop :=
  aBox x0 H fun v0 h1 =>
  aBox x1 h1 fun v2 h3 =>
  aFieldAddr 0 v0 fun v4 =>
  aLoad false 1 v4 h3 fun v5 =>
  aFieldAddr 0 v2 fun v6 =>
  aLoad false 1 v6 h3 fun v7 =>
  aBin false false .neq v5 v7 fun v8 =>
  aMerge false v8 (fun Q9 =>
  aFieldAddr 1 v0 fun v10 =>
  aLoad false 1 v10 h3 fun v11 =>
  aLenS false v11 fun v12 =>
  aFieldAddr 1 v2 fun v13 =>
  aLoad false 1 v13 h3 fun v14 =>
  aLenS false v14 fun v15 =>
  aBin false false .neq v12 v15 fun v16 =>
  (h3 = h3 ∧ Q9 v16)) fun v17 =>
  aGuard v17
  (K (.p (.bool false)) h3)
  (aLoopN 1 [(.p (.int .i64 0))] h3 fun xs H B1 => runnelref6_SameType_L1 v0 v2 (xs.getD 0 .top) H B1 K)

def runnelref6_SameType_ann : Nat → List Nat := fun k => match k with | 4 => [5] | _ => []

theorem runnelref6_SameType_eq (x0 x1 : AV) (H : List Ob) (r : AV) (Ho : List Ob) : aBody Try.prog runnelref6_SameType_ann Try.f30 H [x0, x1] r Ho = runnelref6_SameType x0 x1 H (fun v H' => Gives H.length v H' r Ho) := by kernel_rfl

theorem runnelref6_SameType_fn {x0 x1 : AV} {r : AV} {Ho : List Ob} (h : runnelref6_SameType x0 x1 [] (fun v H' => Gives 0 v H' r Ho)) : Abs.Fn Try.prog runnelref6_SameType_i [] [x0, x1] r Ho :=
  fn_intro mixed runnelref6_SameType_ann (fn := Try.f30) (by kernel_rfl) (by kernel_rfl) (by rw [runnelref6_SameType_eq]; exact h)

/- runnel/typ.Text -/
def typ_Text_L1 (q1s13 q1s14 y0 y1 : AV) (H : List Ob) (B1 : List AV → List Ob → Prop) (K : AV → List Ob → Prop) : Prop :=
  aBin false false .lss y1 q1s14 fun v12 =>
  aGuard v12
  (aIndexAddr 2 q1s13 y1 fun v13 =>
  aLoad true 2 v13 H fun v14 =>
  aAlloc [(.p (.int .i64 0)), (.full [])] H fun v15 h16 =>
  aStore 2 v15 v14 h16 fun _ h18 =>
  aLoad true 2 v15 h18 fun v19 =>
  aCall Try.prog (.p (.func typ_Text_i [])) [v19] h18 fun v20 h21 =>
  aBuildSlice 1 [v20] fun v22 =>
  aAppend false 1 16 y0 v22 h21 fun v23 h24 =>
  aBin false false .add y1 (.p (.int .i64 1)) fun v25 =>
  B1 [v23, v25] h24)
  (aCall Try.prog (.p (.func strings_Join_i [])) [y0, (.p (.str [44]))] H fun v26 h27 =>
  aBin false false .add (.p (.str [40])) v26 fun v28 =>
  aBin false false .add v28 (.p (.str [41])) fun v29 =>
  K v29 h27)

def typ_Text (x0 : AV) (H : List Ob) (K : AV → List Ob → Prop) : Prop :=
  aBox x0 H fun v0 h1 =>
  aFieldAddr 0 v0 fun v2 =>
  aLoad false 1 v2 h1 fun v3 =>
  aBin false false .neq v3 (.p (.int .i64 4)) fun v4 =>
  aGuard v4
  (aFieldAddr 0 v0 fun v5 =>
  aLoad false 1 v5 h1 fun v6 =>
  aCall Try.prog (.p (.func typ_word_i [])) [v6] h1 fun v7 h8 =>
  K v7 h8)
  (aFieldAddr 1 v0 fun v9 =>
  aLoad false 1 v9 h1 fun v10 =>
  aLen false false v10 fun v11 =>
  aLoopN 2 [(.full []), (.p (.int .i64 0))] h1 fun xs H B1 => typ_Text_L1 v10 v11 (xs.getD 0 .top) (xs.getD 1 .top) H B1 K)

def typ_Text_ann : Nat → List Nat := fun k => match k with | 5 => [3, 15] | _ => []

theorem typ_Text_eq (x0 : AV) (H : List Ob) (r : AV) (Ho : List Ob) : aBody Try.prog typ_Text_ann Try.f31 H [x0] r Ho = typ_Text x0 H (fun v H' => Gives H.length v H' r Ho) := by kernel_rfl

theorem typ_Text_fn {x0 : AV} {r : AV} {Ho : List Ob} (h : typ_Text x0 [] (fun v H' => Gives 0 v H' r Ho)) : Abs.Fn Try.prog typ_Text_i [] [x0] r Ho :=
  fn_intro mixed typ_Text_ann (fn := Try.f31) (by kernel_rfl) (by kernel_rfl) (by rw [typ_Text_eq]; exact h)

/- runnel/typ.Check -/
def typ_Check (x0 : AV) (H : List Ob) (K : AV → List Ob → Prop) : Prop :=
  aBox x0 H fun v0 h1 =>
  aLoad true 2 v0 h1 fun v2 =>
  aCall Try.prog (.p (.func typ_check_i [])) [v2, (.p (.int .i64 0))] h1 fun v3 h4 =>
  K v3 h4

def typ_Check_ann : Nat → List Nat := fun _ => []

theorem typ_Check_eq (x0 : AV) (H : List Ob) (r : AV) (Ho : List Ob) : aBody Try.prog typ_Check_ann Try.f32 H [x0] r Ho = typ_Check x0 H (fun v H' => Gives H.length v H' r Ho) := by kernel_rfl

theorem typ_Check_fn {x0 : AV} {r : AV} {Ho : List Ob} (h : typ_Check x0 [] (fun v H' => Gives 0 v H' r Ho)) : Abs.Fn Try.prog typ_Check_i [] [x0] r Ho :=
  fn_intro mixed typ_Check_ann (fn := Try.f32) (by kernel_rfl) (by kernel_rfl) (by rw [typ_Check_eq]; exact h)

/- runnel/typ.Same -/
def typ_Same (x0 x1 : AV) (H : List Ob) (K : AV → List Ob → Prop) : Prop :=
  aBox x0 H fun v0 h1 =>
  aBox x1 h1 fun v2 h3 =>
  aFieldAddr 0 v0 fun v4 =>
  aLoad false 1 v4 h3 fun v5 =>
  aFieldAddr 0 v2 fun v6 =>
  aLoad false 1 v6 h3 fun v7 =>
  aBin false false .eql v5 v7 fun v8 =>
  aMerge true v8 (fun Q9 =>
  aFieldAddr 1 v0 fun v10 =>
  aLoad false 1 v10 h3 fun v11 =>
  aFieldAddr 1 v2 fun v12 =>
  aLoad false 1 v12 h3 fun v13 =>
  aCall Try.prog (.p (.func slices_EqualFunc_typ_Type_typ_Type_typ_Type_typ_Type_i [])) [v11, v13, (.p (.func typ_Same_i []))] h3 fun v14 h15 =>
  (h15 = h3 ∧ Q9 v14)) fun v16 =>
  K v16 h3

def typ_Same_ann : Nat → List Nat := fun _ => []

theorem typ_Same_eq (x0 x1 : AV) (H : List Ob) (r : AV) (Ho : List Ob) : aBody Try.prog typ_Same_ann Try.f33 H [x0, x1] r Ho = typ_Same x0 x1 H (fun v H' => Gives H.length v H' r Ho) := by kernel_rfl

theorem typ_Same_fn {x0 x1 : AV} {r : AV} {Ho : List Ob} (h : typ_Same x0 x1 [] (fun v H' => Gives 0 v H' r Ho)) : Abs.Fn Try.prog typ_Same_i [] [x0, x1] r Ho :=
  fn_intro mixed typ_Same_ann (fn := Try.f33) (by kernel_rfl) (by kernel_rfl) (by rw [typ_Same_eq]; exact h)

/- runnel/runnelref6.CheckType -/
def runnelref6_CheckType (x0 : AV) (H : List Ob) (K : AV → List Ob → Prop) : Prop :=
  aBox x0 H fun v0 h1 =>
  aLoad true 2 v0 h1 fun v2 =>
  aCall Try.prog (.p (.func runnelref6_checkType_i [])) [v2, (.p (.int .i64 0))] h1 fun v3 h4 =>
  K v3 h4

def runnelref6_CheckType_ann : Nat → List Nat := fun _ => []

theorem runnelref6_CheckType_eq (x0 : AV) (H : List Ob) (r : AV) (Ho : List Ob) : aBody Try.prog runnelref6_CheckType_ann Try.f40 H [x0] r Ho = runnelref6_CheckType x0 H (fun v H' => Gives H.length v H' r Ho) := by kernel_rfl

theorem runnelref6_CheckType_fn {x0 : AV} {r : AV} {Ho : List Ob} (h : runnelref6_CheckType x0 [] (fun v H' => Gives 0 v H' r Ho)) : Abs.Fn Try.prog runnelref6_CheckType_i [] [x0] r Ho :=
  fn_intro mixed runnelref6_CheckType_ann (fn := Try.f40) (by kernel_rfl) (by kernel_rfl) (by rw [runnelref6_CheckType_eq]; exact h)

/- runnel/typ.read -/
def typ_read_L2 (q2s2 q2s11 y0 y1 : AV) (H : List Ob) (B2 : List AV → List Ob → Prop) (K : AV → List Ob → Prop) : Prop :=
  aGuard y1
  (aAlloc [(.p (.int .i64 0)), (.full [])] H fun v37 h38 =>
  aCall Try.prog (.p (.func typ_read_i [])) [y0] h38 fun v39 h40 =>
  aExtract v39 0 fun v41 =>
  aExtract v39 1 fun v42 =>
  aExtract v39 2 fun v43 =>
  aStore 2 v37 v41 h40 fun _ h45 =>
  aUn .not v43 fun v46 =>
  aGuard v46
  (aBuild [(.p (.int .i64 0)), (.full [])] [] fun v47 =>
  aStore 2 q2s2 v47 h45 fun _ h49 =>
  aLoad true 2 q2s2 h49 fun v50 =>
  K (.tup [v50, (.p (.str [])), (.p (.bool false))]) h49)
  (aFieldAddr 1 q2s11 fun v51 =>
  aLoad false 1 v51 h45 fun v52 =>
  aLoad true 2 v37 h45 fun v53 =>
  aBuildSlice 2 [v53] fun v54 =>
  aAppend false 2 32 v52 v54 h45 fun v55 h56 =>
  aFieldAddr 1 q2s11 fun v57 =>
  aStore 1 v57 v55 h56 fun _ h59 =>
  aCall Try.prog (.p (.func strings_CutPrefix_i [])) [v42, (.p (.str [41]))] h59 fun v60 h61 =>
  aExtract v60 0 fun v62 =>
  aExtract v60 1 fun v63 =>
  aGuard v63
  (aLoad true 2 q2s11 h61 fun v64 =>
  aStore 2 q2s2 v64 h61 fun _ h66 =>
  aLoad true 2 q2s2 h66 fun v67 =>
  K (.tup [v67, v62, (.p (.bool true))]) h66)
  (aCall Try.prog (.p (.func strings_CutPrefix_i [])) [v42, (.p (.str [44]))] h61 fun v68 h69 =>
  aExtract v68 0 fun v70 =>
  aExtract v68 1 fun v71 =>
  B2 [v70, v71] h69)))
  (aBuild [(.p (.int .i64 0)), (.full [])] [] fun v72 =>
  aStore 2 q2s2 v72 H fun _ h74 =>
  aLoad true 2 q2s2 h74 fun v75 =>
  K (.tup [v75, (.p (.str [])), (.p (.bool false))]) h74)

def typ_read_L1 (q1s0 q1s2 q1s17 q1s18 y0 : AV) (H : List Ob) (B1 : List AV → List Ob → Prop) (K : AV → List Ob → Prop) : Prop :=
  aBin false false .lss y0 q1s18 fun v4 =>
  aGuard v4
  (aIndexAddr 1 q1s17 y0 fun v5 =>
  aLoad false 1 v5 H fun v6 =>
  aCall Try.prog (.p (.func typ_word_i [])) [v6] H fun v7 h8 =>
  aCall Try.prog (.p (.func strings_CutPrefix_i [])) [q1s0, v7] h8 fun v9 h10 =>
  aExtract v9 0 fun v11 =>
  aExtract v9 1 fun v12 =>
  aGuard v12
  (aBuild [(.p (.int .i64 0)), (.full [])] [(0, 1, v6)] fun v13 =>
  aStore 2 q1s2 v13 h10 fun _ h15 =>
  aLoad true 2 q1s2 h15 fun v16 =>
  K (.tup [v16, v11, (.p (.bool true))]) h15)
  (aBin false false .add y0 (.p (.int .i64 1)) fun v17 =>
  B1 [v17] h10))
  (aCall Try.prog (.p (.func strings_CutPrefix_i [])) [q1s0, (.p (.str [40]))] H fun v18 h19 =>
  aExtract v18 0 fun v20 =>
  aExtract v18 1 fun v21 =>
  aBuild [(.p (.int .i64 0)), (.full [])] [(0, 1, (.p (.int .i64 4)))] fun v22 =>
  aAlloc [(.p (.int .i64 0)), (.full [])] h19 fun v23 h24 =>
  aStore 2 v23 v22 h24 fun _ h26 =>
  aCall Try.prog (.p (.func strings_CutPrefix_i [])) [v20, (.p (.str [41]))] h26 fun v27 h28 =>
  aExtract v27 0 fun v29 =>
  aExtract v27 1 fun v30 =>
  aMerge true v21 (fun Q31 =>
  (h28 = h28 ∧ Q31 v30)) fun v32 =>
  aGuard v32
  (aLoad true 2 v23 h28 fun v33 =>
  aStore 2 q1s2 v33 h28 fun _ h35 =>
  aLoad true 2 q1s2 h35 fun v36 =>
  K (.tup [v36, v29, (.p (.bool true))]) h35)
  (aLoopN 2 [v20, v21] h28 fun xs H B2 => typ_read_L2 q1s2 v23 (xs.getD 0 .top) (xs.getD 1 .top) H B2 K))

def typ_read (x0 : AV) (H : List Ob) (K : AV → List Ob → Prop) : Prop :=
  aAlloc [(.p (.int .i64 0)), (.full [])] H fun v0 h1 =>
  aBuildSlice 1 [(.p (.int .i64 1)), (.p (.int .i64 2)), (.p (.int .i64 3))] fun v2 =>
  aLen false false v2 fun v3 =>
  aLoopN 1 [(.p (.int .i64 0))] h1 fun xs H B1 => typ_read_L1 x0 v0 v2 v3 (xs.getD 0 .top) H B1 K

def typ_read_ann : Nat → List Nat := fun k => match k with | 2 => [19] | 13 => [9, 10] | _ => []

theorem typ_read_eq (x0 : AV) (H : List Ob) (r : AV) (Ho : List Ob) : aBody Try.prog typ_read_ann Try.f55 H [x0] r Ho = typ_read x0 H (fun v H' => Gives H.length v H' r Ho) := by kernel_rfl

theorem typ_read_fn {x0 : AV} {r : AV} {Ho : List Ob} (h : typ_read x0 [] (fun v H' => Gives 0 v H' r Ho)) : Abs.Fn Try.prog typ_read_i [] [x0] r Ho :=
  fn_intro mixed typ_read_ann (fn := Try.f55) (by kernel_rfl) (by kernel_rfl) (by rw [typ_read_eq]; exact h)

/- runnel/runnelref6.typeAt -/
def runnelref6_typeAt_L1 (q1s0 q1s4 q1s6 y0 : AV) (H : List Ob) (B1 : List AV → List Ob → Prop) (K : AV → List Ob → Prop) : Prop :=
  aCall Try.prog (.p (.func runnelref6_typeAt_i [])) [q1s0, y0] H fun v43 h44 =>
  aExtract v43 0 fun v45 =>
  aExtract v43 1 fun v46 =>
  aAlloc [(.p (.int .i64 0)), (.full [])] h44 fun v47 h48 =>
  aStore 2 v47 v45 h48 fun _ h50 =>
  aBin false false .lss v46 (.p (.int .i64 0)) fun v51 =>
  aGuard v51
  (aBuild [(.p (.int .i64 0)), (.full [])] [] fun v52 =>
  aStore 2 q1s4 v52 h50 fun _ h54 =>
  aLoad true 2 q1s4 h54 fun v55 =>
  K (.tup [v55, (.p (.int .i64 (-1)))]) h54)
  (aFieldAddr 1 q1s6 fun v56 =>
  aLoad false 1 v56 h50 fun v57 =>
  aLoad true 2 v47 h50 fun v58 =>
  aBuildSlice 2 [v58] fun v59 =>
  aAppend false 2 32 v57 v59 h50 fun v60 h61 =>
  aFieldAddr 1 q1s6 fun v62 =>
  aStore 1 v62 v60 h61 fun _ h64 =>
  aCall Try.prog (.p (.func runnelref6_front_i [])) [q1s0, v46, (.p (.str [41]))] h64 fun v65 h66 =>
  aGuard v65
  (aLoad true 2 q1s6 h66 fun v67 =>
  aBin false false .add v46 (.p (.int .i64 1)) fun v68 =>
  aStore 2 q1s4 v67 h66 fun _ h70 =>
  aLoad true 2 q1s4 h70 fun v71 =>
  K (.tup [v71, v68]) h70)
  (aCall Try.prog (.p (.func runnelref6_front_i [])) [q1s0, v46, (.p (.str [44]))] h66 fun v72 h73 =>
  aUn .not v72 fun v74 =>
  aGuard v74
  (aBuild [(.p (.int .i64 0)), (.full [])] [] fun v75 =>
  aStore 2 q1s4 v75 h73 fun _ h77 =>
  aLoad true 2 q1s4 h77 fun v78 =>
  K (.tup [v78, (.p (.int .i64 (-1)))]) h77)
  (aBin false false .add v46 (.p (.int .i64 1)) fun v79 =>
  B1 [v79] h73)))

def runnelref6_typeAt (x0 x1 : AV) (H : List Ob) (K : AV → List Ob → Prop) : Prop :=
  aAlloc [(.p (.int .i64 0)), (.full [])] H fun v0 h1 =>
  aCall Try.prog (.p (.func runnelref6_front_i [])) [x0, x1, (.p (.str [105, 110, 116]))] h1 fun v2 h3 =>
  aGuard v2
  (aBuild [(.p (.int .i64 0)), (.full [])] [(0, 1, (.p (.int .i64 1)))] fun v4 =>
  aBin false false .add x1 (.p (.int .i64 3)) fun v5 =>
  aStore 2 v0 v4 h3 fun _ h7 =>
  aLoad true 2 v0 h7 fun v8 =>
  K (.tup [v8, v5]) h7)
  (aCall Try.prog (.p (.func runnelref6_front_i [])) [x0, x1, (.p (.str [98, 111, 111, 108]))] h3 fun v9 h10 =>
  aGuard v9
  (aBuild [(.p (.int .i64 0)), (.full [])] [(0, 1, (.p (.int .i64 2)))] fun v11 =>
  aBin false false .add x1 (.p (.int .i64 4)) fun v12 =>
  aStore 2 v0 v11 h10 fun _ h14 =>
  aLoad true 2 v0 h14 fun v15 =>
  K (.tup [v15, v12]) h14)
  (aCall Try.prog (.p (.func runnelref6_front_i [])) [x0, x1, (.p (.str [116, 101, 120, 116]))] h10 fun v16 h17 =>
  aGuard v16
  (aBuild [(.p (.int .i64 0)), (.full [])] [(0, 1, (.p (.int .i64 3)))] fun v18 =>
  aBin false false .add x1 (.p (.int .i64 4)) fun v19 =>
  aStore 2 v0 v18 h17 fun _ h21 =>
  aLoad true 2 v0 h21 fun v22 =>
  K (.tup [v22, v19]) h21)
  (aCall Try.prog (.p (.func runnelref6_front_i [])) [x0, x1, (.p (.str [40, 41]))] h17 fun v23 h24 =>
  aGuard v23
  (aBuild [(.p (.int .i64 0)), (.full [])] [(0, 1, (.p (.int .i64 4)))] fun v25 =>
  aBin false false .add x1 (.p (.int .i64 2)) fun v26 =>
  aStore 2 v0 v25 h24 fun _ h28 =>
  aLoad true 2 v0 h28 fun v29 =>
  K (.tup [v29, v26]) h28)
  (aCall Try.prog (.p (.func runnelref6_front_i [])) [x0, x1, (.p (.str [40]))] h24 fun v30 h31 =>
  aUn .not v30 fun v32 =>
  aGuard v32
  (aBuild [(.p (.int .i64 0)), (.full [])] [] fun v33 =>
  aStore 2 v0 v33 h31 fun _ h35 =>
  aLoad true 2 v0 h35 fun v36 =>
  K (.tup [v36, (.p (.int .i64 (-1)))]) h35)
  (aBuild [(.p (.int .i64 0)), (.full [])] [(0, 1, (.p (.int .i64 4)))] fun v37 =>
  aAlloc [(.p (.int .i64 0)), (.full [])] h31 fun v38 h39 =>
  aStore 2 v38 v37 h39 fun _ h41 =>
  aBin false false .add x1 (.p (.int .i64 1)) fun v42 =>
  aLoopN 1 [v42] h41 fun xs H B1 => runnelref6_typeAt_L1 x0 v0 v38 (xs.getD 0 .top) H B1 K)))))

def runnelref6_typeAt_ann : Nat → List Nat := fun k => match k with | 13 => [1] | _ => []

theorem runnelref6_typeAt_eq (x0 x1 : AV) (H : List Ob) (r : AV) (Ho : List Ob) : aBody Try.prog runnelref6_typeAt_ann Try.f56 H [x0, x1] r Ho = runnelref6_typeAt x0 x1 H (fun v H' => Gives H.length v H' r Ho) := by kernel_rfl

theorem runnelref6_typeAt_fn {x0 x1 : AV} {r : AV} {Ho : List Ob} (h : runnelref6_typeAt x0 x1 [] (fun v H' => Gives 0 v H' r Ho)) : Abs.Fn Try.prog runnelref6_typeAt_i [] [x0, x1] r Ho :=
  fn_intro mixed runnelref6_typeAt_ann (fn := Try.f56) (by kernel_rfl) (by kernel_rfl) (by rw [runnelref6_typeAt_eq]; exact h)

/- runnel/typ.word -/
def typ_word (x0 : AV) (H : List Ob) (K : AV → List Ob → Prop) : Prop :=
  aBin false false .eql x0 (.p (.int .i64 1)) fun v0 =>
  aGuard v0
  (K (.p (.str [105, 110, 116])) H)
  (aBin false false .eql x0 (.p (.int .i64 2)) fun v1 =>
  aGuard v1
  (K (.p (.str [98, 111, 111, 108])) H)
  (aBin false false .eql x0 (.p (.int .i64 3)) fun v2 =>
  aGuard v2
  (K (.p (.str [116, 101, 120, 116])) H)
  (K (.p (.str [])) H)))

def typ_word_ann : Nat → List Nat := fun _ => []

theorem typ_word_eq (x0 : AV) (H : List Ob) (r : AV) (Ho : List Ob) : aBody Try.prog typ_word_ann Try.f57 H [x0] r Ho = typ_word x0 H (fun v H' => Gives H.length v H' r Ho) := by kernel_rfl

theorem typ_word_fn {x0 : AV} {r : AV} {Ho : List Ob} (h : typ_word x0 [] (fun v H' => Gives 0 v H' r Ho)) : Abs.Fn Try.prog typ_word_i [] [x0] r Ho :=
  fn_intro mixed typ_word_ann (fn := Try.f57) (by kernel_rfl) (by kernel_rfl) (by rw [typ_word_eq]; exact h)

/- runnel/typ.check -/
def typ_check (x0 x1 : AV) (H : List Ob) (K : AV → List Ob → Prop) : Prop :=
  aBox x0 H fun v0 h1 =>
  aBox x1 h1 fun v2 h3 =>
  aFieldAddr 0 v0 fun v4 =>
  aLoad false 1 v4 h3 fun v5 =>
  aBin false false .eql v5 (.p (.int .i64 1)) fun v6 =>
  aMerge false v6 (fun Q7 =>
  aBin false false .eql v5 (.p (.int .i64 2)) fun v8 =>
  aMerge false v8 (fun Q9 =>
  aBin false false .eql v5 (.p (.int .i64 3)) fun v10 =>
  (h3 = h3 ∧ Q9 v10)) fun v11 =>
  (h3 = h3 ∧ Q7 v11)) fun v12 =>
  aGuard v12
  (aFieldAddr 1 v0 fun v13 =>
  aLoad false 1 v13 h3 fun v14 =>
  aLen false false v14 fun v15 =>
  aBin false false .gtr v15 (.p (.int .i64 0)) fun v16 =>
  aGuard v16
  (K (.p (.int .i64 5)) h3)
  (K (.p (.int .i64 0)) h3))
  (aBin false false .eql v5 (.p (.int .i64 4)) fun v17 =>
  aGuard v17
  (aFieldAddr 1 v0 fun v18 =>
  aLoad false 1 v18 h3 fun v19 =>
  aLen false false v19 fun v20 =>
  aLoad false 1 v2 h3 fun v21 =>
  aCall Try.prog (.p (.func typ_Row_i [])) [v20, v21] h3 fun v22 h23 =>
  aBin false false .neq v22 (.p (.int .i64 0)) fun v24 =>
  aGuard v24
  (K v22 h23)
  (aFieldAddr 1 v0 fun v25 =>
  aLoad false 1 v25 h23 fun v26 =>
  aMakeFunc typ_check_1_i [v2] h23 fun v27 h28 =>
  aCall Try.prog (.p (.func typ_each_typ_Type_i [])) [v26, v27] h28 fun v29 h30 =>
  K v29 h30))
  (K (.p (.int .i64 5)) h3))

def typ_check_ann : Nat → List Nat := fun k => match k with | 1000004 => [1] | 1000003 => [1] | _ => []

theorem typ_check_eq (x0 x1 : AV) (H : List Ob) (r : AV) (Ho : List Ob) : aBody Try.prog typ_check_ann Try.f59 H [x0, x1] r Ho = typ_check x0 x1 H (fun v H' => Gives H.length v H' r Ho) := by kernel_rfl

theorem typ_check_fn {x0 x1 : AV} {r : AV} {Ho : List Ob} (h : typ_check x0 x1 [] (fun v H' => Gives 0 v H' r Ho)) : Abs.Fn Try.prog typ_check_i [] [x0, x1] r Ho :=
  fn_intro mixed typ_check_ann (fn := Try.f59) (by kernel_rfl) (by kernel_rfl) (by rw [typ_check_eq]; exact h)

/- slices.EqualFunc[[]runnel/typ.Type,[]runnel/typ.Type,runnel/typ.Type,runnel/typ.Type] -/
def slices_EqualFunc_typ_Type_typ_Type_typ_Type_typ_Type_L1 (q1s1 q1s2 q1s15 q1s16 y0 : AV) (H : List Ob) (B1 : List AV → List Ob → Prop) (K : AV → List Ob → Prop) : Prop :=
  aBin false false .lss y0 q1s16 fun v4 =>
  aGuard v4
  (aIndexAddr 2 q1s15 y0 fun v5 =>
  aLoad true 2 v5 H fun v6 =>
  aAlloc [(.p (.int .i64 0)), (.full [])] H fun v7 h8 =>
  aStore 2 v7 v6 h8 fun _ h10 =>
  aIndexAddr 2 q1s1 y0 fun v11 =>
  aLoad true 2 v11 h10 fun v12 =>
  aAlloc [(.p (.int .i64 0)), (.full [])] h10 fun v13 h14 =>
  aStore 2 v13 v12 h14 fun _ h16 =>
  aLoad true 2 v7 h16 fun v17 =>
  aLoad true 2 v13 h16 fun v18 =>
  aCall Try.prog q1s2 [v17, v18] h16 fun v19 h20 =>
  aUn .not v19 fun v21 =>
  aGuard v21
  (K (.p (.bool false)) h20)
  (aBin false false .add y0 (.p (.int .i64 1)) fun v22 =>
  B1 [v22] h20))
  (K (.p (.bool true)) H)

def slices_EqualFunc_typ_Type_typ_Type_typ_Type_typ_Type (x0 x1 x2 : AV) (H : List Ob) (K : AV → List Ob → Prop) : Prop :=
  aLen false false x0 fun v0 =>
  aLen false false x1 fun v1 =>
  aBin false false .neq v0 v1 fun v2 =>
  aGuard v2
  (K (.p (.bool false)) H)
  (aLen false false x0 fun v3 =>
  aLoopN 1 [(.p (.int .i64 0))] H fun xs H B1 => slices_EqualFunc_typ_Type_typ_Type_typ_Type_typ_Type_L1 x1 x2 x0 v3 (xs.getD 0 .top) H B1 K)

def slices_EqualFunc_typ_Type_typ_Type_typ_Type_typ_Type_ann : Nat → List Nat := fun k => match k with | 4 => [17] | _ => []

theorem slices_EqualFunc_typ_Type_typ_Type_typ_Type_typ_Type_eq (x0 x1 x2 : AV) (H : List Ob) (r : AV) (Ho : List Ob) : aBody Try.prog slices_EqualFunc_typ_Type_typ_Type_typ_Type_typ_Type_ann Try.f60 H [x0, x1, x2] r Ho = slices_EqualFunc_typ_Type_typ_Type_typ_Type_typ_Type x0 x1 x2 H (fun v H' => Gives H.length v H' r Ho) := by kernel_rfl

theorem slices_EqualFunc_typ_Type_typ_Type_typ_Type_typ_Type_fn {x0 x1 x2 : AV} {r : AV} {Ho : List Ob} (h : slices_EqualFunc_typ_Type_typ_Type_typ_Type_typ_Type x0 x1 x2 [] (fun v H' => Gives 0 v H' r Ho)) : Abs.Fn Try.prog slices_EqualFunc_typ_Type_typ_Type_typ_Type_typ_Type_i [] [x0, x1, x2] r Ho :=
  fn_intro mixed slices_EqualFunc_typ_Type_typ_Type_typ_Type_typ_Type_ann (fn := Try.f60) (by kernel_rfl) (by kernel_rfl) (by rw [slices_EqualFunc_typ_Type_typ_Type_typ_Type_typ_Type_eq]; exact h)

/- runnel/runnelref6.checkType -/
def runnelref6_checkType_L1 (q1s1 q1s2 y0 : AV) (H : List Ob) (B1 : List AV → List Ob → Prop) (K : AV → List Ob → Prop) : Prop :=
  aFieldAddr 1 q1s2 fun v33 =>
  aLoad false 1 v33 H fun v34 =>
  aLen false false v34 fun v35 =>
  aBin false false .lss y0 v35 fun v36 =>
  aGuard v36
  (aFieldAddr 1 q1s2 fun v37 =>
  aLoad false 1 v37 H fun v38 =>
  aIndexAddr 2 v38 y0 fun v39 =>
  aLoad true 2 v39 H fun v40 =>
  aBin false false .add q1s1 (.p (.int .i64 1)) fun v41 =>
  aCall Try.prog (.p (.func runnelref6_checkType_i [])) [v40, v41] H fun v42 h43 =>
  aBin false false .neq v42 (.p (.int .i64 0)) fun v44 =>
  aGuard v44
  (K v42 h43)
  (aBin false false .add y0 (.p (.int .i64 1)) fun v45 =>
  B1 [v45] h43))
  (K (.p (.int .i64 0)) H)

def runnelref6_checkType (x0 x1 : AV) (H : List Ob) (K : AV → List Ob → Prop) : Prop :=
  aBox x0 H fun v0 h1 =>
  aFieldAddr 0 v0 fun v2 =>
  aLoad false 1 v2 h1 fun v3 =>
  aBin false false .lss v3 (.p (.int .i64 1)) fun v4 =>
  aMerge false v4 (fun Q5 =>
  aFieldAddr 0 v0 fun v6 =>
  aLoad false 1 v6 h1 fun v7 =>
  aBin false false .gtr v7 (.p (.int .i64 4)) fun v8 =>
  (h1 = h1 ∧ Q5 v8)) fun v9 =>
  aMerge false v9 (fun Q10 =>
  aFieldAddr 0 v0 fun v11 =>
  aLoad false 1 v11 h1 fun v12 =>
  aBin false false .neq v12 (.p (.int .i64 4)) fun v13 =>
  aMerge true v13 (fun Q14 =>
  aFieldAddr 1 v0 fun v15 =>
  aLoad false 1 v15 h1 fun v16 =>
  aLenS false v16 fun v17 =>
  aBin false false .gtr v17 (.p (.int .i64 0)) fun v18 =>
  (h1 = h1 ∧ Q14 v18)) fun v19 =>
  (h1 = h1 ∧ Q10 v19)) fun v20 =>
  aGuard v20
  (K (.p (.int .i64 5)) h1)
  (aFieldAddr 0 v0 fun v21 =>
  aLoad false 1 v21 h1 fun v22 =>
  aBin false false .neq v22 (.p (.int .i64 4)) fun v23 =>
  aGuard v23
  (K (.p (.int .i64 0)) h1)
  (aFieldAddr 1 v0 fun v24 =>
  aLoad false 1 v24 h1 fun v25 =>
  aLen false false v25 fun v26 =>
  aBin false false .eql v26 (.p (.int .i64 0)) fun v27 =>
  aGuard v27
  (K (.p (.int .i64 1)) h1)
  (aFieldAddr 1 v0 fun v28 =>
  aLoad false 1 v28 h1 fun v29 =>
  aLen false false v29 fun v30 =>
  aBin false false .gtr v30 (.p (.int .i64 8)) fun v31 =>
  aGuard v31
  (K (.p (.int .i64 10)) h1)
  (aBin false false .gtr x1 (.p (.int .i64 4)) fun v32 =>
  aGuard v32
  (K (.p (.int .i64 9)) h1)
  (aLoopN 1 [(.p (.int .i64 0))] h1 fun xs H B1 => runnelref6_checkType_L1 x1 v0 (xs.getD 0 .top) H B1 K)))))

def runnelref6_checkType_ann : Nat → List Nat := fun k => match k with | 12 => [5] | _ => []

theorem runnelref6_checkType_eq (x0 x1 : AV) (H : List Ob) (r : AV) (Ho : List Ob) : aBody Try.prog runnelref6_checkType_ann Try.f63 H [x0, x1] r Ho = runnelref6_checkType x0 x1 H (fun v H' => Gives H.length v H' r Ho) := by kernel_rfl

theorem runnelref6_checkType_fn {x0 x1 : AV} {r : AV} {Ho : List Ob} (h : runnelref6_checkType x0 x1 [] (fun v H' => Gives 0 v H' r Ho)) : Abs.Fn Try.prog runnelref6_checkType_i [] [x0, x1] r Ho :=
  fn_intro mixed runnelref6_checkType_ann (fn := Try.f63) (by kernel_rfl) (by kernel_rfl) (by rw [runnelref6_checkType_eq]; exact h)

/- strings.CutPrefix -/
def strings_CutPrefix (x0 x1 : AV) (H : List Ob) (K : AV → List Ob → Prop) : Prop :=
  aCall Try.prog (.p (.func internal_stringslite_CutPrefix_i [])) [x0, x1] H fun v0 h1 =>
  aExtract v0 0 fun v2 =>
  aExtract v0 1 fun v3 =>
  K (.tup [v2, v3]) h1

def strings_CutPrefix_ann : Nat → List Nat := fun _ => []

theorem strings_CutPrefix_eq (x0 x1 : AV) (H : List Ob) (r : AV) (Ho : List Ob) : aBody Try.prog strings_CutPrefix_ann Try.f70 H [x0, x1] r Ho = strings_CutPrefix x0 x1 H (fun v H' => Gives H.length v H' r Ho) := by kernel_rfl

theorem strings_CutPrefix_fn {x0 x1 : AV} {r : AV} {Ho : List Ob} (h : strings_CutPrefix x0 x1 [] (fun v H' => Gives 0 v H' r Ho)) : Abs.Fn Try.prog strings_CutPrefix_i [] [x0, x1] r Ho :=
  fn_intro mixed strings_CutPrefix_ann (fn := Try.f70) (by kernel_rfl) (by kernel_rfl) (by rw [strings_CutPrefix_eq]; exact h)

/- runnel/runnelref6.front -/
def runnelref6_front (x0 x1 x2 : AV) (H : List Ob) (K : AV → List Ob → Prop) : Prop :=
  aBin false false .geq x1 (.p (.int .i64 0)) fun v0 =>
  aMerge true v0 (fun Q1 =>
  aLenS true x2 fun v2 =>
  aBin false false .add x1 v2 fun v3 =>
  aLenS true x0 fun v4 =>
  aBin false false .leq v3 v4 fun v5 =>
  (H = H ∧ Q1 v5)) fun v6 =>
  aMerge true v6 (fun Q7 =>
  aLenS true x2 fun v8 =>
  aBin false false .add x1 v8 fun v9 =>
  aSlice true 0 x0 (some x1) (some v9) none fun v10 =>
  aBin false false .eql v10 x2 fun v11 =>
  (H = H ∧ Q7 v11)) fun v12 =>
  K v12 H

def runnelref6_front_ann : Nat → List Nat := fun _ => []

theorem runnelref6_front_eq (x0 x1 x2 : AV) (H : List Ob) (r : AV) (Ho : List Ob) : aBody Try.prog runnelref6_front_ann Try.f71 H [x0, x1, x2] r Ho = runnelref6_front x0 x1 x2 H (fun v H' => Gives H.length v H' r Ho) := by kernel_rfl

theorem runnelref6_front_fn {x0 x1 x2 : AV} {r : AV} {Ho : List Ob} (h : runnelref6_front x0 x1 x2 [] (fun v H' => Gives 0 v H' r Ho)) : Abs.Fn Try.prog runnelref6_front_i [] [x0, x1, x2] r Ho :=
  fn_intro mixed runnelref6_front_ann (fn := Try.f71) (by kernel_rfl) (by kernel_rfl) (by rw [runnelref6_front_eq]; exact h)

/- runnel/typ.Row -/
def typ_Row (x0 x1 : AV) (H : List Ob) (K : AV → List Ob → Prop) : Prop :=
  aBin false false .eql x0 (.p (.int .i64 0)) fun v0 =>
  aGuard v0
  (K (.p (.int .i64 1)) H)
  (aBin false false .gtr x0 (.p (.int .i64 8)) fun v1 =>
  aGuard v1
  (K (.p (.int .i64 10)) H)
  (aBin false false .gtr x1 (.p (.int .i64 4)) fun v2 =>
  aGuard v2
  (K (.p (.int .i64 9)) H)
  (K (.p (.int .i64 0)) H)))

def typ_Row_ann : Nat → List Nat := fun _ => []

theorem typ_Row_eq (x0 x1 : AV) (H : List Ob) (r : AV) (Ho : List Ob) : aBody Try.prog typ_Row_ann Try.f75 H [x0, x1] r Ho = typ_Row x0 x1 H (fun v H' => Gives H.length v H' r Ho) := by kernel_rfl

theorem typ_Row_fn {x0 x1 : AV} {r : AV} {Ho : List Ob} (h : typ_Row x0 x1 [] (fun v H' => Gives 0 v H' r Ho)) : Abs.Fn Try.prog typ_Row_i [] [x0, x1] r Ho :=
  fn_intro mixed typ_Row_ann (fn := Try.f75) (by kernel_rfl) (by kernel_rfl) (by rw [typ_Row_eq]; exact h)

/- runnel/typ.each[runnel/typ.Type] -/
def typ_each_typ_Type_L1 (q1s1 q1s8 q1s9 y0 : AV) (H : List Ob) (B1 : List AV → List Ob → Prop) (K : AV → List Ob → Prop) : Prop :=
  aBin false false .lss y0 q1s9 fun v1 =>
  aGuard v1
  (aIndexAddr 2 q1s8 y0 fun v2 =>
  aLoad true 2 v2 H fun v3 =>
  aAlloc [(.p (.int .i64 0)), (.full [])] H fun v4 h5 =>
  aStore 2 v4 v3 h5 fun _ h7 =>
  aLoad true 2 v4 h7 fun v8 =>
  aCall Try.prog q1s1 [v8] h7 fun v9 h10 =>
  aBin false false .neq v9 (.p (.int .i64 0)) fun v11 =>
  aGuard v11
  (K v9 h10)
  (aBin false false .add y0 (.p (.int .i64 1)) fun v12 =>
  B1 [v12] h10))
  (K (.p (.int .i64 0)) H)

def typ_each_typ_Type (x0 x1 : AV) (H : List Ob) (K : AV → List Ob → Prop) : Prop :=
  aLen false false x0 fun v0 =>
  aLoopN 1 [(.p (.int .i64 0))] H fun xs H B1 => typ_each_typ_Type_L1 x1 x0 v0 (xs.getD 0 .top) H B1 K

def typ_each_typ_Type_ann : Nat → List Nat := fun k => match k with | 2 => [10] | _ => []

theorem typ_each_typ_Type_eq (x0 x1 : AV) (H : List Ob) (r : AV) (Ho : List Ob) : aBody Try.prog typ_each_typ_Type_ann Try.f76 H [x0, x1] r Ho = typ_each_typ_Type x0 x1 H (fun v H' => Gives H.length v H' r Ho) := by kernel_rfl

theorem typ_each_typ_Type_fn {x0 x1 : AV} {r : AV} {Ho : List Ob} (h : typ_each_typ_Type x0 x1 [] (fun v H' => Gives 0 v H' r Ho)) : Abs.Fn Try.prog typ_each_typ_Type_i [] [x0, x1] r Ho :=
  fn_intro mixed typ_each_typ_Type_ann (fn := Try.f76) (by kernel_rfl) (by kernel_rfl) (by rw [typ_each_typ_Type_eq]; exact h)

/- runnel/typ.check$1 -/
def typ_check_1 (x0 x1 : AV) (H : List Ob) (K : AV → List Ob → Prop) : Prop :=
  aBox x0 H fun v0 h1 =>
  aLoad true 2 v0 h1 fun v2 =>
  aLoad false 1 x1 h1 fun v3 =>
  aBin false false .add v3 (.p (.int .i64 1)) fun v4 =>
  aCall Try.prog (.p (.func typ_check_i [])) [v2, v4] h1 fun v5 h6 =>
  K v5 h6

def typ_check_1_ann : Nat → List Nat := fun _ => []

theorem typ_check_1_eq (x0 x1 : AV) (H : List Ob) (r : AV) (Ho : List Ob) : aBody Try.prog typ_check_1_ann Try.f77 H [x0, x1] r Ho = typ_check_1 x0 x1 H (fun v H' => Gives H.length v H' r Ho) := by kernel_rfl

theorem typ_check_1_fn {x0 x1 : AV} {r : AV} {Ho : List Ob} (h : typ_check_1 x0 x1 [] (fun v H' => Gives 0 v H' r Ho)) : Abs.Fn Try.prog typ_check_1_i [] [x0, x1] r Ho :=
  fn_intro mixed typ_check_1_ann (fn := Try.f77) (by kernel_rfl) (by kernel_rfl) (by rw [typ_check_1_eq]; exact h)

/- internal/stringslite.CutPrefix -/
def internal_stringslite_CutPrefix (x0 x1 : AV) (H : List Ob) (K : AV → List Ob → Prop) : Prop :=
  aCall Try.prog (.p (.func internal_stringslite_HasPrefix_i [])) [x0, x1] H fun v0 h1 =>
  aUn .not v0 fun v2 =>
  aGuard v2
  (K (.tup [x0, (.p (.bool false))]) h1)
  (aLen false true x1 fun v3 =>
  aSlice true 0 x0 (some v3) none none fun v4 =>
  K (.tup [v4, (.p (.bool true))]) h1)

def internal_stringslite_CutPrefix_ann : Nat → List Nat := fun _ => []

theorem internal_stringslite_CutPrefix_eq (x0 x1 : AV) (H : List Ob) (r : AV) (Ho : List Ob) : aBody Try.prog internal_stringslite_CutPrefix_ann Try.f85 H [x0, x1] r Ho = internal_stringslite_CutPrefix x0 x1 H (fun v H' => Gives H.length v H' r Ho) := by kernel_rfl

theorem internal_stringslite_CutPrefix_fn {x0 x1 : AV} {r : AV} {Ho : List Ob} (h : internal_stringslite_CutPrefix x0 x1 [] (fun v H' => Gives 0 v H' r Ho)) : Abs.Fn Try.prog internal_stringslite_CutPrefix_i [] [x0, x1] r Ho :=
  fn_intro mixed internal_stringslite_CutPrefix_ann (fn := Try.f85) (by kernel_rfl) (by kernel_rfl) (by rw [internal_stringslite_CutPrefix_eq]; exact h)

/- internal/stringslite.HasPrefix -/
def internal_stringslite_HasPrefix (x0 x1 : AV) (H : List Ob) (K : AV → List Ob → Prop) : Prop :=
  aLen false true x0 fun v0 =>
  aLen false true x1 fun v1 =>
  aBin false false .geq v0 v1 fun v2 =>
  aMerge true v2 (fun Q3 =>
  aLenS true x1 fun v4 =>
  aSlice true 0 x0 none (some v4) none fun v5 =>
  aBin false false .eql v5 x1 fun v6 =>
  (H = H ∧ Q3 v6)) fun v7 =>
  K v7 H

def internal_stringslite_HasPrefix_ann : Nat → List Nat := fun _ => []

theorem internal_stringslite_HasPrefix_eq (x0 x1 : AV) (H : List Ob) (r : AV) (Ho : List Ob) : aBody Try.prog internal_stringslite_HasPrefix_ann Try.f91 H [x0, x1] r Ho = internal_stringslite_HasPrefix x0 x1 H (fun v H' => Gives H.length v H' r Ho) := by kernel_rfl

theorem internal_stringslite_HasPrefix_fn {x0 x1 : AV} {r : AV} {Ho : List Ob} (h : internal_stringslite_HasPrefix x0 x1 [] (fun v H' => Gives 0 v H' r Ho)) : Abs.Fn Try.prog internal_stringslite_HasPrefix_i [] [x0, x1] r Ho :=
  fn_intro mixed internal_stringslite_HasPrefix_ann (fn := Try.f91) (by kernel_rfl) (by kernel_rfl) (by rw [internal_stringslite_HasPrefix_eq]; exact h)

end Go.Proofs.Ytmlooceejmfjkaa
