/- Made by program (Gen.lean): functions of the dump, over trees. -/
import Derived.Test.YtdmgbhamigegfaaGreatDoorS1

section
/- Made by program (Gen.lean): functions of the dump, over trees. -/
set_option maxRecDepth 4000
set_option linter.unusedVariables false
namespace Go.Proofs.YtdmgbhamigegfaaGreatDoor
open Go Go.Abs
noncomputable def zbZ:Array Oper:=opsOf (cl (Tryz.f141.body.getD .skip))
noncomputable def zaX:Array Oper:=opsOf (cl (cl (cl (cr (Tryz.f141.body.getD .skip)))))
noncomputable def zaV:Array Oper:=opsOf (cl (cl (cl (cr (cr (cl (cl (cr (Tryz.f141.body.getD .skip)))))))))
noncomputable def zbU:Array Oper:=opsOf (cl (cr (cl (cl (cr (cr (cl (cl (cr (Tryz.f141.body.getD .skip))))))))))
noncomputable def zaU:Array Oper:=opsOf (cr (cr (cr (cl (cl (cr (Tryz.f141.body.getD .skip)))))))
theorem zep:Tryz.f141.body=some (.seq (.region 0 zbZ false) (.block 0 (.loop (.seq (.region 1 zaX false) (.seq (.cond (.tmp 8) .skip (.exit 0)) (.seq (.block 1 (.seq (.region 2 zaV false) (.seq (.region 3 zbU false) (.cond (.tmp 14) .ret .skip)))) (.region 4 zaU false))))))):=by kernel_rfl
theorem zd2 (j0 j1 j2 j3 j4 j5 j6 j7 j8 j9 j10 j11 j12 j13 j14 j15:AV) (H:List Ob) (K:List AV→List Ob→Prop):zag Tryz.prog zaX false [j0,j1,j2,j3,j4,j5,j6,j7,j8,j9,j10,j11,j12,j13,j14,j15] H K=(
 aBin false false .lss j7 j6 fun v0 =>
 K [j0,j1,j2,j3,j4,j5,j6,j7,v0,j9,j10,j11,j12,j13,j14,j15] H):=by kernel_rfl
theorem zd1 (j0 j1 j2 j3 j4 j5 j6 j7 j8 j9 j10 j11 j12 j13 j14 j15:AV) (H:List Ob) (K:List AV→List Ob→Prop):zag Tryz.prog zaV false [j0,j1,j2,j3,j4,j5,j6,j7,j8,j9,j10,j11,j12,j13,j14,j15] H K=(
 zb 5 j5 j7 fun v0 =>
 aLoad true 5 v0 H fun v1 =>
 zy [(.p (.int .i64 0)),(.p (.int .i64 0)),(.p (.bool false)),(.p (.str [])),(.full [])] H fun v2 h3 =>
 zj 5 v2 v1 h3 fun _ h5 =>
 K [j0,j1,j2,j3,v2,j5,j6,j7,j8,v0,v1,j11,j12,j13,j14,j15] h5):=by kernel_rfl
theorem zd6 (j0 j1 j2 j3 j4 j5 j6 j7 j8 j9 j10 j11 j12 j13 j14 j15:AV) (H:List Ob) (K:List AV→List Ob→Prop):zag Tryz.prog zaU false [j0,j1,j2,j3,j4,j5,j6,j7,j8,j9,j10,j11,j12,j13,j14,j15] H K=(
 aBin false false .add j7 (.p (.int .i64 1)) fun v0 =>
 K [j0,j1,j2,j3,j4,j5,j6,v0,j8,j9,j10,j11,j12,j13,j14,v0] H):=by kernel_rfl
noncomputable def zci:Array Oper:=opsOf (cl (Tryz.f147.body.getD .skip))
noncomputable def za5:Array Oper:=opsOf (cl (cl (cl (cr (Tryz.f147.body.getD .skip)))))
noncomputable def za3:Array Oper:=opsOf (cl (cl (cl (cr (cr (cl (cl (cr (Tryz.f147.body.getD .skip)))))))))
noncomputable def zcf:Array Oper:=opsOf (cl (cr (cl (cl (cr (cr (cl (cl (cr (Tryz.f147.body.getD .skip))))))))))
noncomputable def za8:Array Oper:=opsOf (cr (cr (cr (cl (cl (cr (Tryz.f147.body.getD .skip)))))))
theorem zeV:Tryz.f147.body=some (.seq (.region 0 zci false) (.block 0 (.loop (.seq (.region 1 za5 false) (.seq (.cond (.tmp 8) .skip (.exit 0)) (.seq (.block 1 (.seq (.region 2 za3 false) (.seq (.region 3 zcf false) (.cond (.tmp 14) .ret .skip)))) (.region 4 za8 false))))))):=by kernel_rfl
theorem zey (j0 j1 j2 j3 j4 j5 j6 j7 j8 j9 j10 j11 j12 j13 j14 j15:AV) (H:List Ob) (K:List AV→List Ob→Prop):zag Tryz.prog za5 false [j0,j1,j2,j3,j4,j5,j6,j7,j8,j9,j10,j11,j12,j13,j14,j15] H K=(
 aBin false false .lss j7 j6 fun v0 =>
 K [j0,j1,j2,j3,j4,j5,j6,j7,v0,j9,j10,j11,j12,j13,j14,j15] H):=by kernel_rfl
theorem zeB (j0 j1 j2 j3 j4 j5 j6 j7 j8 j9 j10 j11 j12 j13 j14 j15:AV) (H:List Ob) (K:List AV→List Ob→Prop):zag Tryz.prog za3 false [j0,j1,j2,j3,j4,j5,j6,j7,j8,j9,j10,j11,j12,j13,j14,j15] H K=(
 zb 6 j5 j7 fun v0 =>
 aLoad true 6 v0 H fun v1 =>
 zy [(.p (.int .i64 0)),(.p (.int .i64 0)),(.p (.int .i64 0)),(.p (.bool false)),(.p (.str [])),(.full [])] H fun v2 h3 =>
 zj 6 v2 v1 h3 fun _ h5 =>
 K [j0,j1,j2,j3,v2,j5,j6,j7,j8,v0,v1,j11,j12,j13,j14,j15] h5):=by kernel_rfl
theorem zeC (j0 j1 j2 j3 j4 j5 j6 j7 j8 j9 j10 j11 j12 j13 j14 j15:AV) (H:List Ob) (K:List AV→List Ob→Prop):zag Tryz.prog za8 false [j0,j1,j2,j3,j4,j5,j6,j7,j8,j9,j10,j11,j12,j13,j14,j15] H K=(
 aBin false false .add j7 (.p (.int .i64 1)) fun v0 =>
 K [j0,j1,j2,j3,j4,j5,j6,v0,j8,j9,j10,j11,j12,j13,j14,v0] H):=by kernel_rfl
noncomputable def zaQ:Array Oper:=opsOf (cl (Tryz.f170.body.getD .skip))
noncomputable def zaP:Array Oper:=opsOf (cl (cl (cr (Tryz.f170.body.getD .skip))))
noncomputable def zah:Array Oper:=opsOf (rfA (cl (cr (cl (cr (Tryz.f170.body.getD .skip))))))
noncomputable def zai:Array Oper:=opsOf (cl (rfB (cl (cr (cl (cr (Tryz.f170.body.getD .skip)))))))
noncomputable def zaR:Array Oper:=opsOf (cl (cr (cr (Tryz.f170.body.getD .skip))))
theorem zdZ:Tryz.f170.body=some (.seq (.region 0 zaQ false) (.seq (.seq (.region 1 zaP false) (.block 0 (.rangeFunc (.tmp 6) #[7] (.region 2 zah false) (.block 1 (.region 3 zai true))))) (.seq (.region 4 zaR false) .ret))):=by kernel_rfl
theorem zdG (j0 j1 j2 j3 j4 j5 j6 j7 j8 j9 j10 j11 j12 j13 j14:AV) (H:List Ob) (K:List AV→List Ob→Prop):zag Tryz.prog zaQ false [j0,j1,j2,j3,j4,j5,j6,j7,j8,j9,j10,j11,j12,j13,j14] H K=(
 aBox j0 H fun v0 h1 =>
 K [j0,j1,v0,j3,(.full []),j5,j6,j7,j8,j9,j10,j11,j12,j13,j14] h1):=by kernel_rfl
theorem zdT (j0 j1 j2 j3 j4 j5 j6 j7 j8 j9 j10 j11 j12 j13 j14:AV) (H:List Ob) (K:List AV→List Ob→Prop):zag Tryz.prog zaP false [j0,j1,j2,j3,j4,j5,j6,j7,j8,j9,j10,j11,j12,j13,j14] H K=(
 K [j0,j1,j2,j3,j4,j5,j1,j7,j8,j9,j10,j11,j12,j13,j14] H):=by kernel_rfl
theorem zdQ (j0 j1 j2 j3 j4 j5 j6 j7 j8 j9 j10 j11 j12 j13 j14:AV) (H:List Ob) (K:List AV→List Ob→Prop):zag Tryz.prog zah false [j0,j1,j2,j3,j4,j5,j6,j7,j8,j9,j10,j11,j12,j13,j14] H K=(
 zy [(.p (.int .i64 0)),(.p (.int .i64 0)),(.p (.bool false)),(.p (.str [])),(.full [])] H fun v0 h1 =>
 zj 5 v0 j7 h1 fun _ h3 =>
 K [j0,j1,j2,j3,j4,v0,j6,j7,j8,j9,j10,j11,j12,j13,j14] h3):=by kernel_rfl
theorem zdf:ze3 zah=true:=by kernel_rfl
theorem zbt (j0 j1 j2 j3 j4 j5 j6 j7 j8 j9 j10 j11 j12 j13 j14:AV) (H:List Ob) (K:List AV→List Ob→Prop):aAnyR Tryz.prog zai [j0,j1,j2,j3,j4,j5,j6,j7,j8,j9,j10,j11,j12,j13,j14] H K=(
 (aLoad false 1 j2 H fun v0 =>
 aLen true false v0 fun v1 =>
 (aLoad true 5 j5 H fun v2 =>
 zn 5 [(.agg [(.p (.int .i64 0)),(.p (.int .i64 0)),(.p (.bool false)),(.p (.str [])),(.full [])])] fun v3 =>
 zI false 5 64 v0 v3 H fun v4 h5 =>
 zb 5 v4 v1 fun v6 =>
 (zj 5 v6 v2 h5 fun _ h8 =>
 zj 1 j2 v4 h8 fun _ h10 =>
 K [j0,j1,j2,j3,j4,j5,j6,j7,v0,v2,v1,v3,v4,v6,j14] h10) ∧
 (zj 1 j2 v4 h5 fun _ h12 =>
 zj 5 v6 v2 h12 fun _ h14 =>
 K [j0,j1,j2,j3,j4,j5,j6,j7,v0,v2,v1,v3,v4,v6,j14] h14)) ∧
 (zn 5 [(.agg [(.p (.int .i64 0)),(.p (.int .i64 0)),(.p (.bool false)),(.p (.str [])),(.full [])])] fun v15 =>
 aLoad true 5 j5 H fun v16 =>
 zI false 5 64 v0 v15 H fun v17 h18 =>
 zb 5 v17 v1 fun v19 =>
 (zj 5 v19 v16 h18 fun _ h21 =>
 zj 1 j2 v17 h21 fun _ h23 =>
 K [j0,j1,j2,j3,j4,j5,j6,j7,v0,v16,v1,v15,v17,v19,j14] h23) ∧
 (zj 1 j2 v17 h18 fun _ h25 =>
 zj 5 v19 v16 h25 fun _ h27 =>
 K [j0,j1,j2,j3,j4,j5,j6,j7,v0,v16,v1,v15,v17,v19,j14] h27))) ∧
 (aLoad true 5 j5 H fun v28 =>
 (aLoad false 1 j2 H fun v29 =>
 aLen true false v29 fun v30 =>
 zn 5 [(.agg [(.p (.int .i64 0)),(.p (.int .i64 0)),(.p (.bool false)),(.p (.str [])),(.full [])])] fun v31 =>
 zI false 5 64 v29 v31 H fun v32 h33 =>
 zb 5 v32 v30 fun v34 =>
 (zj 5 v34 v28 h33 fun _ h36 =>
 zj 1 j2 v32 h36 fun _ h38 =>
 K [j0,j1,j2,j3,j4,j5,j6,j7,v29,v28,v30,v31,v32,v34,j14] h38) ∧
 (zj 1 j2 v32 h33 fun _ h40 =>
 zj 5 v34 v28 h40 fun _ h42 =>
 K [j0,j1,j2,j3,j4,j5,j6,j7,v29,v28,v30,v31,v32,v34,j14] h42)) ∧
 (zn 5 [(.agg [(.p (.int .i64 0)),(.p (.int .i64 0)),(.p (.bool false)),(.p (.str [])),(.full [])])] fun v43 =>
 aLoad false 1 j2 H fun v44 =>
 aLen true false v44 fun v45 =>
 zI false 5 64 v44 v43 H fun v46 h47 =>
 zb 5 v46 v45 fun v48 =>
 (zj 5 v48 v28 h47 fun _ h50 =>
 zj 1 j2 v46 h50 fun _ h52 =>
 K [j0,j1,j2,j3,j4,j5,j6,j7,v44,v28,v45,v43,v46,v48,j14] h52) ∧
 (zj 1 j2 v46 h47 fun _ h54 =>
 zj 5 v48 v28 h54 fun _ h56 =>
 K [j0,j1,j2,j3,j4,j5,j6,j7,v44,v28,v45,v43,v46,v48,j14] h56))) ∧
 (zn 5 [(.agg [(.p (.int .i64 0)),(.p (.int .i64 0)),(.p (.bool false)),(.p (.str [])),(.full [])])] fun v57 =>
 (aLoad false 1 j2 H fun v58 =>
 aLen true false v58 fun v59 =>
 aLoad true 5 j5 H fun v60 =>
 zI false 5 64 v58 v57 H fun v61 h62 =>
 zb 5 v61 v59 fun v63 =>
 (zj 5 v63 v60 h62 fun _ h65 =>
 zj 1 j2 v61 h65 fun _ h67 =>
 K [j0,j1,j2,j3,j4,j5,j6,j7,v58,v60,v59,v57,v61,v63,j14] h67) ∧
 (zj 1 j2 v61 h62 fun _ h69 =>
 zj 5 v63 v60 h69 fun _ h71 =>
 K [j0,j1,j2,j3,j4,j5,j6,j7,v58,v60,v59,v57,v61,v63,j14] h71)) ∧
 (aLoad true 5 j5 H fun v72 =>
 aLoad false 1 j2 H fun v73 =>
 aLen true false v73 fun v74 =>
 zI false 5 64 v73 v57 H fun v75 h76 =>
 zb 5 v75 v74 fun v77 =>
 (zj 5 v77 v72 h76 fun _ h79 =>
 zj 1 j2 v75 h79 fun _ h81 =>
 K [j0,j1,j2,j3,j4,j5,j6,j7,v73,v72,v74,v57,v75,v77,j14] h81) ∧
 (zj 1 j2 v75 h76 fun _ h83 =>
 zj 5 v77 v72 h83 fun _ h85 =>
 K [j0,j1,j2,j3,j4,j5,j6,j7,v73,v72,v74,v57,v75,v77,j14] h85)))):=by kernel_rfl
theorem zdg:ze3 zai=true:=by kernel_rfl
theorem zdU (j0 j1 j2 j3 j4 j5 j6 j7 j8 j9 j10 j11 j12 j13 j14:AV) (H:List Ob) (K:List AV→List Ob→Prop):zag Tryz.prog zaR false [j0,j1,j2,j3,j4,j5,j6,j7,j8,j9,j10,j11,j12,j13,j14] H K=(
 aLoad false 1 j2 H fun v0 =>
 K [j0,j1,j2,j3,v0,j5,j6,j7,j8,j9,j10,j11,j12,j13,v0] H):=by kernel_rfl
noncomputable def za0:Array Oper:=opsOf (cl (Tryz.f174.body.getD .skip))
noncomputable def za2:Array Oper:=opsOf (cl (cl (cr (Tryz.f174.body.getD .skip))))
noncomputable def zam:Array Oper:=opsOf (rfA (cl (cr (cl (cr (Tryz.f174.body.getD .skip))))))
noncomputable def zan:Array Oper:=opsOf (cl (rfB (cl (cr (cl (cr (Tryz.f174.body.getD .skip)))))))
noncomputable def za1:Array Oper:=opsOf (cl (cr (cr (Tryz.f174.body.getD .skip))))
theorem zeA:Tryz.f174.body=some (.seq (.region 0 za0 false) (.seq (.seq (.region 1 za2 false) (.block 0 (.rangeFunc (.tmp 6) #[7] (.region 2 zam false) (.block 1 (.region 3 zan false))))) (.seq (.region 4 za1 false) .ret))):=by kernel_rfl
theorem zee (j0 j1 j2 j3 j4 j5 j6 j7 j8 j9 j10 j11 j12:AV) (H:List Ob) (K:List AV→List Ob→Prop):zag Tryz.prog za0 false [j0,j1,j2,j3,j4,j5,j6,j7,j8,j9,j10,j11,j12] H K=(
 aBox j0 H fun v0 h1 =>
 K [j0,j1,v0,j3,(.full []),j5,j6,j7,j8,j9,j10,j11,j12] h1):=by kernel_rfl
theorem zei (j0 j1 j2 j3 j4 j5 j6 j7 j8 j9 j10 j11 j12:AV) (H:List Ob) (K:List AV→List Ob→Prop):zag Tryz.prog za2 false [j0,j1,j2,j3,j4,j5,j6,j7,j8,j9,j10,j11,j12] H K=(
 K [j0,j1,j2,j3,j4,j5,j1,j7,j8,j9,j10,j11,j12] H):=by kernel_rfl
theorem zek (j0 j1 j2 j3 j4 j5 j6 j7 j8 j9 j10 j11 j12:AV) (H:List Ob) (K:List AV→List Ob→Prop):zag Tryz.prog zam false [j0,j1,j2,j3,j4,j5,j6,j7,j8,j9,j10,j11,j12] H K=(
 zy [(.p (.int .i64 0)),(.p (.int .i64 0)),(.p (.int .i64 0)),(.p (.bool false)),(.p (.str [])),(.full [])] H fun v0 h1 =>
 zj 6 v0 j7 h1 fun _ h3 =>
 K [j0,j1,j2,j3,j4,v0,j6,j7,j8,j9,j10,j11,j12] h3):=by kernel_rfl
theorem zdE:ze3 zam=true:=by kernel_rfl
theorem zbG (j0 j1 j2 j3 j4 j5 j6 j7 j8 j9 j10 j11 j12:AV) (H:List Ob) (K:List AV→List Ob→Prop):zag Tryz.prog zan false [j0,j1,j2,j3,j4,j5,j6,j7,j8,j9,j10,j11,j12] H K=(
 aLoad false 1 j2 H fun v0 =>
 aLoad true 6 j5 H fun v1 =>
 zn 6 [v1] fun v2 =>
 zI false 6 72 v0 v2 H fun v3 h4 =>
 zj 1 j2 v3 h4 fun _ h6 =>
 K [j0,j1,j2,j3,j4,j5,j6,j7,v0,v1,v2,v3,j12] h6):=by kernel_rfl
theorem zdF:ze3 zan=true:=by kernel_rfl
theorem zef (j0 j1 j2 j3 j4 j5 j6 j7 j8 j9 j10 j11 j12:AV) (H:List Ob) (K:List AV→List Ob→Prop):zag Tryz.prog za1 false [j0,j1,j2,j3,j4,j5,j6,j7,j8,j9,j10,j11,j12] H K=(
 aLoad false 1 j2 H fun v0 =>
 K [j0,j1,j2,j3,v0,j5,j6,j7,j8,j9,j10,j11,v0] H):=by kernel_rfl
end Go.Proofs.YtdmgbhamigegfaaGreatDoor
end

section
/- Made by program (Gen.lean): functions of the dump, over trees. -/
set_option maxRecDepth 4000
set_option linter.unusedVariables false
namespace Go.Proofs.YtdmgbhamigegfaaGreatDoor
open Go Go.Abs
def zaM (q1s7 y0:AV) (H:List Ob) (B1:List AV→List Ob→Prop) (K:AV→List Ob→Prop):Prop :=
 aLen false false q1s7 fun v12 =>
 aBin false false .lss y0 v12 fun v13 =>
 ze v13
 ((zbM false 1 q1s7 (some y0) none none fun v14 =>
 zbM false 1 q1s7 none (some y0) none fun v15 =>
 aCopy 1 v14 v15 H fun v16 h17 =>
 aBin false false .add y0 v16 fun v18 =>
 B1 [v18] h17) ∧
 (zbM false 1 q1s7 none (some y0) none fun v19 =>
 zbM false 1 q1s7 (some y0) none none fun v20 =>
 aCopy 1 v20 v19 H fun v21 h22 =>
 aBin false false .add y0 v21 fun v23 =>
 B1 [v23] h22))
 (K q1s7 H)
def zf9 (j2s0 j2s6:AV) (H:List Ob) (K:AV→List Ob→Prop):Prop :=
 ziZ .i64 j2s6 fun v7 =>
 aMake 1 [(.p (.int .i64 0))] v7 v7 H fun v8 h9 =>
 aCopy 1 v8 j2s0 h9 fun v10 h11 =>
 zG 1 [v10] h11 fun xs H B1=>zaM v8 (xs.getD 0 Z) H B1 K
def zf4 (j1s0 j1s1:AV) (H:List Ob) (K:AV→List Ob→Prop):Prop :=
 aLen false false j1s0 fun v0 =>
 ziZ .u64 v0 fun v1 =>
 ziZ .u64 j1s1 fun v2 =>
 aCall Tryz.prog (.p (.func zjg [])) [v1,v2] H fun v3 h4 =>
 zB v3 0 fun v5 =>
 zB v3 1 fun v6 =>
 aBin false false .gtr v5 (.p (.int .u64 0)) fun v24 =>
 zl false v24 (fun Q25 =>
 aBin false false .gtr v6 (.p (.int .u64 9223372036854775807)) fun v26 =>
 (h4=h4∧Q25 v26)) fun v27 =>
 ze v27
 (False)
 (zf9 j1s0 v6 h4 K)
def zeo (x0 x1:AV) (H:List Ob) (K:AV→List Ob→Prop):Prop :=
 aBin false false .lss x1 (.p (.int .i64 0)) fun v28 =>
 ze v28
 (False)
 (zf4 x0 x1 H K)
def zfw:Nat→List Nat:=fun k=>match k with | 8=>[8] | 3000009=>[1000] | _=>[]
theorem zl0 (x0 x1:AV) (H:List Ob) (r:AV) (Ho:List Ob):aBody Tryz.prog zfw Tryz.f38 H [x0,x1] r Ho=zeo x0 x1 H (fun v H'=>Gives H.length v H' r Ho):=by kernel_rfl
theorem zlH {x0 x1:AV} {r:AV} {Ho:List Ob} (h:zeo x0 x1 [] (fun v H'=>Gives 0 v H' r Ho)):Abs.Fn Tryz.prog zdA [] [x0,x1] r Ho :=
 zh mixed zfw (fn:=Tryz.f38) (by kernel_rfl) (by kernel_rfl) (by rw [zl0]; exact h)
def zlE (x0 x1:AV) (H:List Ob) (K:AV→List Ob→Prop):Prop :=
 aCall Tryz.prog (.p (.func zhl [])) [x0,x1] H fun v0 h1 =>
 zB v0 0 fun v2 =>
 zB v0 1 fun v3 =>
 K (.tup [v2,v3]) h1
def zlv:Nat→List Nat:=fun _=>[]
theorem zuk (x0 x1:AV) (H:List Ob) (r:AV) (Ho:List Ob):aBody Tryz.prog zlv Tryz.f74 H [x0,x1] r Ho=zlE x0 x1 H (fun v H'=>Gives H.length v H' r Ho):=by kernel_rfl
theorem ztN {x0 x1:AV} {r:AV} {Ho:List Ob} (h:zlE x0 x1 [] (fun v H'=>Gives 0 v H' r Ho)):Abs.Fn Tryz.prog zjg [] [x0,x1] r Ho :=
 zh mixed zlv (fn:=Tryz.f74) (by kernel_rfl) (by kernel_rfl) (by rw [zuk]; exact h)
def zjm (x0 x1:AV) (H:List Ob) (K:AV→List Ob→Prop):Prop :=
 aBin false false .and x0 (.p (.int .u64 4294967295)) fun v0 =>
 aBin false false .shr x0 (.p (.int .u64 32)) fun v1 =>
 aBin false false .and x1 (.p (.int .u64 4294967295)) fun v2 =>
 aBin false false .shr x1 (.p (.int .u64 32)) fun v3 =>
 aBin false false .mul v0 v2 fun v4 =>
 aBin false false .mul v1 v2 fun v5 =>
 aBin false false .shr v4 (.p (.int .u64 32)) fun v6 =>
 aBin false false .add v5 v6 fun v7 =>
 aBin false false .and v7 (.p (.int .u64 4294967295)) fun v8 =>
 aBin false false .shr v7 (.p (.int .u64 32)) fun v9 =>
 aBin false false .mul v0 v3 fun v10 =>
 aBin false false .add v8 v10 fun v11 =>
 aBin false false .mul v1 v3 fun v12 =>
 aBin false false .add v12 v9 fun v13 =>
 aBin false false .shr v11 (.p (.int .u64 32)) fun v14 =>
 aBin false false .add v13 v14 fun v15 =>
 aBin false false .mul x0 x1 fun v16 =>
 K (.tup [v15,v16]) H
def zjM:Nat→List Nat:=fun _=>[]
theorem zrK (x0 x1:AV) (H:List Ob) (r:AV) (Ho:List Ob):aBody Tryz.prog zjM Tryz.f118 H [x0,x1] r Ho=zjm x0 x1 H (fun v H'=>Gives H.length v H' r Ho):=by kernel_rfl
theorem zr7 {x0 x1:AV} {r:AV} {Ho:List Ob} (h:zjm x0 x1 [] (fun v H'=>Gives 0 v H' r Ho)):Abs.Fn Tryz.prog zhl [] [x0,x1] r Ho :=
 zh mixed zjM (fn:=Tryz.f118) (by kernel_rfl) (by kernel_rfl) (by rw [zrK]; exact h)
end Go.Proofs.YtdmgbhamigegfaaGreatDoor
end

section
/- Made by program (Gen.lean): functions of the dump, over trees. -/
set_option maxRecDepth 4000
set_option linter.unusedVariables false
namespace Go.Proofs.YtdmgbhamigegfaaGreatDoor
open Go Go.Abs
def zeb (x0 x1 x2:AV) (H:List Ob) (K:AV→List Ob→Prop):Prop :=
 aCall Tryz.prog (.p (.func zfE [])) [] H fun v0 h1 =>
 aUn .not v0 fun v2 =>
 ze v2
 (K (.p (.bool false)) h1)
 (aCall Tryz.prog (.p (.func zig [])) [x0] h1 fun v3 h4 =>
 aUn .not v3 fun v5 =>
 zl false v5 (fun Q6 =>
 aCall Tryz.prog (.p (.func zhD [])) [x1] h4 fun v7 h8 =>
 aUn .not v7 fun v9 =>
 (h8=h4∧Q6 v9)) fun v10 =>
 ze v10
 (K (.p (.bool true)) h4)
 (aCall Tryz.prog (.p (.func zjf [])) [x0] h4 fun v11 h12 =>
 aCall Tryz.prog (.p (.func zel [])) [x1] h12 fun v13 h14 =>
 aCall Tryz.prog (.p (.func zc7 [])) [v11,v13] h14 fun v15 h16 =>
 aCall Tryz.prog (.p (.func zhc [])) [x0,x1] h16 fun v17 h18 =>
 aBin false false .neq v17 v15 fun v19 =>
 ze v19
 (K (.p (.bool false)) h18)
 (aCall Tryz.prog (.p (.func zdq [])) [v11,(.p (.int .i64 1))] h18 fun v20 h21 =>
 aBin false false .neq v15 (.p (.int .i64 0)) fun v22 =>
 zl false v22 (fun Q23 =>
 aLenS false v20 fun v24 =>
 aBin false false .eql v24 (.p (.int .i64 0)) fun v25 =>
 (h21=h21∧Q23 v25)) fun v26 =>
 ze v26
 (K (.p (.bool true)) h21)
 (zb 1 v20 (.p (.int .i64 0)) fun v27 =>
 aLoad false 1 v27 h21 fun v28 =>
 ziZ .i64 x2 fun v29 =>
 zL Tryz.prog (.p (.func zfc [])) [x0,v28,v29] fun v30 =>
 ziZ .i64 x2 fun v31 =>
 zb 1 v20 (.p (.int .i64 0)) fun v32 =>
 aLoad false 1 v32 h21 fun v33 =>
 zb 21 x0 v33 fun v34 =>
 za 18 v34 fun v35 =>
 aLoad false 1 v35 h21 fun v36 =>
 aBin false false .rem v31 v36 fun v37 =>
 aBin false false .eql v30 v37 fun v38 =>
 K v38 h21))))
def zfq:Nat→List Nat:=fun _=>[]
theorem zlK (x0 x1 x2:AV) (H:List Ob) (r:AV) (Ho:List Ob):aBody Tryz.prog zfq Tryz.f5 H [x0,x1,x2] r Ho=zeb x0 x1 x2 H (fun v H'=>Gives H.length v H' r Ho):=by kernel_rfl
theorem zlM {x0 x1 x2:AV} {r:AV} {Ho:List Ob} (h:zeb x0 x1 x2 [] (fun v H'=>Gives 0 v H' r Ho)):Abs.Fn Tryz.prog zgY [] [x0,x1,x2] r Ho :=
 zh mixed zfq (fn:=Tryz.f5) (by kernel_rfl) (by kernel_rfl) (by rw [zlK]; exact h)
def zhk (H:List Ob) (K:AV→List Ob→Prop):Prop :=
 aCall Tryz.prog (.p (.func zgK [])) [] H fun v0 h1 =>
 aCall Tryz.prog (.p (.func zfb [])) [(.p (.int .i64 5))] h1 fun v2 h3 =>
 aCall Tryz.prog (.p (.func zfb [])) [(.p (.int .i64 3))] h3 fun v4 h5 =>
 zn 5 [v2,v4] fun v6 =>
 zr [(.p (.str [])),(.full [])] [(0,1,(.p (.str [115]))),(1,1,v6)] fun v7 =>
 zn 2 [v7] fun v8 =>
 aCall Tryz.prog (.p (.func zjR [])) [v0,v8] h5 fun v9 h10 =>
 zy [(.full []),(.full [])] h10 fun v11 h12 =>
 zj 2 v11 v9 h12 fun _ h14 =>
 zn 1 [(.p (.int .i64 1)),(.p (.int .i64 0)),(.p (.int .i64 0)),(.p (.int .i64 0))] fun v15 =>
 zn 1 [v15] fun v16 =>
 aCall Tryz.prog (.p (.func zfl [])) [v0,v8,v16,(.p (.bool false))] h14 fun v17 h18 =>
 zy [(.full []),(.full [])] h18 fun v19 h20 =>
 zj 2 v19 v17 h20 fun _ h22 =>
 aCall Tryz.prog (.p (.func zhc [])) [v0,v8] h22 fun v23 h24 =>
 aBin false false .eql v23 (.p (.int .i64 0)) fun v25 =>
 zl true v25 (fun Q26 =>
 aCall Tryz.prog (.p (.func zhc [])) [v0,(.full [])] h24 fun v27 h28 =>
 aBin false false .eql v27 (.p (.int .i64 6)) fun v29 =>
 (h28=h24∧Q26 v29)) fun v30 =>
 zl true v30 (fun Q31 =>
 za 0 v11 fun v32 =>
 aLoad false 1 v32 h24 fun v33 =>
 aLenS false v33 fun v34 =>
 aBin false false .eql v34 (.p (.int .i64 1)) fun v35 =>
 (h24=h24∧Q31 v35)) fun v36 =>
 zl true v36 (fun Q37 =>
 za 0 v11 fun v38 =>
 aLoad false 1 v38 h24 fun v39 =>
 zb 1 v39 (.p (.int .i64 0)) fun v40 =>
 aLoad false 1 v40 h24 fun v41 =>
 aLenS false v41 fun v42 =>
 aBin false false .eql v42 (.p (.int .i64 2)) fun v43 =>
 (h24=h24∧Q37 v43)) fun v44 =>
 zl true v44 (fun Q45 =>
 za 0 v11 fun v46 =>
 aLoad false 1 v46 h24 fun v47 =>
 zb 1 v47 (.p (.int .i64 0)) fun v48 =>
 aLoad false 1 v48 h24 fun v49 =>
 zb 5 v49 (.p (.int .i64 0)) fun v50 =>
 za 1 v50 fun v51 =>
 aLoad false 1 v51 h24 fun v52 =>
 aBin false false .eql v52 (.p (.int .i64 4)) fun v53 =>
 (h24=h24∧Q45 v53)) fun v54 =>
 zl true v54 (fun Q55 =>
 za 1 v11 fun v56 =>
 aLoad false 1 v56 h24 fun v57 =>
 aLenS false v57 fun v58 =>
 aBin false false .eql v58 (.p (.int .i64 0)) fun v59 =>
 (h24=h24∧Q55 v59)) fun v60 =>
 zl true v60 (fun Q61 =>
 za 0 v19 fun v62 =>
 aLoad false 1 v62 h24 fun v63 =>
 aLenS false v63 fun v64 =>
 aBin false false .eql v64 (.p (.int .i64 1)) fun v65 =>
 (h24=h24∧Q61 v65)) fun v66 =>
 zl true v66 (fun Q67 =>
 za 0 v19 fun v68 =>
 aLoad false 1 v68 h24 fun v69 =>
 zb 1 v69 (.p (.int .i64 0)) fun v70 =>
 aLoad false 1 v70 h24 fun v71 =>
 aLenS false v71 fun v72 =>
 aBin false false .eql v72 (.p (.int .i64 1)) fun v73 =>
 (h24=h24∧Q67 v73)) fun v74 =>
 zl true v74 (fun Q75 =>
 za 0 v19 fun v76 =>
 aLoad false 1 v76 h24 fun v77 =>
 zb 1 v77 (.p (.int .i64 0)) fun v78 =>
 aLoad false 1 v78 h24 fun v79 =>
 zb 5 v79 (.p (.int .i64 0)) fun v80 =>
 za 1 v80 fun v81 =>
 aLoad false 1 v81 h24 fun v82 =>
 aBin false false .eql v82 (.p (.int .i64 6)) fun v83 =>
 (h24=h24∧Q75 v83)) fun v84 =>
 zl true v84 (fun Q85 =>
 aLoad true 2 v19 h24 fun v86 =>
 aLoad true 2 v11 h24 fun v87 =>
 aCall Tryz.prog (.p (.func ziy [])) [v86,v87] h24 fun v88 h89 =>
 (h89=h24∧Q85 v88)) fun v90 =>
 zl true v90 (fun Q91 =>
 aLoad true 2 v11 h24 fun v92 =>
 aLoad true 2 v19 h24 fun v93 =>
 aCall Tryz.prog (.p (.func ziy [])) [v92,v93] h24 fun v94 h95 =>
 aUn .not v94 fun v96 =>
 (h95=h24∧Q91 v96)) fun v97 =>
 zl true v97 (fun Q98 =>
 aLoad true 2 v11 h24 fun v99 =>
 aLoad true 2 v11 h24 fun v100 =>
 aCall Tryz.prog (.p (.func zlu [])) [v99,v100] h24 fun v101 h102 =>
 (h102=h24∧Q98 v101)) fun v103 =>
 zl true v103 (fun Q104 =>
 aLoad true 2 v11 h24 fun v105 =>
 aLoad true 2 v19 h24 fun v106 =>
 aCall Tryz.prog (.p (.func zlu [])) [v105,v106] h24 fun v107 h108 =>
 aUn .not v107 fun v109 =>
 (h108=h24∧Q104 v109)) fun v110 =>
 zl true v110 (fun Q111 =>
 aCall Tryz.prog (.p (.func zfc [])) [v0,(.p (.int .i64 0)),(.p (.int .i64 5))] h24 fun v112 h113 =>
 aBin false false .eql v112 (.p (.int .i64 1)) fun v114 =>
 (h113=h24∧Q111 v114)) fun v115 =>
 K v115 h24
def zhU:Nat→List Nat:=fun _=>[]
theorem zpJ (H:List Ob) (r:AV) (Ho:List Ob):aBody Tryz.prog zhU Tryz.f9 H [] r Ho=zhk H (fun v H'=>Gives H.length v H' r Ho):=by kernel_rfl
theorem zpe {r:AV} {Ho:List Ob} (h:zhk [] (fun v H'=>Gives 0 v H' r Ho)):Abs.Fn Tryz.prog zfE [] [] r Ho :=
 zh mixed zhU (fn:=Tryz.f9) (by kernel_rfl) (by kernel_rfl) (by rw [zpJ]; exact h)
end Go.Proofs.YtdmgbhamigegfaaGreatDoor
end

section
/- Made by program (Gen.lean): functions of the dump, over trees. -/
set_option maxRecDepth 4000
set_option linter.unusedVariables false
namespace Go.Proofs.YtdmgbhamigegfaaGreatDoor
open Go Go.Abs
variable (j0 j1 j2 j3 j4 j5 j6 j7 j8 j9 j10 j11 j12 j13 j14 j15 j16 j17 j18 j19 j20 j21 j22 j23 j24 j25 j26 j27 j28 j29 j30 j31 j32 j33 j34 j35 j36 j37 j38 j39 j40 j41 j42 j43 j44 j45 j46 j47 j48 j49 j50 j51 j52 j53 j54 j55 j56 j57 j58 j59 j60 j61 j62 j63 j64 j65 j66 j67 j68 j69 j70 j71 j72 j73 j74 j75 j76 j77 j78 j79 j80 j81 j82 j83 j84 j85 j86 j87 j88 j89 j90 j91 j92 j93 j94 j95 j96 j97 j98 j99 j100 j101 j102 j103 j104 j105 j106 j107 j108 j109 j110 j111 j112 j113 j114 j115 j116 j117 j118 j119 j120 j121 j122 j123 j124 j125 j126 j127 j128 j129 j130 j131 j132 j133 j134 j135 j136 j137 j138 j139 j140 j141 j142 j143 j144 j145 j146 j147 j148 j149 j150 j151 j152 j153 j154 j155 j156 j157 j158 j159 j160 j161 j162 j163 j164 j165 j166 j167 j168 j169 j170 j171 j172 j173 j174 j175 j176 j177 j178 j179 j180 j181 j182 j183 j184 j185 j186 j187:AV)
def zfr (q3s0 q3s1 q3s7 q3s9 q3s10 y0:AV) (H:List Ob) (B3:List AV→List Ob→Prop) (B2:List AV→List Ob→Prop) (K:AV→List Ob→Prop):Prop :=
 zb 2 q3s1 q3s10 fun v25 =>
 za 1 v25 fun v26 =>
 aLoad false 1 v26 H fun v27 =>
 aLen false false v27 fun v28 =>
 aBin false false .lss y0 v28 fun v29 =>
 ze v29
 (zb 2 q3s1 q3s10 fun v30 =>
 za 1 v30 fun v31 =>
 aLoad false 1 v31 H fun v32 =>
 zb 5 v32 y0 fun v33 =>
 aLoad true 5 v33 H fun v34 =>
 zb 1 q3s7 q3s10 fun v35 =>
 aLoad false 1 v35 H fun v36 =>
 zb 21 q3s0 v36 fun v37 =>
 za 1 v37 fun v38 =>
 za 2 v38 fun v39 =>
 aLoad true 2 v39 H fun v40 =>
 zL Tryz.prog (.p (.func zjo [])) [v34,v40] fun v41 =>
 aUn .not v41 fun v42 =>
 ze v42
 (K (.p (.int .i64 5)) H)
 (aBin false false .add y0 (.p (.int .i64 1)) fun v43 =>
 B3 [v43] H))
 (zb 2 q3s1 q3s10 fun v44 =>
 za 1 v44 fun v45 =>
 aLoad false 1 v45 H fun v46 =>
 aLen false false v46 fun v47 =>
 aBin false false .add q3s9 v47 fun v48 =>
 aBin false false .add q3s10 (.p (.int .i64 1)) fun v49 =>
 B2 [v48,v49] H)
def zfp (q2s0 q2s1 q2s7 y0 y1:AV) (H:List Ob) (B2:List AV→List Ob→Prop) (K:AV→List Ob→Prop):Prop :=
 aLen false false q2s7 fun v23 =>
 aBin false false .lss y1 v23 fun v24 =>
 ze v24
 (zG 1 [(.p (.int .i64 0))] H fun xs H B3=>zfr q2s0 q2s1 q2s7 y0 y1 (xs.getD 0 Z) H B3 B2 K)
 (aBin false false .gtr y0 (.p (.int .i64 1000)) fun v50 =>
 ze v50
 (K (.p (.int .i64 10)) H)
 (K (.p (.int .i64 0)) H))
def zft (q1s0 q1s1 q1s7 y0:AV) (H:List Ob) (B1:List AV→List Ob→Prop) (K:AV→List Ob→Prop):Prop :=
 aLen false false q1s7 fun v10 =>
 aBin false false .lss y0 v10 fun v11 =>
 ze v11
 (zb 2 q1s1 y0 fun v12 =>
 za 0 v12 fun v13 =>
 aLoad false 1 v13 H fun v14 =>
 zb 1 q1s7 y0 fun v15 =>
 aLoad false 1 v15 H fun v16 =>
 zb 21 q1s0 v16 fun v17 =>
 za 1 v17 fun v18 =>
 za 1 v18 fun v19 =>
 aLoad false 1 v19 H fun v20 =>
 aBin false false .neq v14 v20 fun v21 =>
 ze v21
 (K (.p (.int .i64 6)) H)
 (aBin false false .add y0 (.p (.int .i64 1)) fun v22 =>
 B1 [v22] H))
 (zG 2 [(.p (.int .i64 0)),(.p (.int .i64 0))] H fun xs H B2=>zfp q1s0 q1s1 q1s7 (xs.getD 0 Z) (xs.getD 1 Z) H B2 K)
def zdY (x0 x1:AV) (H:List Ob) (K:AV→List Ob→Prop):Prop :=
 aCall Tryz.prog (.p (.func zfM [])) [x0] H fun v0 h1 =>
 zB v0 0 fun _ =>
 zB v0 1 fun v3 =>
 aBin false false .neq v3 (.p (.int .i64 0)) fun v4 =>
 ze v4
 (K v3 h1)
 (aCall Tryz.prog (.p (.func zdq [])) [x0,(.p (.int .i64 1))] h1 fun v5 h6 =>
 aLen false false v5 fun v7 =>
 aLen false false x1 fun v8 =>
 aBin false false .neq v7 v8 fun v9 =>
 ze v9
 (K (.p (.int .i64 6)) h6)
 (zG 1 [(.p (.int .i64 0))] h6 fun xs H B1=>zft x0 x1 v5 (xs.getD 0 Z) H B1 K))
def zeX:Nat→List Nat:=fun k=>match k with | 8=>[8] | 14=>[9,10] | 17=>[11] | _=>[]
theorem zk6 (x0 x1:AV) (H:List Ob) (r:AV) (Ho:List Ob):aBody Tryz.prog zeX Tryz.f25 H [x0,x1] r Ho=zdY x0 x1 H (fun v H'=>Gives H.length v H' r Ho):=by kernel_rfl
theorem zk5 {x0 x1:AV} {r:AV} {Ho:List Ob} (h:zdY x0 x1 [] (fun v H'=>Gives 0 v H' r Ho)):Abs.Fn Tryz.prog zc7 [] [x0,x1] r Ho :=
 zh mixed zeX (fn:=Tryz.f25) (by kernel_rfl) (by kernel_rfl) (by rw [zk6]; exact h)
def ziQ (q1s0 q1s1 y0 y1:AV) (H:List Ob) (B1:List AV→List Ob→Prop) (K:AV→List Ob→Prop):Prop :=
 aLen false false q1s0 fun v0 =>
 aBin false false .lss y1 v0 fun v1 =>
 ze v1
 (zb 21 q1s0 y1 fun v2 =>
 za 1 v2 fun v3 =>
 za 0 v3 fun v4 =>
 aLoad false 1 v4 H fun v5 =>
 aBin false false .eql v5 q1s1 fun v6 =>
 ze v6
 (zn 1 [y1] fun v7 =>
 zI false 1 8 y0 v7 H fun v8 h9 =>
 aBin false false .add y1 (.p (.int .i64 1)) fun v10 =>
 B1 [v8,v10] h9)
 (aBin false false .add y1 (.p (.int .i64 1)) fun v11 =>
 B1 [y0,v11] H))
 (K y0 H)
def zhA (x0 x1:AV) (H:List Ob) (K:AV→List Ob→Prop):Prop :=
 zG 2 [(.full []),(.p (.int .i64 0))] H fun xs H B1=>ziQ x0 x1 (xs.getD 0 Z) (xs.getD 1 Z) H B1 K
def zhT:Nat→List Nat:=fun k=>match k with | 3=>[5,6] | _=>[]
theorem zpt (x0 x1:AV) (H:List Ob) (r:AV) (Ho:List Ob):aBody Tryz.prog zhT Tryz.f28 H [x0,x1] r Ho=zhA x0 x1 H (fun v H'=>Gives H.length v H' r Ho):=by kernel_rfl
theorem zpO {x0 x1:AV} {r:AV} {Ho:List Ob} (h:zhA x0 x1 [] (fun v H'=>Gives 0 v H' r Ho)):Abs.Fn Tryz.prog zdq [] [x0,x1] r Ho :=
 zh mixed zhT (fn:=Tryz.f28) (by kernel_rfl) (by kernel_rfl) (by rw [zpt]; exact h)
def zjd (q2s0 y0:AV) (H:List Ob) (B2:List AV→List Ob→Prop) (K:AV→List Ob→Prop):Prop :=
 aLen false false q2s0 fun v12 =>
 aBin false false .lss y0 v12 fun v13 =>
 ze v13
 (zb 21 q2s0 y0 fun v14 =>
 za 1 v14 fun v15 =>
 za 0 v15 fun v16 =>
 aLoad false 1 v16 H fun v17 =>
 aBin false false .neq v17 (.p (.int .i64 9)) fun v18 =>
 zl true v18 (fun Q19 =>
 aCall Tryz.prog (.p (.func zgL [])) [q2s0,y0] H fun v20 h21 =>
 aLenS false v20 fun v22 =>
 aBin false false .eql v22 (.p (.int .i64 0)) fun v23 =>
 (h21=H∧Q19 v23)) fun v24 =>
 ze v24
 (K (.tup [y0,(.p (.int .i64 1))]) H)
 (aBin false false .add y0 (.p (.int .i64 1)) fun v25 =>
 B2 [v25] H))
 (K (.tup [(.p (.int .i64 0)),(.p (.int .i64 0))]) H)
def ziX (q1s0 y0:AV) (H:List Ob) (B1:List AV→List Ob→Prop) (K:AV→List Ob→Prop):Prop :=
 aLen false false q1s0 fun v4 =>
 aBin false false .lss y0 v4 fun v5 =>
 ze v5
 (aCall Tryz.prog (.p (.func zfN [])) [q1s0,y0] H fun v6 h7 =>
 aCall Tryz.prog (.p (.func zgI [])) [q1s0,y0,v6] h7 fun v8 h9 =>
 aBin false false .neq v8 (.p (.int .i64 0)) fun v10 =>
 ze v10
 (K (.tup [y0,v8]) h9)
 (aBin false false .add y0 (.p (.int .i64 1)) fun v11 =>
 B1 [v11] h9))
 (zG 1 [(.p (.int .i64 0))] H fun xs H B2=>zjd q1s0 (xs.getD 0 Z) H B2 K)
def zhG (x0:AV) (H:List Ob) (K:AV→List Ob→Prop):Prop :=
 aLen false false x0 fun v0 =>
 aBin false false .eql v0 (.p (.int .i64 0)) fun v1 =>
 ze v1
 (K (.tup [(.p (.int .i64 0)),(.p (.int .i64 3))]) H)
 (aLen false false x0 fun v2 =>
 aBin false false .gtr v2 (.p (.int .i64 16)) fun v3 =>
 ze v3
 (K (.tup [(.p (.int .i64 0)),(.p (.int .i64 10))]) H)
 (zG 1 [(.p (.int .i64 0))] H fun xs H B1=>ziX x0 (xs.getD 0 Z) H B1 K))
def zhO:Nat→List Nat:=fun k=>match k with | 6=>[4] | 12=>[6] | _=>[]
theorem zor (x0:AV) (H:List Ob) (r:AV) (Ho:List Ob):aBody Tryz.prog zhO Tryz.f39 H [x0] r Ho=zhG x0 H (fun v H'=>Gives H.length v H' r Ho):=by kernel_rfl
theorem zo3 {x0:AV} {r:AV} {Ho:List Ob} (h:zhG x0 [] (fun v H'=>Gives 0 v H' r Ho)):Abs.Fn Tryz.prog zfM [] [x0] r Ho :=
 zh mixed zhO (fn:=Tryz.f39) (by kernel_rfl) (by kernel_rfl) (by rw [zor]; exact h)
def zM:Nat→List Nat:=fun k=>match k with | 5=>[8] | 13=>[9,10] | 18=>[11] | 29=>[14] | 889888888=>[1] | 701000023=>[1] | 2000023=>[0,1,7,9,9999] | _=>[]
def zc3:Nat→Bool:=fun k=>match k with | 23=>true | _=>false
noncomputable def zdM:Code:=Tryz.f75.body.getD .skip
noncomputable def zeF:Code:=(cr (cr (cr (cr (cr (cr (cr zdM)))))))
def zjL (q3s0 q3s1 q3s2 q3s7 q3s8 q3s9 q3s10 q3s15 q3s16 q3s17 q3s18 q3s19 q3s20 q3s21 q3s22 q3s23 q3s28 q3s29 q3s34 q3s35 q3s36 q3s37 q3s53 q3s54 q3s55 q3s56 q3s60 q3s61 q3s67 q3s68 q3s72 q3s73 q3s74 q3s75 q3s76 q3s77 q3s80 q3s81 q3s82 q3s83 q3s84 q3s85 q3s86 q3s94 q3s95 q3s107 y0:AV) (H:List Ob) (B3:List AV→List Ob→Prop) (B2:List AV→List Ob→Prop) (self:Code→List AV→List Ob→Ko→Prop) (kp:Ko):Prop :=
 aBin false false .lss y0 q3s10 fun v82 =>
 ze v82
 (za 16 q3s7 fun v83 =>
 aLoad false 1 v83 H fun v84 =>
 zb 1 v84 y0 fun v85 =>
 aLoad false 1 v85 H fun v86 =>
 za 16 q3s7 fun v87 =>
 aLoad false 1 v87 H fun v88 =>
 zb 1 v88 q3s10 fun v89 =>
 aLoad false 1 v89 H fun v90 =>
 aBin false false .eql v86 v90 fun v91 =>
 ze v91
 (kp .ret [q3s0,q3s1,q3s2,Z,Z,Z,(.p (.int .i64 1)),q3s7,q3s8,q3s9,q3s10,y0,Z,Z,Z,q3s15,q3s16,q3s17,q3s18,q3s19,q3s20,q3s21,q3s22,q3s23,Z,Z,Z,Z,q3s28,q3s29,Z,Z,Z,Z,q3s34,q3s35,q3s36,q3s37,Z,Z,Z,Z,Z,Z,Z,Z,Z,Z,Z,Z,Z,Z,Z,q3s53,q3s54,q3s55,q3s56,Z,Z,Z,q3s60,q3s61,Z,Z,Z,Z,Z,q3s67,q3s68,Z,Z,Z,q3s72,q3s73,q3s74,q3s75,q3s76,q3s77,Z,Z,q3s80,q3s81,q3s82,q3s83,q3s84,q3s85,q3s86,Z,Z,Z,Z,Z,Z,Z,q3s94,q3s95,Z,Z,Z,Z,Z,Z,Z,Z,Z,Z,Z,q3s107,y0,q3s10,(.p (.bool true)),Z,Z,v83,v84,y0,v85,v86,v87,v88,q3s10,v89,v90,(.p (.bool true)),Z,Z,Z,Z,Z,Z,Z,Z,Z,Z,Z,Z,Z,Z,Z,Z,Z,Z,Z,Z,Z,Z,Z,Z,Z,Z,Z,Z,Z,Z,Z,Z,Z,Z,Z,Z,Z,Z,Z,Z,Z,Z,Z,Z,Z,Z,Z,Z,Z,Z,Z,Z,Z,Z,Z,Z,Z,Z,Z,Z,Z,Z,Z,Z] H)
 (aBin false false .add y0 (.p (.int .i64 1)) fun v92 =>
 B3 [v92] H))
 (za 16 q3s7 fun v93 =>
 aLoad false 1 v93 H fun v94 =>
 zb 1 v94 q3s10 fun v95 =>
 aLoad false 1 v95 H fun v96 =>
 zb 2 q3s2 v96 fun v97 =>
 aLoad true 2 v97 H fun v98 =>
 zn 2 [v98] fun v99 =>
 zI false 2 32 q3s9 v99 H fun v100 h101 =>
 aBin false false .add q3s10 (.p (.int .i64 1)) fun v102 =>
 B2 [v100,v102] h101)
def zjK (q2s0 q2s1 q2s2 q2s7 q2s8 q2s15 q2s16 q2s17 q2s18 q2s19 q2s20 q2s21 q2s22 q2s23 q2s28 q2s29 q2s34 q2s35 q2s36 q2s37 q2s53 q2s54 q2s55 q2s56 q2s60 q2s61 q2s67 q2s68 q2s72 y0 y1:AV) (H:List Ob) (B2:List AV→List Ob→Prop) (self:Code→List AV→List Ob→Ko→Prop) (kp:Ko):Prop :=
 za 16 q2s7 fun v55 =>
 aLoad false 1 v55 H fun v56 =>
 aLen false false v56 fun v57 =>
 aBin false false .lss y1 v57 fun v58 =>
 ze v58
 (za 16 q2s7 fun v59 =>
 aLoad false 1 v59 H fun v60 =>
 zb 1 v60 y1 fun v61 =>
 aLoad false 1 v61 H fun v62 =>
 aBin false false .lss v62 (.p (.int .i64 0)) fun v63 =>
 zl false v63 (fun Q64 =>
 za 16 q2s7 fun v65 =>
 aLoad false 1 v65 H fun v66 =>
 zb 1 v66 y1 fun v67 =>
 aLoad false 1 v67 H fun v68 =>
 aBin false false .geq v68 q2s1 fun v69 =>
 (H=H∧Q64 v69)) fun v70 =>
 zl false v70 (fun Q71 =>
 za 16 q2s7 fun v72 =>
 aLoad false 1 v72 H fun v73 =>
 zb 1 v73 y1 fun v74 =>
 aLoad false 1 v74 H fun v75 =>
 zb 21 q2s0 v75 fun v76 =>
 za 1 v76 fun v77 =>
 za 0 v77 fun v78 =>
 aLoad false 1 v78 H fun v79 =>
 aBin false false .eql v79 (.p (.int .i64 9)) fun v80 =>
 (H=H∧Q71 v80)) fun v81 =>
 ze v81
 (kp .ret [q2s0,q2s1,q2s2,Z,Z,Z,(.p (.int .i64 1)),q2s7,q2s8,y0,y1,Z,Z,Z,Z,q2s15,q2s16,q2s17,q2s18,q2s19,q2s20,q2s21,q2s22,q2s23,Z,Z,Z,Z,q2s28,q2s29,Z,Z,Z,Z,q2s34,q2s35,q2s36,q2s37,Z,Z,Z,Z,Z,Z,Z,Z,Z,Z,Z,Z,Z,Z,Z,q2s53,q2s54,q2s55,q2s56,Z,Z,Z,q2s60,q2s61,Z,Z,Z,Z,Z,q2s67,q2s68,Z,Z,Z,q2s72,y1,v55,v56,v57,(.p (.bool true)),Z,Z,v59,v60,y1,v61,v62,v63,v63,Z,Z,Z,Z,Z,Z,Z,v70,v70,Z,Z,Z,Z,Z,Z,Z,Z,Z,Z,Z,(.p (.bool true)),Z,Z,Z,Z,Z,Z,Z,Z,Z,Z,Z,Z,Z,Z,Z,Z,Z,Z,Z,Z,Z,Z,Z,Z,Z,Z,Z,Z,Z,Z,Z,Z,Z,Z,Z,Z,Z,Z,Z,Z,Z,Z,Z,Z,Z,Z,Z,Z,Z,Z,Z,Z,Z,Z,Z,Z,Z,Z,Z,Z,Z,Z,Z,Z,Z,Z,Z,Z,Z,Z,Z,Z,Z,Z,Z,Z,Z,Z,Z,Z] H)
 (zG 1 [(.p (.int .i64 0))] H fun xs H B3=>zjL q2s0 q2s1 q2s2 q2s7 q2s8 y0 y1 q2s15 q2s16 q2s17 q2s18 q2s19 q2s20 q2s21 q2s22 q2s23 q2s28 q2s29 q2s34 q2s35 q2s36 q2s37 q2s53 q2s54 q2s55 q2s56 q2s60 q2s61 q2s67 q2s68 q2s72 y1 v55 v56 v57 (.p (.bool true)) v59 v60 y1 v61 v62 v63 v63 v70 v70 (.p (.bool false)) (xs.getD 0 Z) H B3 B2 self kp))
 (self zeF (keepS [0,1,7,9,9999] 0 [q2s0,q2s1,q2s2,Z,Z,Z,Z,q2s7,q2s8,y0,y1,Z,Z,Z,Z,q2s15,q2s16,q2s17,q2s18,q2s19,q2s20,q2s21,q2s22,q2s23,Z,Z,Z,Z,q2s28,q2s29,Z,Z,Z,Z,q2s34,q2s35,q2s36,q2s37,Z,Z,Z,Z,Z,Z,Z,Z,Z,Z,Z,Z,Z,Z,Z,q2s53,q2s54,q2s55,q2s56,Z,Z,Z,q2s60,q2s61,Z,Z,Z,Z,Z,q2s67,q2s68,Z,Z,Z,q2s72,y1,v55,v56,v57,(.p (.bool false)),Z,Z,Z,Z,Z,Z,Z,Z,Z,Z,Z,Z,Z,Z,Z,Z,Z,Z,Z,Z,Z,Z,Z,Z,Z,Z,Z,Z,Z,Z,Z,Z,Z,Z,Z,Z,Z,Z,Z,Z,Z,Z,Z,Z,Z,Z,Z,Z,Z,Z,Z,Z,Z,Z,Z,Z,Z,Z,Z,Z,Z,Z,Z,Z,Z,Z,Z,Z,Z,Z,Z,Z,Z,Z,Z,Z,Z,Z,Z,Z,Z,Z,Z,Z,Z,Z,Z,Z,Z,Z,Z,Z,Z,Z,Z,Z,Z,Z,Z,Z,Z,Z,Z,Z,Z,Z,Z,Z,Z,Z]) H kp)
def zjx (q1s0 q1s1 q1s2 q1s7 q1s15 q1s16 q1s17 q1s18 q1s19 q1s20 q1s21 q1s22 q1s23 q1s28 q1s29 q1s34 y0:AV) (H:List Ob) (B1:List AV→List Ob→Prop) (self:Code→List AV→List Ob→Ko→Prop) (kp:Ko):Prop :=
 aBin false false .lss y0 q1s1 fun v23 =>
 ze v23
 (za 0 q1s7 fun v24 =>
 aLoad false 1 v24 H fun v25 =>
 aBin false false .neq v25 (.p (.str [])) fun v26 =>
 ze v26
 (zb 21 q1s0 y0 fun v27 =>
 za 0 v27 fun v28 =>
 aLoad false 1 v28 H fun v29 =>
 za 0 q1s7 fun v30 =>
 aLoad false 1 v30 H fun v31 =>
 aBin false false .eql v29 v31 fun v32 =>
 ze v32
 (kp .ret [q1s0,q1s1,q1s2,Z,Z,Z,(.p (.int .i64 7)),q1s7,y0,Z,Z,Z,Z,Z,Z,q1s15,q1s16,q1s17,q1s18,q1s19,q1s20,q1s21,q1s22,q1s23,Z,Z,Z,Z,q1s28,q1s29,Z,Z,Z,Z,q1s34,y0,q1s1,(.p (.bool true)),Z,Z,v24,v25,v26,(.p (.bool true)),q1s0,y0,v27,v28,v29,v30,v31,v32,(.p (.bool true)),Z,Z,Z,Z,Z,Z,Z,Z,Z,Z,Z,Z,Z,Z,Z,Z,Z,Z,Z,Z,Z,Z,Z,Z,Z,Z,Z,Z,Z,Z,Z,Z,Z,Z,Z,Z,Z,Z,Z,Z,Z,Z,Z,Z,Z,Z,Z,Z,Z,Z,Z,Z,Z,Z,Z,Z,Z,Z,Z,Z,Z,Z,Z,Z,Z,Z,Z,Z,Z,Z,Z,Z,Z,Z,Z,Z,Z,Z,Z,Z,Z,Z,Z,Z,Z,Z,Z,Z,Z,Z,Z,Z,Z,Z,Z,Z,Z,Z,Z,Z,Z,Z,Z,Z,Z,Z,Z,Z,Z,Z,Z,Z,Z,Z,Z,Z,Z,Z,Z,Z,Z,Z,Z,Z,Z,Z,Z,Z,Z,Z,Z,Z,Z,Z,Z] H)
 (aBin false false .add y0 (.p (.int .i64 1)) fun v33 =>
 B1 [v33] H))
 (aBin false false .add y0 (.p (.int .i64 1)) fun v34 =>
 B1 [v34] H))
 (za 17 q1s7 fun v35 =>
 aLoad false 1 v35 H fun v36 =>
 aBin false false .lss v36 (.p (.int .i64 1)) fun v37 =>
 zl false v37 (fun Q38 =>
 za 17 q1s7 fun v39 =>
 aLoad false 1 v39 H fun v40 =>
 aBin false false .gtr v40 (.p (.int .i64 4)) fun v41 =>
 (H=H∧Q38 v41)) fun v42 =>
 zl false v42 (fun Q43 =>
 za 18 q1s7 fun v44 =>
 aLoad false 1 v44 H fun v45 =>
 za 17 q1s7 fun v46 =>
 aLoad false 1 v46 H fun v47 =>
 aBin false false .lss v45 v47 fun v48 =>
 (H=H∧Q43 v48)) fun v49 =>
 zl false v49 (fun Q50 =>
 za 18 q1s7 fun v51 =>
 aLoad false 1 v51 H fun v52 =>
 aBin false false .gtr v52 (.p (.int .i64 16)) fun v53 =>
 (H=H∧Q50 v53)) fun v54 =>
 ze v54
 (kp .ret [q1s0,q1s1,q1s2,Z,Z,Z,(.p (.int .i64 1)),q1s7,y0,Z,Z,Z,Z,Z,Z,q1s15,q1s16,q1s17,q1s18,q1s19,q1s20,q1s21,q1s22,q1s23,Z,Z,Z,Z,q1s28,q1s29,Z,Z,Z,Z,q1s34,y0,q1s1,(.p (.bool false)),Z,Z,Z,Z,Z,Z,Z,Z,Z,Z,Z,Z,Z,Z,Z,v35,v36,v37,v37,Z,Z,Z,v42,v42,Z,Z,Z,Z,Z,v49,v49,Z,Z,Z,(.p (.bool true)),Z,Z,Z,Z,Z,Z,Z,Z,Z,Z,Z,Z,Z,Z,Z,Z,Z,Z,Z,Z,Z,Z,Z,Z,Z,Z,Z,Z,Z,Z,Z,Z,Z,Z,Z,Z,Z,Z,Z,Z,Z,Z,Z,Z,Z,Z,Z,Z,Z,Z,Z,Z,Z,Z,Z,Z,Z,Z,Z,Z,Z,Z,Z,Z,Z,Z,Z,Z,Z,Z,Z,Z,Z,Z,Z,Z,Z,Z,Z,Z,Z,Z,Z,Z,Z,Z,Z,Z,Z,Z,Z,Z,Z,Z,Z,Z,Z,Z,Z,Z,Z,Z,Z,Z,Z,Z,Z,Z,Z,Z,Z,Z,Z,Z,Z] H)
 (zG 2 [(.full []),(.p (.int .i64 0))] H fun xs H B2=>zjK q1s0 q1s1 q1s2 q1s7 y0 q1s15 q1s16 q1s17 q1s18 q1s19 q1s20 q1s21 q1s22 q1s23 q1s28 q1s29 q1s34 y0 q1s1 (.p (.bool false)) v35 v36 v37 v37 v42 v42 v49 v49 (.p (.bool false)) (xs.getD 0 Z) (xs.getD 1 Z) H B2 self kp))
def zcg (j0 j1 j2:AV) (H:List Ob) (self:Code→List AV→List Ob→Ko→Prop) (kp:Ko):Prop :=
 zb 21 j0 j1 fun v0 =>
 aLoad true 21 v0 H fun v1 =>
 zy [(.p (.str [])),(.p (.int .i64 0)),(.p (.str [])),(.p (.int .i64 0)),(.full []),(.full []),(.p (.str [])),(.p (.int .i64 0)),(.p (.int .i64 0)),(.p (.bool false)),(.p (.str [])),(.full []),(.p (.int .i64 0)),(.full []),(.p (.int .i64 0)),(.p (.int .i64 0)),(.full []),(.p (.int .i64 0)),(.p (.int .i64 0)),(.p (.str [])),(.p (.bool false))] H fun v2 h3 =>
 zj 21 v2 v1 h3 fun _ h5 =>
 za 0 v2 fun v6 =>
 aLoad false 1 v6 h5 fun v7 =>
 aBin false false .neq v7 (.p (.str [])) fun v8 =>
 zl true v8 (fun Q9 =>
 za 0 v2 fun v10 =>
 aLoad false 1 v10 h5 fun v11 =>
 aCall Tryz.prog (.p (.func zcP [])) [v11] h5 fun v12 h13 =>
 aUn .not v12 fun v14 =>
 (h13=h5∧Q9 v14)) fun v15 =>
 zl false v15 (fun Q16 =>
 za 19 v2 fun v17 =>
 aLoad false 1 v17 h5 fun v18 =>
 aCall Tryz.prog (.p (.func zcP [])) [v18] h5 fun v19 h20 =>
 aUn .not v19 fun v21 =>
 (h20=h5∧Q16 v21)) fun v22 =>
 ze v22
 (kp .ret [j0,j1,j2,Z,Z,Z,(.p (.int .i64 6)),v2,Z,Z,Z,Z,Z,Z,Z,j0,j1,v0,v1,(.p (.bool true)),v6,v7,v8,v8,Z,Z,Z,Z,v15,v15,Z,Z,Z,Z,v22,Z,Z,Z,Z,Z,Z,Z,Z,Z,Z,Z,Z,Z,Z,Z,Z,Z,Z,Z,Z,Z,Z,Z,Z,Z,Z,Z,Z,Z,Z,Z,Z,Z,Z,Z,Z,Z,Z,Z,Z,Z,Z,Z,Z,Z,Z,Z,Z,Z,Z,Z,Z,Z,Z,Z,Z,Z,Z,Z,Z,Z,Z,Z,Z,Z,Z,Z,Z,Z,Z,Z,Z,Z,Z,Z,Z,Z,Z,Z,Z,Z,Z,Z,Z,Z,Z,Z,Z,Z,Z,Z,Z,Z,Z,Z,Z,Z,Z,Z,Z,Z,Z,Z,Z,Z,Z,Z,Z,Z,Z,Z,Z,Z,Z,Z,Z,Z,Z,Z,Z,Z,Z,Z,Z,Z,Z,Z,Z,Z,Z,Z,Z,Z,Z,Z,Z,Z,Z,Z,Z,Z,Z,Z,Z,Z,Z,Z,Z,Z,Z,Z,Z,Z] h5)
 (zG 1 [(.p (.int .i64 0))] h5 fun xs H B1=>zjx j0 j1 j2 v2 j0 j1 v0 v1 (.p (.bool false)) v6 v7 v8 v8 v15 v15 v22 (xs.getD 0 Z) H B1 self kp)
theorem zoe (j0 j1 j2:AV) (H:List Ob) (self:Code→List AV→List Ob→Ko→Prop) (kp:Ko):awpX Tryz.prog zM self zc3 zdM ([j0,j1,j2]++List.replicate 185 Z) H kp=zcg j0 j1 j2 H self kp:=by kernel_rfl
theorem zoi (j0 j1 j2:AV) (H:List Ob) (kp:Ko):awp Tryz.prog zM zdM [j0,j1,j2,Z,Z,Z,Z,Z,Z,Z,Z,Z,Z,Z,Z,Z,Z,Z,Z,Z,Z,Z,Z,Z,Z,Z,Z,Z,Z,Z,Z,Z,Z,Z,Z,Z,Z,Z,Z,Z,Z,Z,Z,Z,Z,Z,Z,Z,Z,Z,Z,Z,Z,Z,Z,Z,Z,Z,Z,Z,Z,Z,Z,Z,Z,Z,Z,Z,Z,Z,Z,Z,Z,Z,Z,Z,Z,Z,Z,Z,Z,Z,Z,Z,Z,Z,Z,Z,Z,Z,Z,Z,Z,Z,Z,Z,Z,Z,Z,Z,Z,Z,Z,Z,Z,Z,Z,Z,Z,Z,Z,Z,Z,Z,Z,Z,Z,Z,Z,Z,Z,Z,Z,Z,Z,Z,Z,Z,Z,Z,Z,Z,Z,Z,Z,Z,Z,Z,Z,Z,Z,Z,Z,Z,Z,Z,Z,Z,Z,Z,Z,Z,Z,Z,Z,Z,Z,Z,Z,Z,Z,Z,Z,Z,Z,Z,Z,Z,Z,Z,Z,Z,Z,Z,Z,Z,Z,Z,Z,Z,Z,Z,Z,Z,Z,Z,Z,Z] H kp=zcg j0 j1 j2 H (awp Tryz.prog zM) kp :=
 Eq.trans (by kernel_rfl) ((zcQ Tryz.prog zM zc3 _ _ _ _).symm.trans (zoe j0 j1 j2 H _ kp))
theorem zqL (j0 j1 j2:AV) (H:List Ob) (r:AV) (Ho:List Ob):aBody Tryz.prog zM Tryz.f75 H [j0,j1,j2] r Ho=zcg j0 j1 j2 H (awp Tryz.prog zM) (kEnd Tryz.prog [.tmp 6] fun v H'=>Gives H.length v H' r Ho) :=
 (show aBody Tryz.prog zM Tryz.f75 H [j0,j1,j2] r Ho=awp Tryz.prog zM zdM [j0,j1,j2,Z,Z,Z,Z,Z,Z,Z,Z,Z,Z,Z,Z,Z,Z,Z,Z,Z,Z,Z,Z,Z,Z,Z,Z,Z,Z,Z,Z,Z,Z,Z,Z,Z,Z,Z,Z,Z,Z,Z,Z,Z,Z,Z,Z,Z,Z,Z,Z,Z,Z,Z,Z,Z,Z,Z,Z,Z,Z,Z,Z,Z,Z,Z,Z,Z,Z,Z,Z,Z,Z,Z,Z,Z,Z,Z,Z,Z,Z,Z,Z,Z,Z,Z,Z,Z,Z,Z,Z,Z,Z,Z,Z,Z,Z,Z,Z,Z,Z,Z,Z,Z,Z,Z,Z,Z,Z,Z,Z,Z,Z,Z,Z,Z,Z,Z,Z,Z,Z,Z,Z,Z,Z,Z,Z,Z,Z,Z,Z,Z,Z,Z,Z,Z,Z,Z,Z,Z,Z,Z,Z,Z,Z,Z,Z,Z,Z,Z,Z,Z,Z,Z,Z,Z,Z,Z,Z,Z,Z,Z,Z,Z,Z,Z,Z,Z,Z,Z,Z,Z,Z,Z,Z,Z,Z,Z,Z,Z,Z,Z,Z,Z,Z,Z,Z,Z] H (kEnd Tryz.prog [.tmp 6] fun v H'=>Gives H.length v H' r Ho) from by kernel_rfl).trans (zoi j0 j1 j2 H _)
theorem zqO {j0 j1 j2:AV} {r:AV} {Ho:List Ob} (h:zcg j0 j1 j2 [] (awp Tryz.prog zM) (kEnd Tryz.prog [.tmp 6] fun v H'=>Gives 0 v H' r Ho)):Abs.Fn Tryz.prog zgI [] [j0,j1,j2] r Ho :=
 zh mixed zM (fn:=Tryz.f75) (by kernel_rfl) (by kernel_rfl) (by rw [zqL]; exact h)
def zjN (q4s0 q4s1 q4s7 q4s9 q4s12 q4s13 q4s135 q4s136 q4s137 q4s138 q4s139 q4s140 q4s141 q4s142 q4s143 q4s145 q4s146 q4s147 q4s148 y0:AV) (H:List Ob) (B4:List AV→List Ob→Prop) (self:Code→List AV→List Ob→Ko→Prop) (kp:Ko):Prop :=
 aBin false false .lss y0 q4s1 fun v117 =>
 ze v117
 (za 1 q4s7 fun v118 =>
 za 0 v118 fun v119 =>
 aLoad false 1 v119 H fun v120 =>
 aBin false false .eql v120 (.p (.int .i64 1)) fun v121 =>
 ze v121
 (zb 21 q4s0 y0 fun v122 =>
 za 1 v122 fun v123 =>
 za 0 v123 fun v124 =>
 aLoad false 1 v124 H fun v125 =>
 za 1 q4s7 fun v126 =>
 za 0 v126 fun v127 =>
 aLoad false 1 v127 H fun v128 =>
 aBin false false .eql v125 v128 fun v129 =>
 ze v129
 (zb 21 q4s0 y0 fun v130 =>
 za 1 v130 fun v131 =>
 za 1 v131 fun v132 =>
 aLoad false 1 v132 H fun v133 =>
 za 1 q4s7 fun v134 =>
 za 1 v134 fun v135 =>
 aLoad false 1 v135 H fun v136 =>
 aBin false false .eql v133 v136 fun v137 =>
 ze v137
 (kp .ret [q4s0,q4s1,Z,Z,Z,Z,(.p (.int .i64 7)),q4s7,Z,q4s9,Z,Z,q4s12,q4s13,y0,Z,Z,Z,Z,Z,Z,Z,Z,Z,Z,Z,Z,Z,Z,Z,Z,Z,Z,Z,Z,Z,Z,Z,Z,Z,Z,Z,Z,Z,Z,Z,Z,Z,Z,Z,Z,Z,Z,Z,Z,Z,Z,Z,Z,Z,Z,Z,Z,Z,Z,Z,Z,Z,Z,Z,Z,Z,Z,Z,Z,Z,Z,Z,Z,Z,Z,Z,Z,Z,Z,Z,Z,Z,Z,Z,Z,Z,Z,Z,Z,Z,Z,Z,Z,Z,Z,Z,Z,Z,Z,Z,Z,Z,Z,Z,Z,Z,Z,Z,Z,Z,Z,Z,Z,Z,Z,Z,Z,Z,Z,Z,Z,Z,Z,Z,Z,Z,Z,Z,Z,q4s135,q4s136,q4s137,q4s138,q4s139,q4s140,q4s141,q4s142,q4s143,Z,q4s145,q4s146,q4s147,q4s148,y0,q4s1,(.p (.bool true)),Z,Z,v118,v119,v120,v121,(.p (.bool true)),(.tup []),(.tup []),(.tup []),(.tup []),(.p (.bool true)),(.p (.bool true)),q4s0,y0,v122,v123,v124,v125,v126,v127,v128,v129,v129,(.p (.bool true)),q4s0,y0,v130,v131,v132,v133,v134,v135,v136,v137,(.p (.bool true))] H)
 (aBin false false .add y0 (.p (.int .i64 1)) fun v138 =>
 B4 [v138] H))
 (aBin false false .add y0 (.p (.int .i64 1)) fun v139 =>
 B4 [v139] H))
 (za 1 q4s7 fun v140 =>
 za 0 v140 fun v141 =>
 aLoad false 1 v141 H fun v142 =>
 aBin false false .eql v142 (.p (.int .i64 9)) fun v143 =>
 ze v143
 (zb 21 q4s0 y0 fun v144 =>
 za 1 v144 fun v145 =>
 za 0 v145 fun v146 =>
 aLoad false 1 v146 H fun v147 =>
 za 1 q4s7 fun v148 =>
 za 0 v148 fun v149 =>
 aLoad false 1 v149 H fun v150 =>
 aBin false false .eql v147 v150 fun v151 =>
 ze v151
 (zb 21 q4s0 y0 fun v152 =>
 za 1 v152 fun v153 =>
 za 1 v153 fun v154 =>
 aLoad false 1 v154 H fun v155 =>
 za 1 q4s7 fun v156 =>
 za 1 v156 fun v157 =>
 aLoad false 1 v157 H fun v158 =>
 aBin false false .eql v155 v158 fun v159 =>
 ze v159
 (kp .ret [q4s0,q4s1,Z,Z,Z,Z,(.p (.int .i64 7)),q4s7,Z,q4s9,Z,Z,q4s12,q4s13,y0,Z,Z,Z,Z,Z,Z,Z,Z,Z,Z,Z,Z,Z,Z,Z,Z,Z,Z,Z,Z,Z,Z,Z,Z,Z,Z,Z,Z,Z,Z,Z,Z,Z,Z,Z,Z,Z,Z,Z,Z,Z,Z,Z,Z,Z,Z,Z,Z,Z,Z,Z,Z,Z,Z,Z,Z,Z,Z,Z,Z,Z,Z,Z,Z,Z,Z,Z,Z,Z,Z,Z,Z,Z,Z,Z,Z,Z,Z,Z,Z,Z,Z,Z,Z,Z,Z,Z,Z,Z,Z,Z,Z,Z,Z,Z,Z,Z,Z,Z,Z,Z,Z,Z,Z,Z,Z,Z,Z,Z,Z,Z,Z,Z,Z,Z,Z,Z,Z,Z,Z,q4s135,q4s136,q4s137,q4s138,q4s139,q4s140,q4s141,q4s142,q4s143,Z,q4s145,q4s146,q4s147,q4s148,y0,q4s1,(.p (.bool true)),Z,Z,v118,v119,v120,v121,(.p (.bool false)),v140,v141,v142,v143,v143,(.p (.bool true)),q4s0,y0,v144,v145,v146,v147,v148,v149,v150,v151,v151,(.p (.bool true)),q4s0,y0,v152,v153,v154,v155,v156,v157,v158,v159,(.p (.bool true))] H)
 (aBin false false .add y0 (.p (.int .i64 1)) fun v160 =>
 B4 [v160] H))
 (aBin false false .add y0 (.p (.int .i64 1)) fun v161 =>
 B4 [v161] H))
 (aBin false false .add y0 (.p (.int .i64 1)) fun v162 =>
 B4 [v162] H)))
 (kp .ret [q4s0,q4s1,Z,Z,Z,Z,(.p (.int .i64 0)),q4s7,Z,q4s9,Z,Z,q4s12,q4s13,y0,Z,Z,Z,Z,Z,Z,Z,Z,Z,Z,Z,Z,Z,Z,Z,Z,Z,Z,Z,Z,Z,Z,Z,Z,Z,Z,Z,Z,Z,Z,Z,Z,Z,Z,Z,Z,Z,Z,Z,Z,Z,Z,Z,Z,Z,Z,Z,Z,Z,Z,Z,Z,Z,Z,Z,Z,Z,Z,Z,Z,Z,Z,Z,Z,Z,Z,Z,Z,Z,Z,Z,Z,Z,Z,Z,Z,Z,Z,Z,Z,Z,Z,Z,Z,Z,Z,Z,Z,Z,Z,Z,Z,Z,Z,Z,Z,Z,Z,Z,Z,Z,Z,Z,Z,Z,Z,Z,Z,Z,Z,Z,Z,Z,Z,Z,Z,Z,Z,Z,Z,q4s135,q4s136,q4s137,q4s138,q4s139,q4s140,q4s141,q4s142,q4s143,Z,q4s145,q4s146,q4s147,q4s148,y0,q4s1,(.p (.bool false)),Z,Z,Z,Z,Z,Z,Z,Z,Z,Z,Z,Z,Z,Z,Z,Z,Z,Z,Z,Z,Z,Z,Z,Z,Z,Z,Z,Z,Z,Z,Z,Z,Z,Z,Z,Z] H)
def zeT (j0 j1 j7 j9:AV) (H:List Ob) (self:Code→List AV→List Ob→Ko→Prop) (kp:Ko):Prop :=
 za 1 j7 fun v103 =>
 aLoad true 15 v103 H fun v104 =>
 aCall Tryz.prog (.p (.func zer [])) [v104,j9] H fun v105 h106 =>
 zB v105 0 fun v107 =>
 zB v105 1 fun v108 =>
 zy [(.p (.int .i64 0)),(.full [])] h106 fun v109 h110 =>
 zj 2 v109 v107 h110 fun _ h112 =>
 aBin false false .neq v108 (.p (.int .i64 0)) fun v113 =>
 ze v113
 (kp .ret [j0,j1,Z,Z,Z,Z,v108,j7,Z,j9,Z,Z,v109,v108,Z,Z,Z,Z,Z,Z,Z,Z,Z,Z,Z,Z,Z,Z,Z,Z,Z,Z,Z,Z,Z,Z,Z,Z,Z,Z,Z,Z,Z,Z,Z,Z,Z,Z,Z,Z,Z,Z,Z,Z,Z,Z,Z,Z,Z,Z,Z,Z,Z,Z,Z,Z,Z,Z,Z,Z,Z,Z,Z,Z,Z,Z,Z,Z,Z,Z,Z,Z,Z,Z,Z,Z,Z,Z,Z,Z,Z,Z,Z,Z,Z,Z,Z,Z,Z,Z,Z,Z,Z,Z,Z,Z,Z,Z,Z,Z,Z,Z,Z,Z,Z,Z,Z,Z,Z,Z,Z,Z,Z,Z,Z,Z,Z,Z,Z,Z,Z,Z,Z,Z,Z,v105,v103,v104,j9,v105,v107,v108,v108,(.p (.bool true)),v108,Z,Z,Z,Z,Z,Z,Z,Z,Z,Z,Z,Z,Z,Z,Z,Z,Z,Z,Z,Z,Z,Z,Z,Z,Z,Z,Z,Z,Z,Z,Z,Z,Z,Z,Z,Z,Z,Z,Z,Z,Z,Z,Z] h112)
 (aCall Tryz.prog (.p (.func ze6 [])) [j0,j1] h112 fun v114 h115 =>
 aBin false false .gtr v114 (.p (.int .i64 64)) fun v116 =>
 ze v116
 (kp .ret [j0,j1,Z,Z,Z,Z,(.p (.int .i64 10)),j7,Z,j9,Z,Z,v109,v108,Z,Z,Z,Z,Z,Z,Z,Z,Z,Z,Z,Z,Z,Z,Z,Z,Z,Z,Z,Z,Z,Z,Z,Z,Z,Z,Z,Z,Z,Z,Z,Z,Z,Z,Z,Z,Z,Z,Z,Z,Z,Z,Z,Z,Z,Z,Z,Z,Z,Z,Z,Z,Z,Z,Z,Z,Z,Z,Z,Z,Z,Z,Z,Z,Z,Z,Z,Z,Z,Z,Z,Z,Z,Z,Z,Z,Z,Z,Z,Z,Z,Z,Z,Z,Z,Z,Z,Z,Z,Z,Z,Z,Z,Z,Z,Z,Z,Z,Z,Z,Z,Z,Z,Z,Z,Z,Z,Z,Z,Z,Z,Z,Z,Z,Z,Z,Z,Z,Z,Z,Z,v105,v103,v104,j9,v105,v107,v108,v108,(.p (.bool false)),Z,j0,j1,v114,(.p (.bool true)),Z,Z,Z,Z,Z,Z,Z,Z,Z,Z,Z,Z,Z,Z,Z,Z,Z,Z,Z,Z,Z,Z,Z,Z,Z,Z,Z,Z,Z,Z,Z,Z,Z,Z,Z,Z,Z,Z,Z] h115)
 (zG 1 [(.p (.int .i64 0))] h115 fun xs H B4=>zjN j0 j1 j7 j9 v109 v108 v105 v103 v104 j9 v105 v107 v108 v108 (.p (.bool false)) j0 j1 v114 (.p (.bool false)) (xs.getD 0 Z) H B4 self kp))
theorem zm0 (j0 j1 j7 j9:AV) (H:List Ob) (self:Code→List AV→List Ob→Ko→Prop) (kp:Ko):awpX Tryz.prog zM self zc3 zeF ([j0,j1,Z,Z,Z,Z,Z,j7,Z,j9]++List.replicate 178 Z) H kp=zeT j0 j1 j7 j9 H self kp:=by kernel_rfl
theorem zmd (H:List Ob) (kp:Ko):awp Tryz.prog zM zeF (keepS [0,1,7,9,9999] 0 [j0,j1,j2,j3,j4,j5,j6,j7,j8,j9,j10,j11,j12,j13,j14,j15,j16,j17,j18,j19,j20,j21,j22,j23,j24,j25,j26,j27,j28,j29,j30,j31,j32,j33,j34,j35,j36,j37,j38,j39,j40,j41,j42,j43,j44,j45,j46,j47,j48,j49,j50,j51,j52,j53,j54,j55,j56,j57,j58,j59,j60,j61,j62,j63,j64,j65,j66,j67,j68,j69,j70,j71,j72,j73,j74,j75,j76,j77,j78,j79,j80,j81,j82,j83,j84,j85,j86,j87,j88,j89,j90,j91,j92,j93,j94,j95,j96,j97,j98,j99,j100,j101,j102,j103,j104,j105,j106,j107,j108,j109,j110,j111,j112,j113,j114,j115,j116,j117,j118,j119,j120,j121,j122,j123,j124,j125,j126,j127,j128,j129,j130,j131,j132,j133,j134,j135,j136,j137,j138,j139,j140,j141,j142,j143,j144,j145,j146,j147,j148,j149,j150,j151,j152,j153,j154,j155,j156,j157,j158,j159,j160,j161,j162,j163,j164,j165,j166,j167,j168,j169,j170,j171,j172,j173,j174,j175,j176,j177,j178,j179,j180,j181,j182,j183,j184,j185,j186,j187]) H kp=zeT j0 j1 j7 j9 H (awp Tryz.prog zM) kp :=
 Eq.trans (by kernel_rfl) ((zcQ Tryz.prog zM zc3 _ _ _ _).symm.trans (zm0 j0 j1 j7 j9 H _ kp))
def zi5 (q2s0 q2s5 q2s6 y0 y1:AV) (H:List Ob) (B2:List AV→List Ob→Prop) (B1:List AV→List Ob→Prop) (K:AV→List Ob→Prop):Prop :=
 zb 21 q2s0 q2s6 fun v1 =>
 za 16 v1 fun v2 =>
 aLoad false 1 v2 H fun v3 =>
 aLen false false v3 fun v4 =>
 aBin false false .lss y1 v4 fun v5 =>
 ze v5
 (zb 21 q2s0 q2s6 fun v6 =>
 za 16 v6 fun v7 =>
 aLoad false 1 v7 H fun v8 =>
 zb 1 v8 y1 fun v9 =>
 aLoad false 1 v9 H fun v10 =>
 zb 2 q2s5 v10 fun v11 =>
 aLoad true 2 v11 H fun v12 =>
 zn 2 [v12] fun v13 =>
 zI false 2 32 y0 v13 H fun v14 h15 =>
 aBin false false .add y1 (.p (.int .i64 1)) fun v16 =>
 B2 [v14,v16] h15)
 (zb 21 q2s0 q2s6 fun v17 =>
 za 1 v17 fun v18 =>
 aLoad true 15 v18 H fun v19 =>
 aCall Tryz.prog (.p (.func zer [])) [v19,y0] H fun v20 h21 =>
 zB v20 0 fun v22 =>
 zB v20 1 fun _ =>
 zy [(.p (.int .i64 0)),(.full [])] h21 fun v24 h25 =>
 zj 2 v24 v22 h25 fun _ h27 =>
 aLoad true 2 v24 h27 fun v28 =>
 zn 2 [v28] fun v29 =>
 zI false 2 32 q2s5 v29 h27 fun v30 h31 =>
 aBin false false .add q2s6 (.p (.int .i64 1)) fun v32 =>
 B1 [v30,v32] h31)
def ziF (q1s0 q1s1 y0 y1:AV) (H:List Ob) (B1:List AV→List Ob→Prop) (K:AV→List Ob→Prop):Prop :=
 aBin false false .lss y1 q1s1 fun v0 =>
 ze v0
 (zG 2 [(.full []),(.p (.int .i64 0))] H fun xs H B2=>zi5 q1s0 y0 y1 (xs.getD 0 Z) (xs.getD 1 Z) H B2 B1 K)
 (K y0 H)
def zhp (x0 x1:AV) (H:List Ob) (K:AV→List Ob→Prop):Prop :=
 zG 2 [(.full []),(.p (.int .i64 0))] H fun xs H B1=>ziF x0 x1 (xs.getD 0 Z) (xs.getD 1 Z) H B1 K
def zhS:Nat→List Nat:=fun k=>match k with | 3=>[5,6] | 7=>[7,8] | _=>[]
theorem zp2 (x0 x1:AV) (H:List Ob) (r:AV) (Ho:List Ob):aBody Tryz.prog zhS Tryz.f76 H [x0,x1] r Ho=zhp x0 x1 H (fun v H'=>Gives H.length v H' r Ho):=by kernel_rfl
theorem zo1 {x0 x1:AV} {r:AV} {Ho:List Ob} (h:zhp x0 x1 [] (fun v H'=>Gives 0 v H' r Ho)):Abs.Fn Tryz.prog zfN [] [x0,x1] r Ho :=
 zh mixed zhS (fn:=Tryz.f76) (by kernel_rfl) (by kernel_rfl) (by rw [zp2]; exact h)
def zjE (q2s0 q2s1 q2s6 y0 y1:AV) (H:List Ob) (B2:List AV→List Ob→Prop) (B1:List AV→List Ob→Prop) (K:AV→List Ob→Prop):Prop :=
 zb 21 q2s0 q2s6 fun v2 =>
 za 16 v2 fun v3 =>
 aLoad false 1 v3 H fun v4 =>
 aLen false false v4 fun v5 =>
 aBin false false .lss y1 v5 fun v6 =>
 ze v6
 (zb 21 q2s0 q2s6 fun v7 =>
 za 16 v7 fun v8 =>
 aLoad false 1 v8 H fun v9 =>
 zb 1 v9 y1 fun v10 =>
 aLoad false 1 v10 H fun v11 =>
 aBin false false .eql v11 q2s1 fun v12 =>
 ze v12
 (zn 1 [q2s6] fun v13 =>
 zI false 1 8 y0 v13 H fun v14 h15 =>
 aBin false false .add q2s6 (.p (.int .i64 1)) fun v16 =>
 B1 [v14,v16] h15)
 (aBin false false .add y1 (.p (.int .i64 1)) fun v17 =>
 B2 [y0,v17] H))
 (aBin false false .add q2s6 (.p (.int .i64 1)) fun v18 =>
 B1 [y0,v18] H)
def zjy (q1s0 q1s1 y0 y1:AV) (H:List Ob) (B1:List AV→List Ob→Prop) (K:AV→List Ob→Prop):Prop :=
 aLen false false q1s0 fun v0 =>
 aBin false false .lss y1 v0 fun v1 =>
 ze v1
 (zG 2 [y0,(.p (.int .i64 0))] H fun xs H B2=>zjE q1s0 q1s1 y1 (xs.getD 0 Z) (xs.getD 1 Z) H B2 B1 K)
 (K y0 H)
def zic (x0 x1:AV) (H:List Ob) (K:AV→List Ob→Prop):Prop :=
 zG 2 [(.full []),(.p (.int .i64 0))] H fun xs H B1=>zjy x0 x1 (xs.getD 0 Z) (xs.getD 1 Z) H B1 K
def ziS:Nat→List Nat:=fun k=>match k with | 3=>[5,6] | 6=>[5,7] | _=>[]
theorem zqB (x0 x1:AV) (H:List Ob) (r:AV) (Ho:List Ob):aBody Tryz.prog ziS Tryz.f77 H [x0,x1] r Ho=zic x0 x1 H (fun v H'=>Gives H.length v H' r Ho):=by kernel_rfl
theorem zqz {x0 x1:AV} {r:AV} {Ho:List Ob} (h:zic x0 x1 [] (fun v H'=>Gives 0 v H' r Ho)):Abs.Fn Tryz.prog zgL [] [x0,x1] r Ho :=
 zh mixed ziS (fn:=Tryz.f77) (by kernel_rfl) (by kernel_rfl) (by rw [zqB]; exact h)
def zjG (q1s0 y0:AV) (H:List Ob) (B1:List AV→List Ob→Prop) (K:AV→List Ob→Prop):Prop :=
 aLen false true q1s0 fun v14 =>
 aBin false false .lss y0 v14 fun v15 =>
 ze v15
 (zkK q1s0 y0 fun v16 =>
 aBin false false .lss v16 (.p (.int .u8 97)) fun v17 =>
 zl false v17 (fun Q18 =>
 zkK q1s0 y0 fun v19 =>
 aBin false false .gtr v19 (.p (.int .u8 122)) fun v20 =>
 (H=H∧Q18 v20)) fun v21 =>
 zl true v21 (fun Q22 =>
 zkK q1s0 y0 fun v23 =>
 aBin false false .lss v23 (.p (.int .u8 48)) fun v24 =>
 zl false v24 (fun Q25 =>
 zkK q1s0 y0 fun v26 =>
 aBin false false .gtr v26 (.p (.int .u8 57)) fun v27 =>
 (H=H∧Q25 v27)) fun v28 =>
 (H=H∧Q22 v28)) fun v29 =>
 zl true v29 (fun Q30 =>
 zkK q1s0 y0 fun v31 =>
 aBin false false .neq v31 (.p (.int .u8 95)) fun v32 =>
 (H=H∧Q30 v32)) fun v33 =>
 ze v33
 (K (.p (.bool false)) H)
 (aBin false false .add y0 (.p (.int .i64 1)) fun v34 =>
 B1 [v34] H))
 (K (.p (.bool true)) H)
def zfi (x0:AV) (H:List Ob) (K:AV→List Ob→Prop):Prop :=
 aLen false true x0 fun v0 =>
 aBin false false .lss v0 (.p (.int .i64 1)) fun v1 =>
 zl false v1 (fun Q2 =>
 aLenS true x0 fun v3 =>
 aBin false false .gtr v3 (.p (.int .i64 16)) fun v4 =>
 (H=H∧Q2 v4)) fun v5 =>
 zl false v5 (fun Q6 =>
 zkK x0 (.p (.int .i64 0)) fun v7 =>
 aBin false false .lss v7 (.p (.int .u8 97)) fun v8 =>
 (H=H∧Q6 v8)) fun v9 =>
 zl false v9 (fun Q10 =>
 zkK x0 (.p (.int .i64 0)) fun v11 =>
 aBin false false .gtr v11 (.p (.int .u8 122)) fun v12 =>
 (H=H∧Q10 v12)) fun v13 =>
 ze v13
 (K (.p (.bool false)) H)
 (zG 1 [(.p (.int .i64 0))] H fun xs H B1=>zjG x0 (xs.getD 0 Z) H B1 K)
def zi9:Nat→List Nat:=fun k=>match k with | 4=>[3] | _=>[]
theorem zqt (x0:AV) (H:List Ob) (r:AV) (Ho:List Ob):aBody Tryz.prog zi9 Tryz.f119 H [x0] r Ho=zfi x0 H (fun v H'=>Gives H.length v H' r Ho):=by kernel_rfl
theorem zqG {x0:AV} {r:AV} {Ho:List Ob} (h:zfi x0 [] (fun v H'=>Gives 0 v H' r Ho)):Abs.Fn Tryz.prog zcP [] [x0] r Ho :=
 zh mixed zi9 (fn:=Tryz.f119) (by kernel_rfl) (by kernel_rfl) (by rw [zqt]; exact h)
def zgO (q2s1 q2s2 q2s4 q2s7 y0 y1:AV) (H:List Ob) (B2:List AV→List Ob→Prop) (K:AV→List Ob→Prop):Prop :=
 za 4 q2s2 fun v84 =>
 aLoad false 1 v84 H fun v85 =>
 aLen false false v85 fun v86 =>
 aBin false false .lss y1 v86 fun v87 =>
 ze v87
 (zy [(.p (.int .i64 0)),(.full [])] H fun v88 h89 =>
 za 4 q2s2 fun v90 =>
 aLoad false 1 v90 h89 fun v91 =>
 zb 8 v91 y1 fun v92 =>
 aLoad true 8 v92 h89 fun v93 =>
 zb 2 q2s1 (.p (.int .i64 0)) fun v94 =>
 aLoad true 2 v94 h89 fun v95 =>
 zL Tryz.prog (.p (.func zcm [])) [v93,v95] fun v96 =>
 zB v96 0 fun v97 =>
 zB v96 1 fun v98 =>
 zj 2 v88 v97 h89 fun _ h100 =>
 aBin false false .neq v98 (.p (.int .i64 0)) fun v101 =>
 ze v101
 (zr [(.p (.int .i64 0)),(.full [])] [] fun v102 =>
 zj 2 q2s4 v102 h100 fun _ h104 =>
 aLoad true 2 q2s4 h104 fun v105 =>
 K (.tup [v105,v98]) h104)
 (aLoad true 2 v88 h100 fun v106 =>
 zn 2 [v106] fun v107 =>
 zI false 2 32 y0 v107 h100 fun v108 h109 =>
 aBin false false .add y1 (.p (.int .i64 1)) fun v110 =>
 B2 [v108,v110] h109))
 (aLoad true 15 q2s2 H fun v111 =>
 aLoad true 2 q2s7 H fun v112 =>
 aCall Tryz.prog (.p (.func zdI [])) [v111,q2s1,v112,y0] H fun v113 h114 =>
 zB v113 0 fun v115 =>
 zB v113 1 fun v116 =>
 zj 2 q2s4 v115 h114 fun _ h118 =>
 aLoad true 2 q2s4 h118 fun v119 =>
 K (.tup [v119,v116]) h118)
def zdN (j1s1 j1s2 j1s4 j1s7:AV) (H:List Ob) (K:AV→List Ob→Prop):Prop :=
 zG 2 [(.full []),(.p (.int .i64 0))] H fun xs H B2=>zgO j1s1 j1s2 j1s4 j1s7 (xs.getD 0 Z) (xs.getD 1 Z) H B2 K
def zkO (q1s1 q1s2 q1s4 y0:AV) (H:List Ob) (B1:List AV→List Ob→Prop) (K:AV→List Ob→Prop):Prop :=
 aLen false false q1s1 fun v50 =>
 aBin false false .lss y0 v50 fun v51 =>
 ze v51
 (zb 2 q1s1 y0 fun v52 =>
 aLoad true 2 v52 H fun v53 =>
 aCall Tryz.prog (.p (.func zaC [])) [v53] H fun v54 h55 =>
 aBin false false .neq v54 (.p (.int .i64 0)) fun v56 =>
 ze v56
 (zr [(.p (.int .i64 0)),(.full [])] [] fun v57 =>
 zj 2 q1s4 v57 h55 fun _ h59 =>
 aLoad true 2 q1s4 h59 fun v60 =>
 K (.tup [v60,(.p (.int .i64 5))]) h59)
 (aBin false false .add y0 (.p (.int .i64 1)) fun v61 =>
 B1 [v61] h55))
 (za 0 q1s2 fun v62 =>
 aLoad false 1 v62 H fun v63 =>
 aBin false false .eql v63 (.p (.int .i64 1)) fun v64 =>
 ze v64
 (za 2 q1s2 fun v65 =>
 aLoad true 2 v65 H fun v66 =>
 aCall Tryz.prog (.p (.func zaC [])) [v66] H fun v67 h68 =>
 aBin false false .neq v67 (.p (.int .i64 0)) fun v69 =>
 ze v69
 (zr [(.p (.int .i64 0)),(.full [])] [] fun v70 =>
 zj 2 q1s4 v70 h68 fun _ h72 =>
 aLoad true 2 q1s4 h72 fun v73 =>
 K (.tup [v73,(.p (.int .i64 5))]) h72)
 (za 2 q1s2 fun v74 =>
 aLoad true 2 v74 h68 fun v75 =>
 zj 2 q1s4 v75 h68 fun _ h77 =>
 aLoad true 2 q1s4 h77 fun v78 =>
 K (.tup [v78,(.p (.int .i64 0))]) h77))
 (zr [(.p (.int .i64 0)),(.full [])] [] fun v79 =>
 zy [(.p (.int .i64 0)),(.full [])] H fun v80 h81 =>
 zj 2 v80 v79 h81 fun _ h83 =>
 aLoad true 15 q1s2 h83 fun v120 =>
 aCall Tryz.prog (.p (.func zdm [])) [v120] h83 fun v121 h122 =>
 ze v121
 (zy [(.p (.int .i64 0)),(.full [])] h122 fun v123 h124 =>
 za 5 q1s2 fun v125 =>
 aLoad true 8 v125 h124 fun v126 =>
 zb 2 q1s1 (.p (.int .i64 0)) fun v127 =>
 aLoad true 2 v127 h124 fun v128 =>
 zL Tryz.prog (.p (.func zcm [])) [v126,v128] fun v129 =>
 zB v129 0 fun v130 =>
 zB v129 1 fun v131 =>
 zj 2 v123 v130 h124 fun _ h133 =>
 aBin false false .neq v131 (.p (.int .i64 0)) fun v134 =>
 ze v134
 (zr [(.p (.int .i64 0)),(.full [])] [] fun v135 =>
 zj 2 q1s4 v135 h133 fun _ h137 =>
 aLoad true 2 q1s4 h137 fun v138 =>
 K (.tup [v138,v131]) h137)
 (aLoad true 2 v123 h133 fun v139 =>
 zj 2 v80 v139 h133 fun _ h141 =>
 zdN q1s1 q1s2 q1s4 v80 h141 K))
 (zdN q1s1 q1s2 q1s4 v80 h122 K)))
def zjw (x0 x1:AV) (H:List Ob) (K:AV→List Ob→Prop):Prop :=
 aBox x0 H fun v0 h1 =>
 zy [(.p (.int .i64 0)),(.full [])] h1 fun v2 h3 =>
 za 0 v0 fun v4 =>
 aLoad false 1 v4 h3 fun v5 =>
 aBin false false .lss v5 (.p (.int .i64 1)) fun v6 =>
 zl false v6 (fun Q7 =>
 za 0 v0 fun v8 =>
 aLoad false 1 v8 h3 fun v9 =>
 aBin false false .gtr v9 (.p (.int .i64 9)) fun v10 =>
 (h3=h3∧Q7 v10)) fun v11 =>
 ze v11
 (zr [(.p (.int .i64 0)),(.full [])] [] fun v12 =>
 zj 2 v2 v12 h3 fun _ h14 =>
 aLoad true 2 v2 h14 fun v15 =>
 K (.tup [v15,(.p (.int .i64 6))]) h14)
 (za 0 v0 fun v16 =>
 aLoad false 1 v16 h3 fun v17 =>
 aBin false false .eql v17 (.p (.int .i64 1)) fun v18 =>
 zl false v18 (fun Q19 =>
 za 0 v0 fun v20 =>
 aLoad false 1 v20 h3 fun v21 =>
 aBin false false .eql v21 (.p (.int .i64 9)) fun v22 =>
 (h3=h3∧Q19 v22)) fun v23 =>
 zl true v23 (fun Q24 =>
 za 1 v0 fun v25 =>
 aLoad false 1 v25 h3 fun v26 =>
 aCall Tryz.prog (.p (.func zcP [])) [v26] h3 fun v27 h28 =>
 aUn .not v27 fun v29 =>
 (h28=h3∧Q24 v29)) fun v30 =>
 ze v30
 (zr [(.p (.int .i64 0)),(.full [])] [] fun v31 =>
 zj 2 v2 v31 h3 fun _ h33 =>
 aLoad true 2 v2 h33 fun v34 =>
 K (.tup [v34,(.p (.int .i64 6))]) h33)
 (aLoad true 15 v0 h3 fun v35 =>
 aCall Tryz.prog (.p (.func zeD [])) [v35] h3 fun v36 h37 =>
 zl false v36 (fun Q38 =>
 za 0 v0 fun v39 =>
 aLoad false 1 v39 h37 fun v40 =>
 aLenS false x1 fun v41 =>
 aCall Tryz.prog (.p (.func zhw [])) [v40,v41] h37 fun v42 h43 =>
 aUn .not v42 fun v44 =>
 (h43=h37∧Q38 v44)) fun v45 =>
 ze v45
 (zr [(.p (.int .i64 0)),(.full [])] [] fun v46 =>
 zj 2 v2 v46 h37 fun _ h48 =>
 aLoad true 2 v2 h48 fun v49 =>
 K (.tup [v49,(.p (.int .i64 1))]) h48)
 (zG 1 [(.p (.int .i64 0))] h37 fun xs H B1=>zkO x1 v0 v2 (xs.getD 0 Z) H B1 K)))
def zjI:Nat→List Nat:=fun k=>match k with | 8=>[6] | 24=>[10,11] | _=>[]
theorem zrR (x0 x1:AV) (H:List Ob) (r:AV) (Ho:List Ob):aBody Tryz.prog zjI Tryz.f120 H [x0,x1] r Ho=zjw x0 x1 H (fun v H'=>Gives H.length v H' r Ho):=by kernel_rfl
theorem zrG {x0 x1:AV} {r:AV} {Ho:List Ob} (h:zjw x0 x1 [] (fun v H'=>Gives 0 v H' r Ho)):Abs.Fn Tryz.prog zer [] [x0,x1] r Ho :=
 zh mixed zjI (fn:=Tryz.f120) (by kernel_rfl) (by kernel_rfl) (by rw [zrR]; exact h)
def zhW (q2s0 q2s5 q2s6 y0 y1:AV) (H:List Ob) (B2:List AV→List Ob→Prop) (B1:List AV→List Ob→Prop) (K:AV→List Ob→Prop):Prop :=
 zb 21 q2s0 q2s6 fun v1 =>
 za 16 v1 fun v2 =>
 aLoad false 1 v2 H fun v3 =>
 aLen false false v3 fun v4 =>
 aBin false false .lss y1 v4 fun v5 =>
 ze v5
 (zb 21 q2s0 q2s6 fun v6 =>
 za 16 v6 fun v7 =>
 aLoad false 1 v7 H fun v8 =>
 zb 1 v8 y1 fun v9 =>
 aLoad false 1 v9 H fun v10 =>
 zb 1 q2s5 v10 fun v11 =>
 aLoad false 1 v11 H fun v12 =>
 aBin false false .add y0 v12 fun v13 =>
 aBin false false .add y1 (.p (.int .i64 1)) fun v14 =>
 B2 [v13,v14] H)
 (zb 21 q2s0 q2s6 fun v15 =>
 za 1 v15 fun v16 =>
 za 0 v16 fun v17 =>
 aLoad false 1 v17 H fun v18 =>
 aBin false false .eql v18 (.p (.int .i64 1)) fun v19 =>
 ze v19
 (zn 1 [(.p (.int .i64 1))] fun v20 =>
 zI false 1 8 q2s5 v20 H fun v21 h22 =>
 aBin false false .add q2s6 (.p (.int .i64 1)) fun v23 =>
 B1 [v21,v23] h22)
 (aBin false false .eql v18 (.p (.int .i64 4)) fun v24 =>
 ze v24
 (zb 21 q2s0 q2s6 fun v25 =>
 za 1 v25 fun v26 =>
 za 4 v26 fun v27 =>
 aLoad false 1 v27 H fun v28 =>
 aLen false false v28 fun v29 =>
 aBin false false .mul y0 v29 fun v30 =>
 zn 1 [v30] fun v31 =>
 zI false 1 8 q2s5 v31 H fun v32 h33 =>
 aBin false false .add q2s6 (.p (.int .i64 1)) fun v34 =>
 B1 [v32,v34] h33)
 (zn 1 [y0] fun v35 =>
 zI false 1 8 q2s5 v35 H fun v36 h37 =>
 aBin false false .add q2s6 (.p (.int .i64 1)) fun v38 =>
 B1 [v36,v38] h37)))
def zhV (q1s0 q1s1 y0 y1:AV) (H:List Ob) (B1:List AV→List Ob→Prop) (K:AV→List Ob→Prop):Prop :=
 aBin false false .leq y1 q1s1 fun v0 =>
 ze v0
 (zG 2 [(.p (.int .i64 0)),(.p (.int .i64 0))] H fun xs H B2=>zhW q1s0 y0 y1 (xs.getD 0 Z) (xs.getD 1 Z) H B2 B1 K)
 (zb 1 y0 q1s1 fun v39 =>
 aLoad false 1 v39 H fun v40 =>
 K v40 H)
def zgw (x0 x1:AV) (H:List Ob) (K:AV→List Ob→Prop):Prop :=
 zG 2 [(.full []),(.p (.int .i64 0))] H fun xs H B1=>zhV x0 x1 (xs.getD 0 Z) (xs.getD 1 Z) H B1 K
def zhC:Nat→List Nat:=fun k=>match k with | 3=>[5,6] | 7=>[7,8] | _=>[]
theorem zok (x0 x1:AV) (H:List Ob) (r:AV) (Ho:List Ob):aBody Tryz.prog zhC Tryz.f121 H [x0,x1] r Ho=zgw x0 x1 H (fun v H'=>Gives H.length v H' r Ho):=by kernel_rfl
theorem zod {x0 x1:AV} {r:AV} {Ho:List Ob} (h:zgw x0 x1 [] (fun v H'=>Gives 0 v H' r Ho)):Abs.Fn Tryz.prog ze6 [] [x0,x1] r Ho :=
 zh mixed zhC (fn:=Tryz.f121) (by kernel_rfl) (by kernel_rfl) (by rw [zok]; exact h)
def zbH (j1s1 j1s3 j1s4 j1s5:AV) (H:List Ob) (K:AV→List Ob→Prop):Prop :=
 aUn .not j1s3 fun v10 =>
 zl true v10 (fun Q11 =>
 za 1 j1s1 fun v12 =>
 aLoad false 1 v12 H fun v13 =>
 aBin false false .neq v13 (.p (.str [])) fun v14 =>
 (H=H∧Q11 v14)) fun v15 =>
 ze v15
 (K (.p (.bool true)) H)
 (za 0 j1s1 fun v16 =>
 aLoad false 1 v16 H fun v17 =>
 aBin false false .neq v17 (.p (.int .i64 1)) fun v18 =>
 zl true v18 (fun Q19 =>
 za 2 j1s1 fun v20 =>
 za 0 v20 fun v21 =>
 aLoad false 1 v21 H fun v22 =>
 aBin false false .neq v22 (.p (.int .i64 0)) fun v23 =>
 zl false v23 (fun Q24 =>
 za 2 j1s1 fun v25 =>
 za 1 v25 fun v26 =>
 aLoad false 1 v26 H fun v27 =>
 aLenS false v27 fun v28 =>
 aBin false false .gtr v28 (.p (.int .i64 0)) fun v29 =>
 (H=H∧Q24 v29)) fun v30 =>
 (H=H∧Q19 v30)) fun v31 =>
 ze v31
 (K (.p (.bool true)) H)
 (za 4 j1s1 fun v32 =>
 aLoad false 1 v32 H fun v33 =>
 aLen false false v33 fun v34 =>
 aBin false false .lss v34 j1s4 fun v35 =>
 zl false v35 (fun Q36 =>
 za 4 j1s1 fun v37 =>
 aLoad false 1 v37 H fun v38 =>
 aLenS false v38 fun v39 =>
 aBin false false .gtr v39 j1s5 fun v40 =>
 (H=H∧Q36 v40)) fun v41 =>
 ze v41
 (K (.p (.bool true)) H)
 (aLoad true 15 j1s1 H fun v42 =>
 aCall Tryz.prog (.p (.func zdm [])) [v42] H fun v43 h44 =>
 aUn .not v43 fun v45 =>
 zl true v45 (fun Q46 =>
 za 5 j1s1 fun v47 =>
 aLoad true 8 v47 h44 fun v48 =>
 aCall Tryz.prog (.p (.func zgA [])) [v48] h44 fun v49 h50 =>
 aUn .not v49 fun v51 =>
 (h50=h44∧Q46 v51)) fun v52 =>
 ze v52
 (K (.p (.bool true)) h44)
 (za 0 j1s1 fun v53 =>
 aLoad false 1 v53 h44 fun v54 =>
 aBin false false .eql v54 (.p (.int .i64 5)) fun v55 =>
 zl true v55 (fun Q56 =>
 za 13 j1s1 fun v57 =>
 aLoad false 1 v57 h44 fun v58 =>
 aBin false false .lss v58 (.p (.int .i64 1)) fun v59 =>
 zl false v59 (fun Q60 =>
 za 13 j1s1 fun v61 =>
 aLoad false 1 v61 h44 fun v62 =>
 aBin false false .gtr v62 (.p (.int .i64 4)) fun v63 =>
 (h44=h44∧Q60 v63)) fun v64 =>
 (h44=h44∧Q56 v64)) fun v65 =>
 zl false v65 (fun Q66 =>
 za 0 j1s1 fun v67 =>
 aLoad false 1 v67 h44 fun v68 =>
 aBin false false .neq v68 (.p (.int .i64 5)) fun v69 =>
 zl true v69 (fun Q70 =>
 za 13 j1s1 fun v71 =>
 aLoad false 1 v71 h44 fun v72 =>
 aBin false false .neq v72 (.p (.int .i64 0)) fun v73 =>
 (h44=h44∧Q70 v73)) fun v74 =>
 (h44=h44∧Q66 v74)) fun v75 =>
 ze v75
 (K (.p (.bool true)) h44)
 (za 0 j1s1 fun v76 =>
 aLoad false 1 v76 h44 fun v77 =>
 aBin false false .eql v77 (.p (.int .i64 6)) fun v78 =>
 zl true v78 (fun Q79 =>
 za 14 j1s1 fun v80 =>
 aLoad false 1 v80 h44 fun v81 =>
 aBin false false .lss v81 (.p (.int .i64 1)) fun v82 =>
 zl false v82 (fun Q83 =>
 za 14 j1s1 fun v84 =>
 aLoad false 1 v84 h44 fun v85 =>
 aBin false false .gtr v85 (.p (.int .i64 1000)) fun v86 =>
 (h44=h44∧Q83 v86)) fun v87 =>
 (h44=h44∧Q79 v87)) fun v88 =>
 zl false v88 (fun Q89 =>
 za 0 j1s1 fun v90 =>
 aLoad false 1 v90 h44 fun v91 =>
 aBin false false .neq v91 (.p (.int .i64 6)) fun v92 =>
 zl true v92 (fun Q93 =>
 za 14 j1s1 fun v94 =>
 aLoad false 1 v94 h44 fun v95 =>
 aBin false false .neq v95 (.p (.int .i64 0)) fun v96 =>
 (h44=h44∧Q93 v96)) fun v97 =>
 (h44=h44∧Q89 v97)) fun v98 =>
 K v98 h44)))))
def zgH (x0:AV) (H:List Ob) (K:AV→List Ob→Prop):Prop :=
 aBox x0 H fun v0 h1 =>
 za 0 v0 fun v2 =>
 aLoad false 1 v2 h1 fun v3 =>
 aBin false false .eql v3 (.p (.int .i64 1)) fun v4 =>
 zl false v4 (fun Q5 =>
 za 0 v0 fun v6 =>
 aLoad false 1 v6 h1 fun v7 =>
 aBin false false .eql v7 (.p (.int .i64 9)) fun v8 =>
 (h1=h1∧Q5 v8)) fun v9 =>
 za 0 v0 fun v99 =>
 aLoad false 1 v99 h1 fun v100 =>
 aBin false false .eql v100 (.p (.int .i64 2)) fun v101 =>
 zl false v101 (fun Q102 =>
 aBin false false .eql v100 (.p (.int .i64 3)) fun v103 =>
 zl false v103 (fun Q104 =>
 aBin false false .eql v100 (.p (.int .i64 5)) fun v105 =>
 (h1=h1∧Q104 v105)) fun v106 =>
 (h1=h1∧Q102 v106)) fun v107 =>
 ze v107
 (zbH v0 v9 (.p (.int .i64 1)) (.p (.int .i64 1)) h1 K)
 (aBin false false .eql v100 (.p (.int .i64 4)) fun v108 =>
 ze v108
 (zbH v0 v9 (.p (.int .i64 1)) (.p (.int .i64 4)) h1 K)
 (zbH v0 v9 (.p (.int .i64 0)) (.p (.int .i64 0)) h1 K))
def zhx:Nat→List Nat:=fun k=>match k with | 1000007=>[1] | 1000006=>[1] | _=>[]
theorem zn3 (x0:AV) (H:List Ob) (r:AV) (Ho:List Ob):aBody Tryz.prog zhx Tryz.f154 H [x0] r Ho=zgH x0 H (fun v H'=>Gives H.length v H' r Ho):=by kernel_rfl
theorem zn6 {x0:AV} {r:AV} {Ho:List Ob} (h:zgH x0 [] (fun v H'=>Gives 0 v H' r Ho)):Abs.Fn Tryz.prog zeD [] [x0] r Ho :=
 zh mixed zhx (fn:=Tryz.f154) (by kernel_rfl) (by kernel_rfl) (by rw [zn3]; exact h)
def zjt (x0 x1:AV) (H:List Ob) (K:AV→List Ob→Prop):Prop :=
 aBin false false .eql x0 (.p (.int .i64 1)) fun v0 =>
 ze v0
 (aBin false false .eql x1 (.p (.int .i64 0)) fun v1 =>
 K v1 H)
 (aBin false false .eql x0 (.p (.int .i64 8)) fun v2 =>
 ze v2
 (aBin false false .geq x1 (.p (.int .i64 2)) fun v3 =>
 zl true v3 (fun Q4 =>
 aBin false false .leq x1 (.p (.int .i64 4)) fun v5 =>
 (H=H∧Q4 v5)) fun v6 =>
 K v6 H)
 (aBin false false .eql x1 (.p (.int .i64 1)) fun v7 =>
 K v7 H))
def zjH:Nat→List Nat:=fun _=>[]
theorem zrZ (x0 x1:AV) (H:List Ob) (r:AV) (Ho:List Ob):aBody Tryz.prog zjH Tryz.f155 H [x0,x1] r Ho=zjt x0 x1 H (fun v H'=>Gives H.length v H' r Ho):=by kernel_rfl
theorem zrz {x0 x1:AV} {r:AV} {Ho:List Ob} (h:zjt x0 x1 [] (fun v H'=>Gives 0 v H' r Ho)):Abs.Fn Tryz.prog zhw [] [x0,x1] r Ho :=
 zh mixed zjH (fn:=Tryz.f155) (by kernel_rfl) (by kernel_rfl) (by rw [zrZ]; exact h)
def zhE (x0:AV) (H:List Ob) (K:AV→List Ob→Prop):Prop :=
 aBox x0 H fun v0 h1 =>
 za 0 v0 fun v2 =>
 aLoad false 1 v2 h1 fun v3 =>
 aBin false false .eql v3 (.p (.int .i64 5)) fun v4 =>
 zl false v4 (fun Q5 =>
 za 0 v0 fun v6 =>
 aLoad false 1 v6 h1 fun v7 =>
 aBin false false .eql v7 (.p (.int .i64 6)) fun v8 =>
 (h1=h1∧Q5 v8)) fun v9 =>
 zl false v9 (fun Q10 =>
 za 0 v0 fun v11 =>
 aLoad false 1 v11 h1 fun v12 =>
 aBin false false .eql v12 (.p (.int .i64 7)) fun v13 =>
 (h1=h1∧Q10 v13)) fun v14 =>
 K v14 h1
def zhN:Nat→List Nat:=fun _=>[]
theorem zpc (x0:AV) (H:List Ob) (r:AV) (Ho:List Ob):aBody Tryz.prog zhN Tryz.f157 H [x0] r Ho=zhE x0 H (fun v H'=>Gives H.length v H' r Ho):=by kernel_rfl
theorem zpH {x0:AV} {r:AV} {Ho:List Ob} (h:zhE x0 [] (fun v H'=>Gives 0 v H' r Ho)):Abs.Fn Tryz.prog zdm [] [x0] r Ho :=
 zh mixed zhN (fn:=Tryz.f157) (by kernel_rfl) (by kernel_rfl) (by rw [zpc]; exact h)
def zfG (q1s3 q1s8 y0:AV) (H:List Ob) (B1:List AV→List Ob→Prop) (K:AV→List Ob→Prop):Prop :=
 aLen false false q1s3 fun v29 =>
 aBin false false .lss y0 v29 fun v30 =>
 ze v30
 (zb 2 q1s3 y0 fun v31 =>
 aLoad true 2 v31 H fun v32 =>
 zb 2 q1s3 (.p (.int .i64 0)) fun v33 =>
 aLoad true 2 v33 H fun v34 =>
 zL Tryz.prog (.p (.func zac [])) [v32,v34] fun v35 =>
 aUn .not v35 fun v36 =>
 ze v36
 (zr [(.p (.int .i64 0)),(.full [])] [] fun v37 =>
 zj 2 q1s8 v37 H fun _ h39 =>
 aLoad true 2 q1s8 h39 fun v40 =>
 K (.tup [v40,(.p (.int .i64 5))]) h39)
 (aBin false false .add y0 (.p (.int .i64 1)) fun v41 =>
 B1 [v41] H))
 (zb 2 q1s3 (.p (.int .i64 0)) fun v42 =>
 aLoad true 2 v42 H fun v43 =>
 zj 2 q1s8 v43 H fun _ h45 =>
 aLoad true 2 q1s8 h45 fun v46 =>
 K (.tup [v46,(.p (.int .i64 0))]) h45)
def zfR (q2s1 q2s8 y0:AV) (H:List Ob) (B2:List AV→List Ob→Prop) (K:AV→List Ob→Prop):Prop :=
 aLen false false q2s1 fun v90 =>
 aBin false false .lss y0 v90 fun v91 =>
 ze v91
 (zb 2 q2s1 y0 fun v92 =>
 aLoad true 2 v92 H fun v93 =>
 zb 2 q2s1 (.p (.int .i64 0)) fun v94 =>
 aLoad true 2 v94 H fun v95 =>
 zL Tryz.prog (.p (.func zac [])) [v93,v95] fun v96 =>
 aUn .not v96 fun v97 =>
 ze v97
 (zr [(.p (.int .i64 0)),(.full [])] [] fun v98 =>
 zj 2 q2s8 v98 H fun _ h100 =>
 aLoad true 2 q2s8 h100 fun v101 =>
 K (.tup [v101,(.p (.int .i64 5))]) h100)
 (aBin false false .add y0 (.p (.int .i64 1)) fun v102 =>
 B2 [v102] H))
 (zb 2 q2s1 (.p (.int .i64 0)) fun v103 =>
 aLoad true 2 v103 H fun v104 =>
 zj 2 q2s8 v104 H fun _ h106 =>
 aLoad true 2 q2s8 h106 fun v107 =>
 K (.tup [v107,(.p (.int .i64 0))]) h106)
def zih (x0 x1 x2 x3:AV) (H:List Ob) (K:AV→List Ob→Prop):Prop :=
 aBox x0 H fun v0 h1 =>
 aBox x2 h1 fun v2 h3 =>
 zy [(.p (.int .i64 0)),(.full [])] h3 fun v4 h5 =>
 za 0 v0 fun v6 =>
 aLoad false 1 v6 h5 fun v7 =>
 aBin false false .eql v7 (.p (.int .i64 2)) fun v8 =>
 ze v8
 (zb 2 x3 (.p (.int .i64 0)) fun v9 =>
 aLoad true 2 v9 h5 fun v10 =>
 zj 2 v4 v10 h5 fun _ h12 =>
 aLoad true 2 v4 h12 fun v13 =>
 K (.tup [v13,(.p (.int .i64 0))]) h12)
 (aBin false false .eql v7 (.p (.int .i64 3)) fun v14 =>
 ze v14
 (zb 2 x3 (.p (.int .i64 0)) fun v15 =>
 za 0 v15 fun v16 =>
 aLoad false 1 v16 h5 fun v17 =>
 aBin false false .neq v17 (.p (.int .i64 2)) fun v18 =>
 ze v18
 (zr [(.p (.int .i64 0)),(.full [])] [] fun v19 =>
 zj 2 v4 v19 h5 fun _ h21 =>
 aLoad true 2 v4 h21 fun v22 =>
 K (.tup [v22,(.p (.int .i64 5))]) h21)
 (zb 2 x1 (.p (.int .i64 0)) fun v23 =>
 aLoad true 2 v23 h5 fun v24 =>
 zj 2 v4 v24 h5 fun _ h26 =>
 aLoad true 2 v4 h26 fun v27 =>
 K (.tup [v27,(.p (.int .i64 0))]) h26))
 (aBin false false .eql v7 (.p (.int .i64 4)) fun v28 =>
 ze v28
 (zG 1 [(.p (.int .i64 1))] h5 fun xs H B1=>zfG x3 v4 (xs.getD 0 Z) H B1 K)
 (aBin false false .eql v7 (.p (.int .i64 5)) fun v47 =>
 zl false v47 (fun Q48 =>
 aBin false false .eql v7 (.p (.int .i64 6)) fun v49 =>
 (h5=h5∧Q48 v49)) fun v50 =>
 ze v50
 (za 0 v0 fun v51 =>
 aLoad false 1 v51 h5 fun v52 =>
 aBin false false .eql v52 (.p (.int .i64 5)) fun v53 =>
 zl true v53 (fun Q54 =>
 zb 2 x3 (.p (.int .i64 0)) fun v55 =>
 za 0 v55 fun v56 =>
 aLoad false 1 v56 h5 fun v57 =>
 aBin false false .neq v57 (.p (.int .i64 1)) fun v58 =>
 (h5=h5∧Q54 v58)) fun v59 =>
 ze v59
 (zr [(.p (.int .i64 0)),(.full [])] [] fun v60 =>
 zj 2 v4 v60 h5 fun _ h62 =>
 aLoad true 2 v4 h62 fun v63 =>
 K (.tup [v63,(.p (.int .i64 5))]) h62)
 (zy [(.p (.int .i64 0)),(.full [])] h5 fun v64 h65 =>
 aLoad true 2 v2 h65 fun v66 =>
 zL Tryz.prog (.p (.func zcL [])) [(.p (.int .i64 1))] fun v67 =>
 zn 2 [v66,v67] fun v68 =>
 zr [(.p (.int .i64 0)),(.full [])] [(0,1,(.p (.int .i64 4))),(1,1,v68)] fun v69 =>
 zj 2 v64 v69 h65 fun _ h71 =>
 aLoad true 2 v64 h71 fun v72 =>
 aCall Tryz.prog (.p (.func zaC [])) [v72] h71 fun v73 h74 =>
 aBin false false .neq v73 (.p (.int .i64 0)) fun v75 =>
 ze v75
 (zr [(.p (.int .i64 0)),(.full [])] [] fun v76 =>
 zj 2 v4 v76 h74 fun _ h78 =>
 aLoad true 2 v4 h78 fun v79 =>
 K (.tup [v79,v73]) h78)
 (aLoad true 2 v64 h74 fun v80 =>
 zj 2 v4 v80 h74 fun _ h82 =>
 aLoad true 2 v4 h82 fun v83 =>
 K (.tup [v83,(.p (.int .i64 0))]) h82)))
 (aBin false false .eql v7 (.p (.int .i64 7)) fun v84 =>
 ze v84
 (aLoad true 2 v2 h5 fun v85 =>
 zj 2 v4 v85 h5 fun _ h87 =>
 aLoad true 2 v4 h87 fun v88 =>
 K (.tup [v88,(.p (.int .i64 0))]) h87)
 (aBin false false .eql v7 (.p (.int .i64 8)) fun v89 =>
 ze v89
 (zG 1 [(.p (.int .i64 1))] h5 fun xs H B2=>zfR x1 v4 (xs.getD 0 Z) H B2 K)
 (zb 2 x1 (.p (.int .i64 0)) fun v108 =>
 aLoad true 2 v108 h5 fun v109 =>
 zj 2 v4 v109 h5 fun _ h111 =>
 aLoad true 2 v4 h111 fun v112 =>
 K (.tup [v112,(.p (.int .i64 0))]) h111))))))
def ziO:Nat→List Nat:=fun k=>match k with | 9=>[10] | 27=>[13] | 1000015=>[1] | _=>[]
theorem zqH (x0 x1 x2 x3:AV) (H:List Ob) (r:AV) (Ho:List Ob):aBody Tryz.prog ziO Tryz.f159 H [x0,x1,x2,x3] r Ho=zih x0 x1 x2 x3 H (fun v H'=>Gives H.length v H' r Ho):=by kernel_rfl
theorem zqs {x0 x1 x2 x3:AV} {r:AV} {Ho:List Ob} (h:zih x0 x1 x2 x3 [] (fun v H'=>Gives 0 v H' r Ho)):Abs.Fn Tryz.prog zdI [] [x0,x1,x2,x3] r Ho :=
 zh mixed ziO (fn:=Tryz.f159) (by kernel_rfl) (by kernel_rfl) (by rw [zqH]; exact h)
def zik (x0:AV) (H:List Ob) (K:AV→List Ob→Prop):Prop :=
 aBox x0 H fun v0 h1 =>
 za 0 v0 fun v2 =>
 aLoad false 1 v2 h1 fun v3 =>
 aBin false false .eql v3 (.p (.str [])) fun v4 =>
 zl true v4 (fun Q5 =>
 za 1 v0 fun v6 =>
 za 0 v6 fun v7 =>
 aLoad false 1 v7 h1 fun v8 =>
 aBin false false .eql v8 (.p (.int .i64 0)) fun v9 =>
 (h1=h1∧Q5 v9)) fun v10 =>
 zl true v10 (fun Q11 =>
 za 1 v0 fun v12 =>
 za 1 v12 fun v13 =>
 aLoad false 1 v13 h1 fun v14 =>
 aBin false false .eql v14 (.p (.int .i64 0)) fun v15 =>
 (h1=h1∧Q11 v15)) fun v16 =>
 zl true v16 (fun Q17 =>
 za 1 v0 fun v18 =>
 za 2 v18 fun v19 =>
 aLoad false 1 v19 h1 fun v20 =>
 aUn .not v20 fun v21 =>
 (h1=h1∧Q17 v21)) fun v22 =>
 zl true v22 (fun Q23 =>
 za 1 v0 fun v24 =>
 za 3 v24 fun v25 =>
 aLoad false 1 v25 h1 fun v26 =>
 aBin false false .eql v26 (.p (.str [])) fun v27 =>
 (h1=h1∧Q23 v27)) fun v28 =>
 zl true v28 (fun Q29 =>
 za 1 v0 fun v30 =>
 za 4 v30 fun v31 =>
 aLoad false 1 v31 h1 fun v32 =>
 aLenS false v32 fun v33 =>
 aBin false false .eql v33 (.p (.int .i64 0)) fun v34 =>
 (h1=h1∧Q29 v34)) fun v35 =>
 zl true v35 (fun Q36 =>
 za 6 v0 fun v37 =>
 aLoad false 1 v37 h1 fun v38 =>
 aBin false false .eql v38 (.p (.int .i64 0)) fun v39 =>
 (h1=h1∧Q36 v39)) fun v40 =>
 zl true v40 (fun Q41 =>
 za 7 v0 fun v42 =>
 aLoad false 1 v42 h1 fun v43 =>
 aLenS false v43 fun v44 =>
 aBin false false .eql v44 (.p (.int .i64 0)) fun v45 =>
 (h1=h1∧Q41 v45)) fun v46 =>
 K v46 h1
def zi7:Nat→List Nat:=fun _=>[]
theorem zqq (x0:AV) (H:List Ob) (r:AV) (Ho:List Ob):aBody Tryz.prog zi7 Tryz.f184 H [x0] r Ho=zik x0 H (fun v H'=>Gives H.length v H' r Ho):=by kernel_rfl
theorem zqP {x0:AV} {r:AV} {Ho:List Ob} (h:zik x0 [] (fun v H'=>Gives 0 v H' r Ho)):Abs.Fn Tryz.prog zgA [] [x0] r Ho :=
 zh mixed zi7 (fn:=Tryz.f184) (by kernel_rfl) (by kernel_rfl) (by rw [zqq]; exact h)
end Go.Proofs.YtdmgbhamigegfaaGreatDoor
end
