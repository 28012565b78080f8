/- Made by program (Gen.lean): functions of the dump, over trees. -/
import Derived.Test.YtdmgbhamigegfaaGreatDoorS1

section
/- Made by program (Gen.lean): functions of the dump, over trees. -/
set_option maxRecDepth 4000
set_option linter.unusedVariables false
namespace Go.Proofs.YtdmgbhamigegfaaGreatDoor
open Go Go.Abs
variable (j0 j1 j2 j3 j4 j5 j6 j7 j8 j9 j10 j11 j12 j13 j14 j15 j16 j17 j18 j19 j20 j21 j22 j23 j24 j25 j26 j27 j28 j29 j30 j31 j32 j33 j34 j35 j36 j37 j38 j39 j40 j41 j42 j43 j44 j45 j46 j47 j48 j49 j50 j51 j52 j53 j54 j55 j56 j57 j58 j59 j60 j61 j62 j63 j64 j65 j66 j67 j68 j69 j70 j71 j72 j73 j74 j75 j76 j77 j78 j79 j80 j81 j82 j83 j84 j85 j86 j87 j88 j89 j90 j91 j92 j93 j94:AV)
def zjC (x0:AV) (H:List Ob) (K:AV→List Ob→Prop):Prop :=
 aCall Tryz.prog (.p (.func ziy [])) [x0] H fun v0 h1 =>
 aUn .not v0 fun v2 =>
 ze v2
 (K (.p (.bool false)) h1)
 (aCall Tryz.prog (.p (.func zjD [])) [x0] h1 fun v3 h4 =>
 aCall Tryz.prog (.p (.func zfX [])) [v3] h4 fun v5 h6 =>
 zB v5 0 fun _ =>
 zB v5 1 fun v8 =>
 aBin false false .eql v8 (.p (.int .i64 0)) fun v9 =>
 K v9 h6)
def zjS:Nat→List Nat:=fun _=>[]
theorem zsh (x0:AV) (H:List Ob) (r:AV) (Ho:List Ob):aBody Tryz.prog zjS Tryz.f17 H [x0] r Ho=zjC x0 H (fun v H'=>Gives H.length v H' r Ho):=by kernel_rfl
theorem zsi {x0:AV} {r:AV} {Ho:List Ob} (h:zjC x0 [] (fun v H'=>Gives 0 v H' r Ho)):Abs.Fn Tryz.prog zhD [] [x0] r Ho :=
 zh mixed zjS (fn:=Tryz.f17) (by kernel_rfl) (by kernel_rfl) (by rw [zsh]; exact h)
def zlB (q1s0 y0:AV) (H:List Ob) (B1:List AV→List Ob→Prop) (K:AV→List Ob→Prop):Prop :=
 aLen false false q1s0 fun v2 =>
 aBin false false .lss y0 v2 fun v3 =>
 ze v3
 (zb 21 q1s0 y0 fun v4 =>
 za 0 v4 fun v5 =>
 aLoad false 1 v5 H fun v6 =>
 aLen false true v6 fun v7 =>
 aBin false false .gtr v7 (.p (.int .i64 50)) fun v8 =>
 zm false v8 (fun Q9 =>
 zb 21 q1s0 y0 fun v10 =>
 za 19 v10 fun v11 =>
 aLoad false 1 v11 H fun v12 =>
 aLenS true v12 fun v13 =>
 aBin false false .gtr v13 (.p (.int .i64 50)) fun v14 =>
 (H=H∧Q9 v14)) fun v15 =>
 zm false v15 (fun Q16 =>
 zb 21 q1s0 y0 fun v17 =>
 za 16 v17 fun v18 =>
 aLoad false 1 v18 H fun v19 =>
 aLenS false v19 fun v20 =>
 aBin false false .gtr v20 (.p (.int .i64 8)) fun v21 =>
 (H=H∧Q16 v21)) fun v22 =>
 zm false v22 (fun Q23 =>
 zb 21 q1s0 y0 fun v24 =>
 za 1 v24 fun v25 =>
 aLoad true 15 v25 H fun v26 =>
 aCall Tryz.prog (.p (.func zix [])) [v26] H fun v27 h28 =>
 aUn .not v27 fun v29 =>
 (h28=H∧Q23 v29)) fun v30 =>
 ze v30
 (K (.p (.bool false)) H)
 (aBin false false .add y0 (.p (.int .i64 1)) fun v31 =>
 B1 [v31] H))
 (K (.p (.bool true)) H)
def zk2 (x0:AV) (H:List Ob) (K:AV→List Ob→Prop):Prop :=
 aLen false false x0 fun v0 =>
 aBin false false .gtr v0 (.p (.int .i64 20)) fun v1 =>
 ze v1
 (K (.p (.bool false)) H)
 (zD 1 [(.p (.int .i64 0))] H fun xs H B1=>zlB x0 (xs.getD 0 Z) H B1 K)
def zk3:Nat→List Nat:=fun k=>match k with | 4=>[3] | _=>[]
theorem zts (x0:AV) (H:List Ob) (r:AV) (Ho:List Ob):aBody Tryz.prog zk3 Tryz.f22 H [x0] r Ho=zk2 x0 H (fun v H'=>Gives H.length v H' r Ho):=by kernel_rfl
theorem ztt {x0:AV} {r:AV} {Ho:List Ob} (h:zk2 x0 [] (fun v H'=>Gives 0 v H' r Ho)):Abs.Fn Tryz.prog ziy [] [x0] r Ho :=
 zh mixed zk3 (fn:=Tryz.f22) (by kernel_rfl) (by kernel_rfl) (by rw [zts]; exact h)
def zmL (q1s0 y0 y1:AV) (H:List Ob) (B1:List AV→List Ob→Prop) (K:AV→List Ob→Prop):Prop :=
 aLen false false q1s0 fun v0 =>
 aBin false false .lss y1 v0 fun v1 =>
 ze v1
 (zb 21 q1s0 y1 fun v2 =>
 aLoad true 21 v2 H fun v3 =>
 zy [(.p (.str [])),(.p (.int .i64 0)),(.p (.str [])),(.p (.int .i64 0)),(.full []),(.full []),(.p (.str [])),(.p (.int .i64 0)),(.p (.int .i64 0)),(.p (.bool false)),(.p (.str [])),(.full []),(.p (.int .i64 0)),(.full []),(.p (.int .i64 0)),(.p (.int .i64 0)),(.full []),(.p (.int .i64 0)),(.p (.int .i64 0)),(.p (.str [])),(.p (.bool false))] H fun v4 h5 =>
 zi 21 v4 v3 h5 fun _ h7 =>
 za 0 v4 fun v8 =>
 aLoad false 1 v8 h7 fun v9 =>
 za 1 v4 fun v10 =>
 aLoad true 15 v10 h7 fun v11 =>
 zJ Tryz.prog (.p (.func zjB [])) [v11] fun v12 =>
 za 16 v4 fun v13 =>
 aLoad false 1 v13 h7 fun v14 =>
 za 17 v4 fun v15 =>
 aLoad false 1 v15 h7 fun v16 =>
 za 18 v4 fun v17 =>
 aLoad false 1 v17 h7 fun v18 =>
 za 19 v4 fun v19 =>
 aLoad false 1 v19 h7 fun v20 =>
 za 20 v4 fun v21 =>
 aLoad false 1 v21 h7 fun v22 =>
 zp [(.p (.str [])),(.p (.int .i64 0)),(.p (.str [])),(.p (.int .i64 0)),(.full []),(.full []),(.p (.str [])),(.p (.int .i64 0)),(.p (.int .i64 0)),(.p (.bool false)),(.p (.str [])),(.full []),(.p (.int .i64 0)),(.full []),(.p (.int .i64 0)),(.p (.int .i64 0)),(.full []),(.p (.int .i64 0)),(.p (.int .i64 0)),(.p (.str [])),(.p (.bool false))] [(0,1,v9),(1,15,v12),(16,1,v14),(17,1,v16),(18,1,v18),(19,1,v20),(20,1,v22)] fun v23 =>
 zk 21 [v23] fun v24 =>
 aCalm [y0,v24] <|
 zH false 21 288 y0 v24 h7 fun v25 h26 =>
 aBin false false .add y1 (.p (.int .i64 1)) fun v27 =>
 B1 [v25,v27] h26)
 (K y0 H)
def zl6 (x0:AV) (H:List Ob) (K:AV→List Ob→Prop):Prop :=
 zD 2 [(.full []),(.p (.int .i64 0))] H fun xs H B1=>zmL x0 (xs.getD 0 Z) (xs.getD 1 Z) H B1 K
def zlC:Nat→List Nat:=fun k=>match k with | 3=>[3,4] | _=>[]
theorem zuq (x0:AV) (H:List Ob) (r:AV) (Ho:List Ob):aBody Tryz.prog zlC Tryz.f24 H [x0] r Ho=zl6 x0 H (fun v H'=>Gives H.length v H' r Ho):=by kernel_rfl
theorem zur {x0:AV} {r:AV} {Ho:List Ob} (h:zl6 x0 [] (fun v H'=>Gives 0 v H' r Ho)):Abs.Fn Tryz.prog zjD [] [x0] r Ho :=
 zh mixed zlC (fn:=Tryz.f24) (by kernel_rfl) (by kernel_rfl) (by rw [zuq]; exact h)
def ziz (H:List Ob) (K:AV→List Ob→Prop):Prop :=
 zp [(.p (.int .i64 0)),(.full [])] [(0,1,(.p (.int .i64 1)))] fun v0 =>
 zp [(.p (.int .i64 0)),(.p (.str [])),(.p (.int .i64 0)),(.full []),(.full []),(.p (.str [])),(.p (.int .i64 0)),(.p (.int .i64 0)),(.p (.bool false)),(.p (.str [])),(.full []),(.p (.int .i64 0)),(.full []),(.p (.int .i64 0)),(.p (.int .i64 0))] [(0,1,(.p (.int .i64 1))),(1,1,(.p (.str [115]))),(2,2,v0)] fun v1 =>
 zp [(.p (.str [])),(.p (.int .i64 0)),(.p (.str [])),(.p (.int .i64 0)),(.full []),(.full []),(.p (.str [])),(.p (.int .i64 0)),(.p (.int .i64 0)),(.p (.bool false)),(.p (.str [])),(.full []),(.p (.int .i64 0)),(.full []),(.p (.int .i64 0)),(.p (.int .i64 0)),(.full []),(.p (.int .i64 0)),(.p (.int .i64 0)),(.p (.str [])),(.p (.bool false))] [(1,15,v1),(17,1,(.p (.int .i64 2))),(18,1,(.p (.int .i64 4))),(19,1,(.p (.str [103])))] fun v2 =>
 aCall Tryz.prog (.p (.func zhB [])) [] H fun v3 h4 =>
 aCall Tryz.prog (.p (.func zcY [])) [(.p (.int .i64 1))] h4 fun v5 h6 =>
 aCall Tryz.prog (.p (.func ziw [])) [v5] h6 fun v7 h8 =>
 zk 8 [v3,v7] fun v9 =>
 aCall Tryz.prog (.p (.func zgz [])) [(.p (.str [97,100,100])),v9] h8 fun v10 h11 =>
 zk 8 [v10] fun v12 =>
 zp [(.p (.int .i64 0)),(.p (.str [])),(.p (.int .i64 0)),(.full []),(.full []),(.p (.str [])),(.p (.int .i64 0)),(.p (.int .i64 0)),(.p (.bool false)),(.p (.str [])),(.full []),(.p (.int .i64 0)),(.full []),(.p (.int .i64 0)),(.p (.int .i64 0))] [(0,1,(.p (.int .i64 2))),(4,1,v12)] fun v13 =>
 zk 1 [(.p (.int .i64 0))] fun v14 =>
 zp [(.p (.str [])),(.p (.int .i64 0)),(.p (.str [])),(.p (.int .i64 0)),(.full []),(.full []),(.p (.str [])),(.p (.int .i64 0)),(.p (.int .i64 0)),(.p (.bool false)),(.p (.str [])),(.full []),(.p (.int .i64 0)),(.full []),(.p (.int .i64 0)),(.p (.int .i64 0)),(.full []),(.p (.int .i64 0)),(.p (.int .i64 0)),(.p (.str [])),(.p (.bool false))] [(1,15,v13),(16,1,v14),(17,1,(.p (.int .i64 2))),(18,1,(.p (.int .i64 4))),(19,1,(.p (.str [103])))] fun v15 =>
 zp [(.p (.int .i64 0)),(.p (.str [])),(.p (.int .i64 0)),(.full []),(.full []),(.p (.str [])),(.p (.int .i64 0)),(.p (.int .i64 0)),(.p (.bool false)),(.p (.str [])),(.full []),(.p (.int .i64 0)),(.full []),(.p (.int .i64 0)),(.p (.int .i64 0))] [(0,1,(.p (.int .i64 9))),(1,1,(.p (.str [97])))] fun v16 =>
 zk 1 [(.p (.int .i64 1))] fun v17 =>
 zp [(.p (.str [])),(.p (.int .i64 0)),(.p (.str [])),(.p (.int .i64 0)),(.full []),(.full []),(.p (.str [])),(.p (.int .i64 0)),(.p (.int .i64 0)),(.p (.bool false)),(.p (.str [])),(.full []),(.p (.int .i64 0)),(.full []),(.p (.int .i64 0)),(.p (.int .i64 0)),(.full []),(.p (.int .i64 0)),(.p (.int .i64 0)),(.p (.str [])),(.p (.bool false))] [(1,15,v16),(16,1,v17),(17,1,(.p (.int .i64 2))),(18,1,(.p (.int .i64 4))),(19,1,(.p (.str [103])))] fun v18 =>
 zk 21 [v2,v15,v18] fun v19 =>
 K v19 h11
def zi8:Nat→List Nat:=fun _=>[]
theorem zqQ (H:List Ob) (r:AV) (Ho:List Ob):aBody Tryz.prog zi8 Tryz.f36 H [] r Ho=ziz H (fun v H'=>Gives H.length v H' r Ho):=by kernel_rfl
theorem zqR {r:AV} {Ho:List Ob} (h:ziz [] (fun v H'=>Gives 0 v H' r Ho)):Abs.Fn Tryz.prog zgK [] [] r Ho :=
 zh mixed zi8 (fn:=Tryz.f36) (by kernel_rfl) (by kernel_rfl) (by rw [zqQ]; exact h)
def zpA (q2s0 q2s44 q2s45 y0:AV) (H:List Ob) (B2:List AV→List Ob→Prop) (K:AV→List Ob→Prop):Prop :=
 aBin false false .lss y0 q2s45 fun v28 =>
 ze v28
 (zb 21 q2s44 y0 fun v29 =>
 aLoad true 21 v29 H fun v30 =>
 zy [(.p (.str [])),(.p (.int .i64 0)),(.p (.str [])),(.p (.int .i64 0)),(.full []),(.full []),(.p (.str [])),(.p (.int .i64 0)),(.p (.int .i64 0)),(.p (.bool false)),(.p (.str [])),(.full []),(.p (.int .i64 0)),(.full []),(.p (.int .i64 0)),(.p (.int .i64 0)),(.full []),(.p (.int .i64 0)),(.p (.int .i64 0)),(.p (.str [])),(.p (.bool false))] H fun v31 h32 =>
 zi 21 v31 v30 h32 fun _ h34 =>
 za 1 v31 fun v35 =>
 za 0 v35 fun v36 =>
 aLoad false 1 v36 h34 fun v37 =>
 aBin false false .neq v37 (.p (.int .i64 9)) fun v38 =>
 zm true v38 (fun Q39 =>
 aCall Tryz.prog (.p (.func zns [])) [q2s0,y0] h34 fun v40 h41 =>
 aLenS false v40 fun v42 =>
 aBin false false .eql v42 (.p (.int .i64 0)) fun v43 =>
 (h41=h34∧Q39 v43)) fun v44 =>
 ze v44
 (K (.tup [y0,(.p (.int .i64 1))]) h34)
 (aBin false false .add y0 (.p (.int .i64 1)) fun v45 =>
 B2 [v45] h34))
 (K (.tup [(.p (.int .i64 0)),(.p (.int .i64 0))]) H)
def zpz (q1s0 q1s19 q1s20 y0 y1:AV) (H:List Ob) (B1:List AV→List Ob→Prop) (K:AV→List Ob→Prop):Prop :=
 aBin false false .lss y1 q1s20 fun v5 =>
 ze v5
 (zb 21 q1s19 y1 fun v6 =>
 aLoad true 21 v6 H fun v7 =>
 zy [(.p (.str [])),(.p (.int .i64 0)),(.p (.str [])),(.p (.int .i64 0)),(.full []),(.full []),(.p (.str [])),(.p (.int .i64 0)),(.p (.int .i64 0)),(.p (.bool false)),(.p (.str [])),(.full []),(.p (.int .i64 0)),(.full []),(.p (.int .i64 0)),(.p (.int .i64 0)),(.full []),(.p (.int .i64 0)),(.p (.int .i64 0)),(.p (.str [])),(.p (.bool false))] H fun v8 h9 =>
 zi 21 v8 v7 h9 fun _ h11 =>
 zy [(.p (.int .i64 0)),(.full [])] h11 fun v12 h13 =>
 aLoad true 21 v8 h13 fun v14 =>
 zbg false 21 q1s0 none (some y1) none fun v15 =>
 zJ Tryz.prog (.p (.func zgG [])) [v14,v15,y0] fun v16 =>
 zB v16 0 fun v17 =>
 zB v16 1 fun v18 =>
 zi 2 v12 v17 h13 fun _ h20 =>
 aBin false false .neq v18 (.p (.int .i64 0)) fun v21 =>
 ze v21
 (K (.tup [y1,v18]) h20)
 (aLoad true 2 v12 h20 fun v22 =>
 zk 2 [v22] fun v23 =>
 zH false 2 32 y0 v23 h20 fun v24 h25 =>
 aBin false false .add y1 (.p (.int .i64 1)) fun v26 =>
 B1 [v24,v26] h25))
 (aLen false false q1s0 fun v27 =>
 zD 1 [(.p (.int .i64 0))] H fun xs H B2=>zpA q1s0 q1s0 v27 (xs.getD 0 Z) H B2 K)
def zpy (x0:AV) (H:List Ob) (K:AV→List Ob→Prop):Prop :=
 aLen false false x0 fun v0 =>
 aBin false false .eql v0 (.p (.int .i64 0)) fun v1 =>
 ze v1
 (K (.tup [(.p (.int .i64 0)),(.p (.int .i64 3))]) H)
 (aLen false false x0 fun v2 =>
 aBin false false .gtr v2 (.p (.int .i64 16)) fun v3 =>
 ze v3
 (K (.tup [(.p (.int .i64 0)),(.p (.int .i64 10))]) H)
 (aLen false false x0 fun v4 =>
 zD 2 [(.full []),(.p (.int .i64 0))] H fun xs H B1=>zpz x0 x0 v4 (xs.getD 0 Z) (xs.getD 1 Z) H B1 K))
def zob:Nat→List Nat:=fun k=>match k with | 7=>[4,21] | 15=>[46] | _=>[]
theorem zw7 (x0:AV) (H:List Ob) (r:AV) (Ho:List Ob):aBody Tryz.prog zob Tryz.f48 H [x0] r Ho=zpy x0 H (fun v H'=>Gives H.length v H' r Ho):=by kernel_rfl
theorem zw8 {x0:AV} {r:AV} {Ho:List Ob} (h:zpy x0 [] (fun v H'=>Gives 0 v H' r Ho)):Abs.Fn Tryz.prog zlW [] [x0] r Ho :=
 zh mixed zob (fn:=Tryz.f48) (by kernel_rfl) (by kernel_rfl) (by rw [zw7]; exact h)
def zpB (x0 x1:AV) (H:List Ob) (K:AV→List Ob→Prop):Prop :=
 aBox x1 H fun v0 h1 =>
 zaA zjy [v0] h1 fun v2 h3 =>
 aCall Tryz.prog (.p (.func zbS [])) [x0,v2] h3 fun v4 h5 =>
 K v4 h5
def zoc:Nat→List Nat:=fun _=>[]
theorem zw9 (x0 x1:AV) (H:List Ob) (r:AV) (Ho:List Ob):aBody Tryz.prog zoc Tryz.f49 H [x0,x1] r Ho=zpB x0 x1 H (fun v H'=>Gives H.length v H' r Ho):=by kernel_rfl
theorem zxa {x0 x1:AV} {r:AV} {Ho:List Ob} (h:zpB x0 x1 [] (fun v H'=>Gives 0 v H' r Ho)):Abs.Fn Tryz.prog ziT [] [x0,x1] r Ho :=
 zh mixed zoc (fn:=Tryz.f49) (by kernel_rfl) (by kernel_rfl) (by rw [zw9]; exact h)
def zf:Nat→List Nat:=fun k=>match k with | 1000999999=>[1] | 2000001=>[1,2,3,6,9999] | 2000002=>[1,2,3,6,8,9999] | 2000003=>[1,2,3,6,8,9,9999] | 2000004=>[1,2,3,6,8,9,14,9999] | 2000005=>[1,2,3,6,8,9,14,9999] | 2000007=>[1,2,3,6,9,29,9999] | 2000009=>[1,2,3,6,9,39,9999] | 2000010=>[1,2,3,6,9,39,9999] | 2000011=>[1,2,3,6,9,39,9999] | 2000012=>[1,2,3,6,9,39,9999] | 2000013=>[1,2,3,6,9,39,9999] | 2000014=>[1,2,3,6,9,9999] | 2000015=>[1,3,6,9,10,11,9999] | 2000017=>[1,3,6,9,10,11,9999] | 2000019=>[6,10,11,9999] | 3000015=>[1000] | _=>[]
def zw:Nat→Bool:=fun k=>match k with | 1=>true | 2=>true | 3=>true | 4=>true | 5=>true | 7=>true | 9=>true | 10=>true | 11=>true | 12=>true | 13=>true | 14=>true | 15=>true | 17=>true | 19=>true | _=>false
noncomputable def zL:Code:=Tryz.f86.body.getD .skip
noncomputable def zfO:Code:=(cr zL)
noncomputable def zfP:Code:=(cr (cr zL))
noncomputable def zfQ:Code:=(cr (cr (cr zL)))
noncomputable def zfR:Code:=(cr (cl (cl (cl (cr (cr (cr zL)))))))
noncomputable def zfS:Code:=(cr (cl (cl (cr (cr (cr zL))))))
noncomputable def zfT:Code:=(cr (cr (cr (cl (cl (cr (cr (cr zL))))))))
noncomputable def zfU:Code:=(cr (cl (cr (cr (cr (cr (cl (cl (cr (cr (cr zL)))))))))))
noncomputable def zeX:Code:=(cr (cr (cr (cl (cr (cr (cr (cr (cl (cl (cr (cr (cr zL)))))))))))))
noncomputable def zeY:Code:=(cr (cr (cr (cr (cr (cl (cr (cr (cr (cr (cl (cl (cr (cr (cr zL)))))))))))))))
noncomputable def zeZ:Code:=(cr (cr (cr (cr (cr (cr (cr (cl (cr (cr (cr (cr (cl (cl (cr (cr (cr zL)))))))))))))))))
noncomputable def ze0:Code:=(cr (cr (cr (cr (cr (cl (cl (cr (cr (cr zL))))))))))
noncomputable def ze1:Code:=(cr (cr (cr (cr zL))))
noncomputable def ze2:Code:=(cr (cr (cr (cr (cr zL)))))
noncomputable def zG:Code:=(cr (cr (cr (cr (cr (cr zL))))))
noncomputable def zc4:Code:=(cr (cr (cr (cr (cr (cr (cr zL)))))))
def zcg (j0 j1 j2:AV) (H:List Ob) (self:Code→List AV→List Ob→Ko→Prop) (kp:Ko):Prop :=
 aBox j0 H fun v0 h1 =>
 zy [(.p (.int .i64 0)),(.full [])] h1 fun v2 h3 =>
 self zfO (keepS [1,2,3,6,9999] 0 [j0,j1,j2,v0,Z,Z,v2,(.p (.int .i64 0)),Z,Z,Z,Z,Z,Z,Z,Z,Z,Z,Z,Z,Z,Z,Z,Z,Z,Z,Z,Z,Z,Z,Z,Z,Z,Z,Z,Z,Z,Z,Z,Z,Z,Z,Z,Z,Z,Z,Z,Z,Z,Z,Z,Z,Z,Z,Z,Z,Z,Z,Z,Z,Z,Z,Z,Z,Z,Z,Z,Z,Z,Z,Z,Z,Z,Z,Z,Z,Z,Z,Z,Z,Z,Z,Z,Z,Z,Z,Z,Z,Z,Z,Z,Z,Z,Z,Z]) h3 kp
theorem zon (j0 j1 j2:AV) (H:List Ob) (self:Code→List AV→List Ob→Ko→Prop) (kp:Ko):awpX Tryz.prog zf self zw zL ([j0,j1,j2]++List.replicate 92 Z) H kp=zcg j0 j1 j2 H self kp:=by kernel_rfl
theorem zov (j0 j1 j2:AV) (H:List Ob) (kp:Ko):awp Tryz.prog zf zL [j0,j1,j2,Z,Z,Z,Z,Z,Z,Z,Z,Z,Z,Z,Z,Z,Z,Z,Z,Z,Z,Z,Z,Z,Z,Z,Z,Z,Z,Z,Z,Z,Z,Z,Z,Z,Z,Z,Z,Z,Z,Z,Z,Z,Z,Z,Z,Z,Z,Z,Z,Z,Z,Z,Z,Z,Z,Z,Z,Z,Z,Z,Z,Z,Z,Z,Z,Z,Z,Z,Z,Z,Z,Z,Z,Z,Z,Z,Z,Z,Z,Z,Z,Z,Z,Z,Z,Z,Z,Z,Z,Z,Z,Z,Z] H kp=zcg j0 j1 j2 H (awp Tryz.prog zf) kp :=
 Eq.trans (by kernel_rfl) ((zcO Tryz.prog zf zw _ _ _ _).symm.trans (zon j0 j1 j2 H _ kp))
theorem zqK (j0 j1 j2:AV) (H:List Ob) (r:AV) (Ho:List Ob):aBody Tryz.prog zf Tryz.f86 H [j0,j1,j2] r Ho=zcg j0 j1 j2 H (awp Tryz.prog zf) (kEnd Tryz.prog [.cell 6 45,.tmp 7] fun v H'=>Gives H.length v H' r Ho) :=
 (show aBody Tryz.prog zf Tryz.f86 H [j0,j1,j2] r Ho=awp Tryz.prog zf zL [j0,j1,j2,Z,Z,Z,Z,Z,Z,Z,Z,Z,Z,Z,Z,Z,Z,Z,Z,Z,Z,Z,Z,Z,Z,Z,Z,Z,Z,Z,Z,Z,Z,Z,Z,Z,Z,Z,Z,Z,Z,Z,Z,Z,Z,Z,Z,Z,Z,Z,Z,Z,Z,Z,Z,Z,Z,Z,Z,Z,Z,Z,Z,Z,Z,Z,Z,Z,Z,Z,Z,Z,Z,Z,Z,Z,Z,Z,Z,Z,Z,Z,Z,Z,Z,Z,Z,Z,Z,Z,Z,Z,Z,Z,Z] H (kEnd Tryz.prog [.cell 6 45,.tmp 7] fun v H'=>Gives H.length v H' r Ho) from by kernel_rfl).trans (zov j0 j1 j2 H _)
theorem zqL {j0 j1 j2:AV} {r:AV} {Ho:List Ob} (h:zcg j0 j1 j2 [] (awp Tryz.prog zf) (kEnd Tryz.prog [.cell 6 45,.tmp 7] fun v H'=>Gives 0 v H' r Ho)):Abs.Fn Tryz.prog zgG [] [j0,j1,j2] r Ho :=
 zh mixed zf (fn:=Tryz.f86) (by kernel_rfl) (by kernel_rfl) (by rw [zqK]; exact h)
def zfI (j1 j2 j3 j6:AV) (H:List Ob) (self:Code→List AV→List Ob→Ko→Prop) (kp:Ko):Prop :=
 zaA zeR [j3] H fun v4 h5 =>
 self zfP (keepS [1,2,3,6,8,9999] 0 [Z,j1,j2,j3,Z,Z,j6,Z,v4,Z,Z,Z,v4,Z,Z,Z,Z,Z,Z,Z,Z,Z,Z,Z,Z,Z,Z,Z,Z,Z,Z,Z,Z,Z,Z,Z,Z,Z,Z,Z,Z,Z,Z,Z,Z,Z,Z,Z,Z,Z,Z,Z,Z,Z,Z,Z,Z,Z,Z,Z,Z,Z,Z,Z,Z,Z,Z,Z,Z,Z,Z,Z,Z,Z,Z,Z,Z,Z,Z,Z,Z,Z,Z,Z,Z,Z,Z,Z,Z,Z,Z,Z,Z,Z,Z]) h5 kp
theorem zoo (j1 j2 j3 j6:AV) (H:List Ob) (self:Code→List AV→List Ob→Ko→Prop) (kp:Ko):awpX Tryz.prog zf self zw zfO ([Z,j1,j2,j3,Z,Z,j6]++List.replicate 88 Z) H kp=zfI j1 j2 j3 j6 H self kp:=by kernel_rfl
theorem znl (H:List Ob) (kp:Ko):awp Tryz.prog zf zfO (keepS [1,2,3,6,9999] 0 [j0,j1,j2,j3,j4,j5,j6,j7,j8,j9,j10,j11,j12,j13,j14,j15,j16,j17,j18,j19,j20,j21,j22,j23,j24,j25,j26,j27,j28,j29,j30,j31,j32,j33,j34,j35,j36,j37,j38,j39,j40,j41,j42,j43,j44,j45,j46,j47,j48,j49,j50,j51,j52,j53,j54,j55,j56,j57,j58,j59,j60,j61,j62,j63,j64,j65,j66,j67,j68,j69,j70,j71,j72,j73,j74,j75,j76,j77,j78,j79,j80,j81,j82,j83,j84,j85,j86,j87,j88,j89,j90,j91,j92,j93,j94]) H kp=zfI j1 j2 j3 j6 H (awp Tryz.prog zf) kp :=
 Eq.trans (by kernel_rfl) ((zcO Tryz.prog zf zw _ _ _ _).symm.trans (zoo j1 j2 j3 j6 H _ kp))
def zfJ (j1 j2 j3 j6 j8:AV) (H:List Ob) (self:Code→List AV→List Ob→Ko→Prop) (kp:Ko):Prop :=
 zaA zeS [j3] H fun v6 h7 =>
 self zfQ (keepS [1,2,3,6,8,9,9999] 0 [Z,j1,j2,j3,Z,Z,j6,Z,j8,v6,Z,Z,Z,v6,Z,Z,Z,Z,Z,Z,Z,Z,Z,Z,Z,Z,Z,Z,Z,Z,Z,Z,Z,Z,Z,Z,Z,Z,Z,Z,Z,Z,Z,Z,Z,Z,Z,Z,Z,Z,Z,Z,Z,Z,Z,Z,Z,Z,Z,Z,Z,Z,Z,Z,Z,Z,Z,Z,Z,Z,Z,Z,Z,Z,Z,Z,Z,Z,Z,Z,Z,Z,Z,Z,Z,Z,Z,Z,Z,Z,Z,Z,Z,Z,Z]) h7 kp
theorem zop (j1 j2 j3 j6 j8:AV) (H:List Ob) (self:Code→List AV→List Ob→Ko→Prop) (kp:Ko):awpX Tryz.prog zf self zw zfP ([Z,j1,j2,j3,Z,Z,j6,Z,j8]++List.replicate 86 Z) H kp=zfJ j1 j2 j3 j6 j8 H self kp:=by kernel_rfl
theorem znm (H:List Ob) (kp:Ko):awp Tryz.prog zf zfP (keepS [1,2,3,6,8,9999] 0 [j0,j1,j2,j3,j4,j5,j6,j7,j8,j9,j10,j11,j12,j13,j14,j15,j16,j17,j18,j19,j20,j21,j22,j23,j24,j25,j26,j27,j28,j29,j30,j31,j32,j33,j34,j35,j36,j37,j38,j39,j40,j41,j42,j43,j44,j45,j46,j47,j48,j49,j50,j51,j52,j53,j54,j55,j56,j57,j58,j59,j60,j61,j62,j63,j64,j65,j66,j67,j68,j69,j70,j71,j72,j73,j74,j75,j76,j77,j78,j79,j80,j81,j82,j83,j84,j85,j86,j87,j88,j89,j90,j91,j92,j93,j94]) H kp=zfJ j1 j2 j3 j6 j8 H (awp Tryz.prog zf) kp :=
 Eq.trans (by kernel_rfl) ((zcO Tryz.prog zf zw _ _ _ _).symm.trans (zop j1 j2 j3 j6 j8 H _ kp))
def zfK (j1 j2 j3 j6 j8 j9:AV) (H:List Ob) (self:Code→List AV→List Ob→Ko→Prop) (kp:Ko):Prop :=
 za 0 j3 fun v8 =>
 aLoad false 1 v8 H fun v9 =>
 aBin false false .neq v9 (.p (.str [])) fun v10 =>
 zm true v10 (fun Q11 =>
 za 0 j3 fun v12 =>
 aLoad false 1 v12 H fun v13 =>
 aCall Tryz.prog (.p (.func zmC [])) [v13] H fun v14 h15 =>
 aUn .not v14 fun v16 =>
 (h15=H∧Q11 v16)) fun v17 =>
 self zfR (keepS [1,2,3,6,8,9,14,9999] 0 [Z,j1,j2,j3,Z,Z,j6,Z,j8,j9,Z,Z,Z,Z,v17,v8,v9,v10,v10,Z,Z,Z,Z,v17,Z,Z,Z,Z,Z,Z,Z,Z,Z,Z,Z,Z,Z,Z,Z,Z,Z,Z,Z,Z,Z,Z,Z,Z,Z,Z,Z,Z,Z,Z,Z,Z,Z,Z,Z,Z,Z,Z,Z,Z,Z,Z,Z,Z,Z,Z,Z,Z,Z,Z,Z,Z,Z,Z,Z,Z,Z,Z,Z,Z,Z,Z,Z,Z,Z,Z,Z,Z,Z,Z,Z]) H (kSeq self zfS [1,2,3,6,8,9,14,9999] (zxg 0 (kSeq self ze1 [1,2,3,6,9,9999] kp)))
theorem zoq (j1 j2 j3 j6 j8 j9:AV) (H:List Ob) (self:Code→List AV→List Ob→Ko→Prop) (kp:Ko):awpX Tryz.prog zf self zw zfQ ([Z,j1,j2,j3,Z,Z,j6,Z,j8,j9]++List.replicate 85 Z) H kp=zfK j1 j2 j3 j6 j8 j9 H self kp:=by kernel_rfl
theorem znn (H:List Ob) (kp:Ko):awp Tryz.prog zf zfQ (keepS [1,2,3,6,8,9,9999] 0 [j0,j1,j2,j3,j4,j5,j6,j7,j8,j9,j10,j11,j12,j13,j14,j15,j16,j17,j18,j19,j20,j21,j22,j23,j24,j25,j26,j27,j28,j29,j30,j31,j32,j33,j34,j35,j36,j37,j38,j39,j40,j41,j42,j43,j44,j45,j46,j47,j48,j49,j50,j51,j52,j53,j54,j55,j56,j57,j58,j59,j60,j61,j62,j63,j64,j65,j66,j67,j68,j69,j70,j71,j72,j73,j74,j75,j76,j77,j78,j79,j80,j81,j82,j83,j84,j85,j86,j87,j88,j89,j90,j91,j92,j93,j94]) H kp=zfK j1 j2 j3 j6 j8 j9 H (awp Tryz.prog zf) kp :=
 Eq.trans (by kernel_rfl) ((zcO Tryz.prog zf zw _ _ _ _).symm.trans (zoq j1 j2 j3 j6 j8 j9 H _ kp))
def zfL (j1 j2 j3 j6 j8 j9 j14:AV) (H:List Ob) (_:Code→List AV→List Ob→Ko→Prop) (kp:Ko):Prop :=
 ze j14
 (kp .normal [Z,j1,j2,j3,Z,Z,j6,Z,j8,j9,Z,Z,Z,Z,(.p (.bool true)),Z,Z,Z,Z,Z,Z,Z,Z,Z,Z,Z,Z,Z,Z,Z,Z,Z,Z,Z,Z,Z,Z,Z,Z,Z,Z,Z,Z,Z,Z,Z,Z,Z,Z,Z,Z,Z,Z,Z,Z,Z,Z,Z,Z,Z,Z,Z,Z,Z,Z,Z,Z,Z,Z,Z,Z,Z,Z,Z,Z,Z,Z,Z,Z,Z,Z,Z,Z,Z,Z,Z,Z,Z,Z,Z,Z,Z,Z,Z,Z] H)
 (za 19 j3 fun v18 =>
 aLoad false 1 v18 H fun v19 =>
 aCall Tryz.prog (.p (.func zmC [])) [v19] H fun v20 h21 =>
 aUn .not v20 fun v22 =>
 kp .normal [Z,j1,j2,j3,Z,Z,j6,Z,j8,j9,Z,Z,Z,Z,v22,Z,Z,Z,Z,Z,Z,Z,Z,Z,v18,v19,v20,v22,Z,Z,Z,Z,Z,Z,Z,Z,Z,Z,Z,Z,Z,Z,Z,Z,Z,Z,Z,Z,Z,Z,Z,Z,Z,Z,Z,Z,Z,Z,Z,Z,Z,Z,Z,Z,Z,Z,Z,Z,Z,Z,Z,Z,Z,Z,Z,Z,Z,Z,Z,Z,Z,Z,Z,Z,Z,Z,Z,Z,Z,Z,Z,Z,Z,Z,Z] h21)
theorem zor (j1 j2 j3 j6 j8 j9 j14:AV) (H:List Ob) (self:Code→List AV→List Ob→Ko→Prop) (kp:Ko):awpX Tryz.prog zf self zw zfR ([Z,j1,j2,j3,Z,Z,j6,Z,j8,j9,Z,Z,Z,Z,j14]++List.replicate 80 Z) H kp=zfL j1 j2 j3 j6 j8 j9 j14 H self kp:=by kernel_rfl
theorem zno (H:List Ob) (kp:Ko):awp Tryz.prog zf zfR (keepS [1,2,3,6,8,9,14,9999] 0 [j0,j1,j2,j3,j4,j5,j6,j7,j8,j9,j10,j11,j12,j13,j14,j15,j16,j17,j18,j19,j20,j21,j22,j23,j24,j25,j26,j27,j28,j29,j30,j31,j32,j33,j34,j35,j36,j37,j38,j39,j40,j41,j42,j43,j44,j45,j46,j47,j48,j49,j50,j51,j52,j53,j54,j55,j56,j57,j58,j59,j60,j61,j62,j63,j64,j65,j66,j67,j68,j69,j70,j71,j72,j73,j74,j75,j76,j77,j78,j79,j80,j81,j82,j83,j84,j85,j86,j87,j88,j89,j90,j91,j92,j93,j94]) H kp=zfL j1 j2 j3 j6 j8 j9 j14 H (awp Tryz.prog zf) kp :=
 Eq.trans (by kernel_rfl) ((zcO Tryz.prog zf zw _ _ _ _).symm.trans (zor j1 j2 j3 j6 j8 j9 j14 H _ kp))
def zdm (j1 j2 j3 j6 j8 j9 j14:AV) (H:List Ob) (self:Code→List AV→List Ob→Ko→Prop) (kp:Ko):Prop :=
 ze j14
 (zp [(.p (.int .i64 0)),(.full [])] [] fun v23 =>
 zi 2 j6 v23 H fun _ h25 =>
 kp .ret [Z,j1,j2,j3,Z,Z,j6,(.p (.int .i64 6)),j8,j9,Z,Z,Z,Z,(.p (.bool true)),Z,Z,Z,Z,Z,Z,Z,Z,Z,Z,Z,Z,Z,v23,Z,Z,Z,Z,Z,Z,Z,Z,Z,Z,Z,Z,Z,Z,Z,Z,Z,Z,Z,Z,Z,Z,Z,Z,Z,Z,Z,Z,Z,Z,Z,Z,Z,Z,Z,Z,Z,Z,Z,Z,Z,Z,Z,Z,Z,Z,Z,Z,Z,Z,Z,Z,Z,Z,Z,Z,Z,Z,Z,Z,Z,Z,Z,Z,Z,Z] h25)
 (za 0 j3 fun v26 =>
 aLoad false 1 v26 H fun v27 =>
 aBin false false .neq v27 (.p (.str [])) fun v28 =>
 zm true v28 (fun Q29 =>
 aCall Tryz.prog (.p (.func zX [])) [j1,j8] H fun v30 h31 =>
 (h31=H∧Q29 v30)) fun v32 =>
 self zfT (keepS [1,2,3,6,9,29,9999] 0 [Z,j1,j2,j3,Z,Z,j6,Z,j8,j9,Z,Z,Z,Z,(.p (.bool false)),Z,Z,Z,Z,Z,Z,Z,Z,Z,Z,Z,Z,Z,Z,v32,v26,v27,v28,v28,Z,Z,Z,v32,Z,Z,Z,Z,Z,Z,Z,Z,Z,Z,Z,Z,Z,Z,Z,Z,Z,Z,Z,Z,Z,Z,Z,Z,Z,Z,Z,Z,Z,Z,Z,Z,Z,Z,Z,Z,Z,Z,Z,Z,Z,Z,Z,Z,Z,Z,Z,Z,Z,Z,Z,Z,Z,Z,Z,Z,Z]) H kp)
theorem zos (j1 j2 j3 j6 j8 j9 j14:AV) (H:List Ob) (self:Code→List AV→List Ob→Ko→Prop) (kp:Ko):awpX Tryz.prog zf self zw zfS ([Z,j1,j2,j3,Z,Z,j6,Z,j8,j9,Z,Z,Z,Z,j14]++List.replicate 80 Z) H kp=zdm j1 j2 j3 j6 j8 j9 j14 H self kp:=by kernel_rfl
theorem zhv (H:List Ob) (kp:Ko):awp Tryz.prog zf zfS (keepS [1,2,3,6,8,9,14,9999] 0 [j0,j1,j2,j3,j4,j5,j6,j7,j8,j9,j10,j11,j12,j13,j14,j15,j16,j17,j18,j19,j20,j21,j22,j23,j24,j25,j26,j27,j28,j29,j30,j31,j32,j33,j34,j35,j36,j37,j38,j39,j40,j41,j42,j43,j44,j45,j46,j47,j48,j49,j50,j51,j52,j53,j54,j55,j56,j57,j58,j59,j60,j61,j62,j63,j64,j65,j66,j67,j68,j69,j70,j71,j72,j73,j74,j75,j76,j77,j78,j79,j80,j81,j82,j83,j84,j85,j86,j87,j88,j89,j90,j91,j92,j93,j94]) H kp=zdm j1 j2 j3 j6 j8 j9 j14 H (awp Tryz.prog zf) kp :=
 Eq.trans (by kernel_rfl) ((zcO Tryz.prog zf zw _ _ _ _).symm.trans (zos j1 j2 j3 j6 j8 j9 j14 H _ kp))
def zfM (j1 j2 j3 j6 j9 j29:AV) (H:List Ob) (self:Code→List AV→List Ob→Ko→Prop) (kp:Ko):Prop :=
 ze j29
 (zp [(.p (.int .i64 0)),(.full [])] [] fun v33 =>
 zi 2 j6 v33 H fun _ h35 =>
 kp .ret [Z,j1,j2,j3,Z,Z,j6,(.p (.int .i64 7)),Z,j9,Z,Z,Z,Z,Z,Z,Z,Z,Z,Z,Z,Z,Z,Z,Z,Z,Z,Z,Z,(.p (.bool true)),Z,Z,Z,Z,Z,Z,Z,Z,v33,Z,Z,Z,Z,Z,Z,Z,Z,Z,Z,Z,Z,Z,Z,Z,Z,Z,Z,Z,Z,Z,Z,Z,Z,Z,Z,Z,Z,Z,Z,Z,Z,Z,Z,Z,Z,Z,Z,Z,Z,Z,Z,Z,Z,Z,Z,Z,Z,Z,Z,Z,Z,Z,Z,Z,Z] h35)
 (za 17 j3 fun v36 =>
 aLoad false 1 v36 H fun v37 =>
 aBin false false .lss v37 (.p (.int .i64 1)) fun v38 =>
 self zfU (keepS [1,2,3,6,9,39,9999] 0 [Z,j1,j2,j3,Z,Z,j6,Z,Z,j9,Z,Z,Z,Z,Z,Z,Z,Z,Z,Z,Z,Z,Z,Z,Z,Z,Z,Z,Z,(.p (.bool false)),Z,Z,Z,Z,Z,Z,Z,Z,Z,v38,v36,v37,v38,Z,Z,Z,Z,Z,Z,Z,Z,Z,Z,Z,Z,Z,Z,Z,Z,Z,Z,Z,Z,Z,Z,Z,Z,Z,Z,Z,Z,Z,Z,Z,Z,Z,Z,Z,Z,Z,Z,Z,Z,Z,Z,Z,Z,Z,Z,Z,Z,Z,Z,Z,Z]) H (kSeq self ze0 [1,2,3,6,9,39,9999] kp))
theorem zot (j1 j2 j3 j6 j9 j29:AV) (H:List Ob) (self:Code→List AV→List Ob→Ko→Prop) (kp:Ko):awpX Tryz.prog zf self zw zfT ([Z,j1,j2,j3,Z,Z,j6,Z,Z,j9]++List.replicate 19 Z++[j29]++List.replicate 65 Z) H kp=zfM j1 j2 j3 j6 j9 j29 H self kp:=by kernel_rfl
theorem znp (H:List Ob) (kp:Ko):awp Tryz.prog zf zfT (keepS [1,2,3,6,9,29,9999] 0 [j0,j1,j2,j3,j4,j5,j6,j7,j8,j9,j10,j11,j12,j13,j14,j15,j16,j17,j18,j19,j20,j21,j22,j23,j24,j25,j26,j27,j28,j29,j30,j31,j32,j33,j34,j35,j36,j37,j38,j39,j40,j41,j42,j43,j44,j45,j46,j47,j48,j49,j50,j51,j52,j53,j54,j55,j56,j57,j58,j59,j60,j61,j62,j63,j64,j65,j66,j67,j68,j69,j70,j71,j72,j73,j74,j75,j76,j77,j78,j79,j80,j81,j82,j83,j84,j85,j86,j87,j88,j89,j90,j91,j92,j93,j94]) H kp=zfM j1 j2 j3 j6 j9 j29 H (awp Tryz.prog zf) kp :=
 Eq.trans (by kernel_rfl) ((zcO Tryz.prog zf zw _ _ _ _).symm.trans (zot j1 j2 j3 j6 j9 j29 H _ kp))
def zfN (j1 j2 j3 j6 j9 j39:AV) (H:List Ob) (self:Code→List AV→List Ob→Ko→Prop) (kp:Ko):Prop :=
 ze j39
 (kp .normal [Z,j1,j2,j3,Z,Z,j6,Z,Z,j9,Z,Z,Z,Z,Z,Z,Z,Z,Z,Z,Z,Z,Z,Z,Z,Z,Z,Z,Z,Z,Z,Z,Z,Z,Z,Z,Z,Z,Z,(.p (.bool true)),Z,Z,Z,Z,Z,Z,Z,Z,Z,Z,Z,Z,Z,Z,Z,Z,Z,Z,Z,Z,Z,Z,Z,Z,Z,Z,Z,Z,Z,Z,Z,Z,Z,Z,Z,Z,Z,Z,Z,Z,Z,Z,Z,Z,Z,Z,Z,Z,Z,Z,Z,Z,Z,Z,Z] H)
 (za 17 j3 fun v39 =>
 aLoad false 1 v39 H fun v40 =>
 aBin false false .gtr v40 (.p (.int .i64 4)) fun v41 =>
 self zeX (keepS [1,2,3,6,9,39,9999] 0 [Z,j1,j2,j3,Z,Z,j6,Z,Z,j9,Z,Z,Z,Z,Z,Z,Z,Z,Z,Z,Z,Z,Z,Z,Z,Z,Z,Z,Z,Z,Z,Z,Z,Z,Z,Z,Z,Z,Z,v41,Z,Z,Z,v39,v40,v41,Z,Z,Z,Z,Z,Z,Z,Z,Z,Z,Z,Z,Z,Z,Z,Z,Z,Z,Z,Z,Z,Z,Z,Z,Z,Z,Z,Z,Z,Z,Z,Z,Z,Z,Z,Z,Z,Z,Z,Z,Z,Z,Z,Z,Z,Z,Z,Z,Z]) H kp)
theorem zou (j1 j2 j3 j6 j9 j39:AV) (H:List Ob) (self:Code→List AV→List Ob→Ko→Prop) (kp:Ko):awpX Tryz.prog zf self zw zfU ([Z,j1,j2,j3,Z,Z,j6,Z,Z,j9]++List.replicate 29 Z++[j39]++List.replicate 55 Z) H kp=zfN j1 j2 j3 j6 j9 j39 H self kp:=by kernel_rfl
theorem znq (H:List Ob) (kp:Ko):awp Tryz.prog zf zfU (keepS [1,2,3,6,9,39,9999] 0 [j0,j1,j2,j3,j4,j5,j6,j7,j8,j9,j10,j11,j12,j13,j14,j15,j16,j17,j18,j19,j20,j21,j22,j23,j24,j25,j26,j27,j28,j29,j30,j31,j32,j33,j34,j35,j36,j37,j38,j39,j40,j41,j42,j43,j44,j45,j46,j47,j48,j49,j50,j51,j52,j53,j54,j55,j56,j57,j58,j59,j60,j61,j62,j63,j64,j65,j66,j67,j68,j69,j70,j71,j72,j73,j74,j75,j76,j77,j78,j79,j80,j81,j82,j83,j84,j85,j86,j87,j88,j89,j90,j91,j92,j93,j94]) H kp=zfN j1 j2 j3 j6 j9 j39 H (awp Tryz.prog zf) kp :=
 Eq.trans (by kernel_rfl) ((zcO Tryz.prog zf zw _ _ _ _).symm.trans (zou j1 j2 j3 j6 j9 j39 H _ kp))
def zeT (j1 j2 j3 j6 j9 j39:AV) (H:List Ob) (self:Code→List AV→List Ob→Ko→Prop) (kp:Ko):Prop :=
 ze j39
 (kp .normal [Z,j1,j2,j3,Z,Z,j6,Z,Z,j9,Z,Z,Z,Z,Z,Z,Z,Z,Z,Z,Z,Z,Z,Z,Z,Z,Z,Z,Z,Z,Z,Z,Z,Z,Z,Z,Z,Z,Z,(.p (.bool true)),Z,Z,Z,Z,Z,Z,Z,Z,Z,Z,Z,Z,Z,Z,Z,Z,Z,Z,Z,Z,Z,Z,Z,Z,Z,Z,Z,Z,Z,Z,Z,Z,Z,Z,Z,Z,Z,Z,Z,Z,Z,Z,Z,Z,Z,Z,Z,Z,Z,Z,Z,Z,Z,Z,Z] H)
 (za 18 j3 fun v42 =>
 aLoad false 1 v42 H fun v43 =>
 za 17 j3 fun v44 =>
 aLoad false 1 v44 H fun v45 =>
 aBin false false .lss v43 v45 fun v46 =>
 self zeY (keepS [1,2,3,6,9,39,9999] 0 [Z,j1,j2,j3,Z,Z,j6,Z,Z,j9,Z,Z,Z,Z,Z,Z,Z,Z,Z,Z,Z,Z,Z,Z,Z,Z,Z,Z,Z,Z,Z,Z,Z,Z,Z,Z,Z,Z,Z,v46,Z,Z,Z,Z,Z,Z,v42,v43,v44,v45,v46,Z,Z,Z,Z,Z,Z,Z,Z,Z,Z,Z,Z,Z,Z,Z,Z,Z,Z,Z,Z,Z,Z,Z,Z,Z,Z,Z,Z,Z,Z,Z,Z,Z,Z,Z,Z,Z,Z,Z,Z,Z,Z,Z,Z]) H kp)
theorem znd (j1 j2 j3 j6 j9 j39:AV) (H:List Ob) (self:Code→List AV→List Ob→Ko→Prop) (kp:Ko):awpX Tryz.prog zf self zw zeX ([Z,j1,j2,j3,Z,Z,j6,Z,Z,j9]++List.replicate 29 Z++[j39]++List.replicate 55 Z) H kp=zeT j1 j2 j3 j6 j9 j39 H self kp:=by kernel_rfl
theorem zmq (H:List Ob) (kp:Ko):awp Tryz.prog zf zeX (keepS [1,2,3,6,9,39,9999] 0 [j0,j1,j2,j3,j4,j5,j6,j7,j8,j9,j10,j11,j12,j13,j14,j15,j16,j17,j18,j19,j20,j21,j22,j23,j24,j25,j26,j27,j28,j29,j30,j31,j32,j33,j34,j35,j36,j37,j38,j39,j40,j41,j42,j43,j44,j45,j46,j47,j48,j49,j50,j51,j52,j53,j54,j55,j56,j57,j58,j59,j60,j61,j62,j63,j64,j65,j66,j67,j68,j69,j70,j71,j72,j73,j74,j75,j76,j77,j78,j79,j80,j81,j82,j83,j84,j85,j86,j87,j88,j89,j90,j91,j92,j93,j94]) H kp=zeT j1 j2 j3 j6 j9 j39 H (awp Tryz.prog zf) kp :=
 Eq.trans (by kernel_rfl) ((zcO Tryz.prog zf zw _ _ _ _).symm.trans (znd j1 j2 j3 j6 j9 j39 H _ kp))
def zeU (j1 j2 j3 j6 j9 j39:AV) (H:List Ob) (self:Code→List AV→List Ob→Ko→Prop) (kp:Ko):Prop :=
 ze j39
 (kp .normal [Z,j1,j2,j3,Z,Z,j6,Z,Z,j9,Z,Z,Z,Z,Z,Z,Z,Z,Z,Z,Z,Z,Z,Z,Z,Z,Z,Z,Z,Z,Z,Z,Z,Z,Z,Z,Z,Z,Z,(.p (.bool true)),Z,Z,Z,Z,Z,Z,Z,Z,Z,Z,Z,Z,Z,Z,Z,Z,Z,Z,Z,Z,Z,Z,Z,Z,Z,Z,Z,Z,Z,Z,Z,Z,Z,Z,Z,Z,Z,Z,Z,Z,Z,Z,Z,Z,Z,Z,Z,Z,Z,Z,Z,Z,Z,Z,Z] H)
 (za 18 j3 fun v47 =>
 aLoad false 1 v47 H fun v48 =>
 aBin false false .gtr v48 (.p (.int .i64 16)) fun v49 =>
 self zeZ (keepS [1,2,3,6,9,39,9999] 0 [Z,j1,j2,j3,Z,Z,j6,Z,Z,j9,Z,Z,Z,Z,Z,Z,Z,Z,Z,Z,Z,Z,Z,Z,Z,Z,Z,Z,Z,Z,Z,Z,Z,Z,Z,Z,Z,Z,Z,v49,Z,Z,Z,Z,Z,Z,Z,Z,Z,Z,Z,v47,v48,v49,Z,Z,Z,Z,Z,Z,Z,Z,Z,Z,Z,Z,Z,Z,Z,Z,Z,Z,Z,Z,Z,Z,Z,Z,Z,Z,Z,Z,Z,Z,Z,Z,Z,Z,Z,Z,Z,Z,Z,Z,Z]) H kp)
theorem zne (j1 j2 j3 j6 j9 j39:AV) (H:List Ob) (self:Code→List AV→List Ob→Ko→Prop) (kp:Ko):awpX Tryz.prog zf self zw zeY ([Z,j1,j2,j3,Z,Z,j6,Z,Z,j9]++List.replicate 29 Z++[j39]++List.replicate 55 Z) H kp=zeU j1 j2 j3 j6 j9 j39 H self kp:=by kernel_rfl
theorem zmr (H:List Ob) (kp:Ko):awp Tryz.prog zf zeY (keepS [1,2,3,6,9,39,9999] 0 [j0,j1,j2,j3,j4,j5,j6,j7,j8,j9,j10,j11,j12,j13,j14,j15,j16,j17,j18,j19,j20,j21,j22,j23,j24,j25,j26,j27,j28,j29,j30,j31,j32,j33,j34,j35,j36,j37,j38,j39,j40,j41,j42,j43,j44,j45,j46,j47,j48,j49,j50,j51,j52,j53,j54,j55,j56,j57,j58,j59,j60,j61,j62,j63,j64,j65,j66,j67,j68,j69,j70,j71,j72,j73,j74,j75,j76,j77,j78,j79,j80,j81,j82,j83,j84,j85,j86,j87,j88,j89,j90,j91,j92,j93,j94]) H kp=zeU j1 j2 j3 j6 j9 j39 H (awp Tryz.prog zf) kp :=
 Eq.trans (by kernel_rfl) ((zcO Tryz.prog zf zw _ _ _ _).symm.trans (zne j1 j2 j3 j6 j9 j39 H _ kp))
def zeV (j1 j2 j3 j6 j9 j39:AV) (H:List Ob) (_:Code→List AV→List Ob→Ko→Prop) (kp:Ko):Prop :=
 ze j39
 (kp .normal [Z,j1,j2,j3,Z,Z,j6,Z,Z,j9,Z,Z,Z,Z,Z,Z,Z,Z,Z,Z,Z,Z,Z,Z,Z,Z,Z,Z,Z,Z,Z,Z,Z,Z,Z,Z,Z,Z,Z,(.p (.bool true)),Z,Z,Z,Z,Z,Z,Z,Z,Z,Z,Z,Z,Z,Z,Z,Z,Z,Z,Z,Z,Z,Z,Z,Z,Z,Z,Z,Z,Z,Z,Z,Z,Z,Z,Z,Z,Z,Z,Z,Z,Z,Z,Z,Z,Z,Z,Z,Z,Z,Z,Z,Z,Z,Z,Z] H)
 (aLoad true 21 j3 H fun v50 =>
 aCall Tryz.prog (.p (.func zio [])) [v50,j1] H fun v51 h52 =>
 aUn .not v51 fun v53 =>
 kp .normal [Z,j1,j2,j3,Z,Z,j6,Z,Z,j9,Z,Z,Z,Z,Z,Z,Z,Z,Z,Z,Z,Z,Z,Z,Z,Z,Z,Z,Z,Z,Z,Z,Z,Z,Z,Z,Z,Z,Z,v53,Z,Z,Z,Z,Z,Z,Z,Z,Z,Z,Z,Z,Z,Z,v50,j1,v51,v53,Z,Z,Z,Z,Z,Z,Z,Z,Z,Z,Z,Z,Z,Z,Z,Z,Z,Z,Z,Z,Z,Z,Z,Z,Z,Z,Z,Z,Z,Z,Z,Z,Z,Z,Z,Z,Z] h52)
theorem znf (j1 j2 j3 j6 j9 j39:AV) (H:List Ob) (self:Code→List AV→List Ob→Ko→Prop) (kp:Ko):awpX Tryz.prog zf self zw zeZ ([Z,j1,j2,j3,Z,Z,j6,Z,Z,j9]++List.replicate 29 Z++[j39]++List.replicate 55 Z) H kp=zeV j1 j2 j3 j6 j9 j39 H self kp:=by kernel_rfl
theorem zms (H:List Ob) (kp:Ko):awp Tryz.prog zf zeZ (keepS [1,2,3,6,9,39,9999] 0 [j0,j1,j2,j3,j4,j5,j6,j7,j8,j9,j10,j11,j12,j13,j14,j15,j16,j17,j18,j19,j20,j21,j22,j23,j24,j25,j26,j27,j28,j29,j30,j31,j32,j33,j34,j35,j36,j37,j38,j39,j40,j41,j42,j43,j44,j45,j46,j47,j48,j49,j50,j51,j52,j53,j54,j55,j56,j57,j58,j59,j60,j61,j62,j63,j64,j65,j66,j67,j68,j69,j70,j71,j72,j73,j74,j75,j76,j77,j78,j79,j80,j81,j82,j83,j84,j85,j86,j87,j88,j89,j90,j91,j92,j93,j94]) H kp=zeV j1 j2 j3 j6 j9 j39 H (awp Tryz.prog zf) kp :=
 Eq.trans (by kernel_rfl) ((zcO Tryz.prog zf zw _ _ _ _).symm.trans (znf j1 j2 j3 j6 j9 j39 H _ kp))
def zaT (j1 j2 j3 j6 j9 j39:AV) (H:List Ob) (_:Code→List AV→List Ob→Ko→Prop) (kp:Ko):Prop :=
 ze j39
 (zp [(.p (.int .i64 0)),(.full [])] [] fun v54 =>
 zi 2 j6 v54 H fun _ h56 =>
 kp .ret [Z,j1,j2,j3,Z,Z,j6,(.p (.int .i64 1)),Z,j9,Z,Z,Z,Z,Z,Z,Z,Z,Z,Z,Z,Z,Z,Z,Z,Z,Z,Z,Z,Z,Z,Z,Z,Z,Z,Z,Z,Z,Z,(.p (.bool true)),Z,Z,Z,Z,Z,Z,Z,Z,Z,Z,Z,Z,Z,Z,Z,Z,Z,Z,v54,Z,Z,Z,Z,Z,Z,Z,Z,Z,Z,Z,Z,Z,Z,Z,Z,Z,Z,Z,Z,Z,Z,Z,Z,Z,Z,Z,Z,Z,Z,Z,Z,Z,Z,Z,Z] h56)
 (kp .normal [Z,j1,j2,j3,Z,Z,j6,Z,Z,j9,Z,Z,Z,Z,Z,Z,Z,Z,Z,Z,Z,Z,Z,Z,Z,Z,Z,Z,Z,Z,Z,Z,Z,Z,Z,Z,Z,Z,Z,(.p (.bool false)),Z,Z,Z,Z,Z,Z,Z,Z,Z,Z,Z,Z,Z,Z,Z,Z,Z,Z,Z,Z,Z,Z,Z,Z,Z,Z,Z,Z,Z,Z,Z,Z,Z,Z,Z,Z,Z,Z,Z,Z,Z,Z,Z,Z,Z,Z,Z,Z,Z,Z,Z,Z,Z,Z,Z] H)
theorem zng (j1 j2 j3 j6 j9 j39:AV) (H:List Ob) (self:Code→List AV→List Ob→Ko→Prop) (kp:Ko):awpX Tryz.prog zf self zw ze0 ([Z,j1,j2,j3,Z,Z,j6,Z,Z,j9]++List.replicate 29 Z++[j39]++List.replicate 55 Z) H kp=zaT j1 j2 j3 j6 j9 j39 H self kp:=by kernel_rfl
theorem zbl (H:List Ob) (kp:Ko):awp Tryz.prog zf ze0 (keepS [1,2,3,6,9,39,9999] 0 [j0,j1,j2,j3,j4,j5,j6,j7,j8,j9,j10,j11,j12,j13,j14,j15,j16,j17,j18,j19,j20,j21,j22,j23,j24,j25,j26,j27,j28,j29,j30,j31,j32,j33,j34,j35,j36,j37,j38,j39,j40,j41,j42,j43,j44,j45,j46,j47,j48,j49,j50,j51,j52,j53,j54,j55,j56,j57,j58,j59,j60,j61,j62,j63,j64,j65,j66,j67,j68,j69,j70,j71,j72,j73,j74,j75,j76,j77,j78,j79,j80,j81,j82,j83,j84,j85,j86,j87,j88,j89,j90,j91,j92,j93,j94]) H kp=zaT j1 j2 j3 j6 j9 j39 H (awp Tryz.prog zf) kp :=
 Eq.trans (by kernel_rfl) ((zcO Tryz.prog zf zw _ _ _ _).symm.trans (zng j1 j2 j3 j6 j9 j39 H _ kp))
def zeW (j1 j2 j3 j6 j9:AV) (H:List Ob) (self:Code→List AV→List Ob→Ko→Prop) (kp:Ko):Prop :=
 zy [(.p (.int .i64 0)),(.full [])] H fun v57 h58 =>
 za 1 j3 fun v59 =>
 aLoad true 15 v59 h58 fun v60 =>
 za 16 j3 fun v61 =>
 aLoad false 1 v61 h58 fun v62 =>
 zJ Tryz.prog (.p (.func zr2 [])) [j2,v62] fun v63 =>
 zJ Tryz.prog (.p (.func zxw [])) [v60,v63] fun v64 =>
 zB v64 0 fun v65 =>
 zB v64 1 fun v66 =>
 zi 2 v57 v65 h58 fun _ h68 =>
 self ze2 (keepS [1,3,6,9,10,11,9999] 0 [Z,j1,j2,j3,Z,Z,j6,Z,Z,j9,v57,v66,Z,Z,Z,Z,Z,Z,Z,Z,Z,Z,Z,Z,Z,Z,Z,Z,Z,Z,Z,Z,Z,Z,Z,Z,Z,Z,Z,Z,Z,Z,Z,Z,Z,Z,Z,Z,Z,Z,Z,Z,Z,Z,Z,Z,Z,Z,Z,v64,v59,v60,j2,v61,v62,v63,v64,v65,v66,Z,Z,Z,Z,Z,Z,Z,Z,Z,Z,Z,Z,Z,Z,Z,Z,Z,Z,Z,Z,Z,Z,Z,Z,Z,Z]) h68 kp
theorem znh (j1 j2 j3 j6 j9:AV) (H:List Ob) (self:Code→List AV→List Ob→Ko→Prop) (kp:Ko):awpX Tryz.prog zf self zw ze1 ([Z,j1,j2,j3,Z,Z,j6,Z,Z,j9]++List.replicate 85 Z) H kp=zeW j1 j2 j3 j6 j9 H self kp:=by kernel_rfl
theorem zmt (H:List Ob) (kp:Ko):awp Tryz.prog zf ze1 (keepS [1,2,3,6,9,9999] 0 [j0,j1,j2,j3,j4,j5,j6,j7,j8,j9,j10,j11,j12,j13,j14,j15,j16,j17,j18,j19,j20,j21,j22,j23,j24,j25,j26,j27,j28,j29,j30,j31,j32,j33,j34,j35,j36,j37,j38,j39,j40,j41,j42,j43,j44,j45,j46,j47,j48,j49,j50,j51,j52,j53,j54,j55,j56,j57,j58,j59,j60,j61,j62,j63,j64,j65,j66,j67,j68,j69,j70,j71,j72,j73,j74,j75,j76,j77,j78,j79,j80,j81,j82,j83,j84,j85,j86,j87,j88,j89,j90,j91,j92,j93,j94]) H kp=zeW j1 j2 j3 j6 j9 H (awp Tryz.prog zf) kp :=
 Eq.trans (by kernel_rfl) ((zcO Tryz.prog zf zw _ _ _ _).symm.trans (znh j1 j2 j3 j6 j9 H _ kp))
def zc3 (j1 j3 j6 j9 j10 j11:AV) (H:List Ob) (self:Code→List AV→List Ob→Ko→Prop) (kp:Ko):Prop :=
 aBin false false .eql j11 (.p (.int .i64 0)) fun v69 =>
 (ze v69
 ((aCall Tryz.prog (.p (.func zK [])) [j1] H fun v70 h71 =>
 aLoad true 21 j3 h71 fun v72 =>
 zk 21 [v72] fun v73 =>
 zH false 21 288 v70 v73 h71 fun v74 h75 =>
 aCall Tryz.prog (.p (.func zbY [])) [v74] h75 fun v76 h77 =>
 aBin false false .gtr v76 (.p (.int .i64 64)) fun v78 =>
 ze v78
 (self zG (keepS [1,3,6,9,10,11,9999] 0 [Z,j1,Z,j3,Z,Z,j6,Z,Z,j9,j10,(.p (.int .i64 10)),Z,Z,Z,Z,Z,Z,Z,Z,Z,Z,Z,Z,Z,Z,Z,Z,Z,Z,Z,Z,Z,Z,Z,Z,Z,Z,Z,Z,Z,Z,Z,Z,Z,Z,Z,Z,Z,Z,Z,Z,Z,Z,Z,Z,Z,Z,Z,Z,Z,Z,Z,Z,Z,Z,Z,Z,Z,j11,v69,(.p (.bool true)),j1,v70,v72,v73,v74,v76,v78,(.p (.bool true)),Z,Z,Z,Z,Z,Z,Z,Z,Z,Z,Z,Z,Z,Z,Z]) h77 kp)
 (self zG (keepS [1,3,6,9,10,11,9999] 0 [Z,j1,Z,j3,Z,Z,j6,Z,Z,j9,j10,j11,Z,Z,Z,Z,Z,Z,Z,Z,Z,Z,Z,Z,Z,Z,Z,Z,Z,Z,Z,Z,Z,Z,Z,Z,Z,Z,Z,Z,Z,Z,Z,Z,Z,Z,Z,Z,Z,Z,Z,Z,Z,Z,Z,Z,Z,Z,Z,Z,Z,Z,Z,Z,Z,Z,Z,Z,Z,j11,v69,(.p (.bool true)),j1,v70,v72,v73,v74,v76,v78,(.p (.bool false)),Z,Z,Z,Z,Z,Z,Z,Z,Z,Z,Z,Z,Z,Z,Z]) h77 kp)) ∧
 (aLoad true 21 j3 H fun v79 =>
 (aCall Tryz.prog (.p (.func zK [])) [j1] H fun v80 h81 =>
 zk 21 [v79] fun v82 =>
 zH false 21 288 v80 v82 h81 fun v83 h84 =>
 aCall Tryz.prog (.p (.func zbY [])) [v83] h84 fun v85 h86 =>
 aBin false false .gtr v85 (.p (.int .i64 64)) fun v87 =>
 ze v87
 (self zG (keepS [1,3,6,9,10,11,9999] 0 [Z,j1,Z,j3,Z,Z,j6,Z,Z,j9,j10,(.p (.int .i64 10)),Z,Z,Z,Z,Z,Z,Z,Z,Z,Z,Z,Z,Z,Z,Z,Z,Z,Z,Z,Z,Z,Z,Z,Z,Z,Z,Z,Z,Z,Z,Z,Z,Z,Z,Z,Z,Z,Z,Z,Z,Z,Z,Z,Z,Z,Z,Z,Z,Z,Z,Z,Z,Z,Z,Z,Z,Z,j11,v69,(.p (.bool true)),j1,v80,v79,v82,v83,v85,v87,(.p (.bool true)),Z,Z,Z,Z,Z,Z,Z,Z,Z,Z,Z,Z,Z,Z,Z]) h86 kp)
 (self zG (keepS [1,3,6,9,10,11,9999] 0 [Z,j1,Z,j3,Z,Z,j6,Z,Z,j9,j10,j11,Z,Z,Z,Z,Z,Z,Z,Z,Z,Z,Z,Z,Z,Z,Z,Z,Z,Z,Z,Z,Z,Z,Z,Z,Z,Z,Z,Z,Z,Z,Z,Z,Z,Z,Z,Z,Z,Z,Z,Z,Z,Z,Z,Z,Z,Z,Z,Z,Z,Z,Z,Z,Z,Z,Z,Z,Z,j11,v69,(.p (.bool true)),j1,v80,v79,v82,v83,v85,v87,(.p (.bool false)),Z,Z,Z,Z,Z,Z,Z,Z,Z,Z,Z,Z,Z,Z,Z]) h86 kp)) ∧
 (zk 21 [v79] fun v88 =>
 aCall Tryz.prog (.p (.func zK [])) [j1] H fun v89 h90 =>
 zH false 21 288 v89 v88 h90 fun v91 h92 =>
 aCall Tryz.prog (.p (.func zbY [])) [v91] h92 fun v93 h94 =>
 aBin false false .gtr v93 (.p (.int .i64 64)) fun v95 =>
 ze v95
 (self zG (keepS [1,3,6,9,10,11,9999] 0 [Z,j1,Z,j3,Z,Z,j6,Z,Z,j9,j10,(.p (.int .i64 10)),Z,Z,Z,Z,Z,Z,Z,Z,Z,Z,Z,Z,Z,Z,Z,Z,Z,Z,Z,Z,Z,Z,Z,Z,Z,Z,Z,Z,Z,Z,Z,Z,Z,Z,Z,Z,Z,Z,Z,Z,Z,Z,Z,Z,Z,Z,Z,Z,Z,Z,Z,Z,Z,Z,Z,Z,Z,j11,v69,(.p (.bool true)),j1,v89,v79,v88,v91,v93,v95,(.p (.bool true)),Z,Z,Z,Z,Z,Z,Z,Z,Z,Z,Z,Z,Z,Z,Z]) h94 kp)
 (self zG (keepS [1,3,6,9,10,11,9999] 0 [Z,j1,Z,j3,Z,Z,j6,Z,Z,j9,j10,j11,Z,Z,Z,Z,Z,Z,Z,Z,Z,Z,Z,Z,Z,Z,Z,Z,Z,Z,Z,Z,Z,Z,Z,Z,Z,Z,Z,Z,Z,Z,Z,Z,Z,Z,Z,Z,Z,Z,Z,Z,Z,Z,Z,Z,Z,Z,Z,Z,Z,Z,Z,Z,Z,Z,Z,Z,Z,j11,v69,(.p (.bool true)),j1,v89,v79,v88,v91,v93,v95,(.p (.bool false)),Z,Z,Z,Z,Z,Z,Z,Z,Z,Z,Z,Z,Z,Z,Z]) h94 kp))))
 ((self zG (keepS [1,3,6,9,10,11,9999] 0 [Z,j1,Z,j3,Z,Z,j6,Z,Z,j9,j10,j11,Z,Z,Z,Z,Z,Z,Z,Z,Z,Z,Z,Z,Z,Z,Z,Z,Z,Z,Z,Z,Z,Z,Z,Z,Z,Z,Z,Z,Z,Z,Z,Z,Z,Z,Z,Z,Z,Z,Z,Z,Z,Z,Z,Z,Z,Z,Z,Z,Z,Z,Z,Z,Z,Z,Z,Z,Z,j11,v69,(.p (.bool false)),(.tup []),(.tup []),(.tup []),(.tup []),(.tup []),(.tup []),(.tup []),(.p (.bool false)),Z,Z,Z,Z,Z,Z,Z,Z,Z,Z,Z,Z,Z,Z,Z]) H kp) ∧
 ((self zG (keepS [1,3,6,9,10,11,9999] 0 [Z,j1,Z,j3,Z,Z,j6,Z,Z,j9,j10,j11,Z,Z,Z,Z,Z,Z,Z,Z,Z,Z,Z,Z,Z,Z,Z,Z,Z,Z,Z,Z,Z,Z,Z,Z,Z,Z,Z,Z,Z,Z,Z,Z,Z,Z,Z,Z,Z,Z,Z,Z,Z,Z,Z,Z,Z,Z,Z,Z,Z,Z,Z,Z,Z,Z,Z,Z,Z,j11,v69,(.p (.bool false)),(.tup []),(.tup []),(.tup []),(.tup []),(.tup []),(.tup []),(.tup []),(.p (.bool false)),Z,Z,Z,Z,Z,Z,Z,Z,Z,Z,Z,Z,Z,Z,Z]) H kp) ∧
 (self zG (keepS [1,3,6,9,10,11,9999] 0 [Z,j1,Z,j3,Z,Z,j6,Z,Z,j9,j10,j11,Z,Z,Z,Z,Z,Z,Z,Z,Z,Z,Z,Z,Z,Z,Z,Z,Z,Z,Z,Z,Z,Z,Z,Z,Z,Z,Z,Z,Z,Z,Z,Z,Z,Z,Z,Z,Z,Z,Z,Z,Z,Z,Z,Z,Z,Z,Z,Z,Z,Z,Z,Z,Z,Z,Z,Z,Z,j11,v69,(.p (.bool false)),(.tup []),(.tup []),(.tup []),(.tup []),(.tup []),(.tup []),(.tup []),(.p (.bool false)),Z,Z,Z,Z,Z,Z,Z,Z,Z,Z,Z,Z,Z,Z,Z]) H kp)))) ∧
 (ze v69
 (aLoad true 21 j3 H fun v96 =>
 ((aCall Tryz.prog (.p (.func zK [])) [j1] H fun v97 h98 =>
 zk 21 [v96] fun v99 =>
 zH false 21 288 v97 v99 h98 fun v100 h101 =>
 aCall Tryz.prog (.p (.func zbY [])) [v100] h101 fun v102 h103 =>
 aBin false false .gtr v102 (.p (.int .i64 64)) fun v104 =>
 ze v104
 (self zG (keepS [1,3,6,9,10,11,9999] 0 [Z,j1,Z,j3,Z,Z,j6,Z,Z,j9,j10,(.p (.int .i64 10)),Z,Z,Z,Z,Z,Z,Z,Z,Z,Z,Z,Z,Z,Z,Z,Z,Z,Z,Z,Z,Z,Z,Z,Z,Z,Z,Z,Z,Z,Z,Z,Z,Z,Z,Z,Z,Z,Z,Z,Z,Z,Z,Z,Z,Z,Z,Z,Z,Z,Z,Z,Z,Z,Z,Z,Z,Z,j11,v69,(.p (.bool true)),j1,v97,v96,v99,v100,v102,v104,(.p (.bool true)),Z,Z,Z,Z,Z,Z,Z,Z,Z,Z,Z,Z,Z,Z,Z]) h103 kp)
 (self zG (keepS [1,3,6,9,10,11,9999] 0 [Z,j1,Z,j3,Z,Z,j6,Z,Z,j9,j10,j11,Z,Z,Z,Z,Z,Z,Z,Z,Z,Z,Z,Z,Z,Z,Z,Z,Z,Z,Z,Z,Z,Z,Z,Z,Z,Z,Z,Z,Z,Z,Z,Z,Z,Z,Z,Z,Z,Z,Z,Z,Z,Z,Z,Z,Z,Z,Z,Z,Z,Z,Z,Z,Z,Z,Z,Z,Z,j11,v69,(.p (.bool true)),j1,v97,v96,v99,v100,v102,v104,(.p (.bool false)),Z,Z,Z,Z,Z,Z,Z,Z,Z,Z,Z,Z,Z,Z,Z]) h103 kp)) ∧
 (zk 21 [v96] fun v105 =>
 aCall Tryz.prog (.p (.func zK [])) [j1] H fun v106 h107 =>
 zH false 21 288 v106 v105 h107 fun v108 h109 =>
 aCall Tryz.prog (.p (.func zbY [])) [v108] h109 fun v110 h111 =>
 aBin false false .gtr v110 (.p (.int .i64 64)) fun v112 =>
 ze v112
 (self zG (keepS [1,3,6,9,10,11,9999] 0 [Z,j1,Z,j3,Z,Z,j6,Z,Z,j9,j10,(.p (.int .i64 10)),Z,Z,Z,Z,Z,Z,Z,Z,Z,Z,Z,Z,Z,Z,Z,Z,Z,Z,Z,Z,Z,Z,Z,Z,Z,Z,Z,Z,Z,Z,Z,Z,Z,Z,Z,Z,Z,Z,Z,Z,Z,Z,Z,Z,Z,Z,Z,Z,Z,Z,Z,Z,Z,Z,Z,Z,Z,j11,v69,(.p (.bool true)),j1,v106,v96,v105,v108,v110,v112,(.p (.bool true)),Z,Z,Z,Z,Z,Z,Z,Z,Z,Z,Z,Z,Z,Z,Z]) h111 kp)
 (self zG (keepS [1,3,6,9,10,11,9999] 0 [Z,j1,Z,j3,Z,Z,j6,Z,Z,j9,j10,j11,Z,Z,Z,Z,Z,Z,Z,Z,Z,Z,Z,Z,Z,Z,Z,Z,Z,Z,Z,Z,Z,Z,Z,Z,Z,Z,Z,Z,Z,Z,Z,Z,Z,Z,Z,Z,Z,Z,Z,Z,Z,Z,Z,Z,Z,Z,Z,Z,Z,Z,Z,Z,Z,Z,Z,Z,Z,j11,v69,(.p (.bool true)),j1,v106,v96,v105,v108,v110,v112,(.p (.bool false)),Z,Z,Z,Z,Z,Z,Z,Z,Z,Z,Z,Z,Z,Z,Z]) h111 kp))) ∧
 (zk 21 [v96] fun v113 =>
 aCall Tryz.prog (.p (.func zK [])) [j1] H fun v114 h115 =>
 zH false 21 288 v114 v113 h115 fun v116 h117 =>
 aCall Tryz.prog (.p (.func zbY [])) [v116] h117 fun v118 h119 =>
 aBin false false .gtr v118 (.p (.int .i64 64)) fun v120 =>
 ze v120
 (self zG (keepS [1,3,6,9,10,11,9999] 0 [Z,j1,Z,j3,Z,Z,j6,Z,Z,j9,j10,(.p (.int .i64 10)),Z,Z,Z,Z,Z,Z,Z,Z,Z,Z,Z,Z,Z,Z,Z,Z,Z,Z,Z,Z,Z,Z,Z,Z,Z,Z,Z,Z,Z,Z,Z,Z,Z,Z,Z,Z,Z,Z,Z,Z,Z,Z,Z,Z,Z,Z,Z,Z,Z,Z,Z,Z,Z,Z,Z,Z,Z,j11,v69,(.p (.bool true)),j1,v114,v96,v113,v116,v118,v120,(.p (.bool true)),Z,Z,Z,Z,Z,Z,Z,Z,Z,Z,Z,Z,Z,Z,Z]) h119 kp)
 (self zG (keepS [1,3,6,9,10,11,9999] 0 [Z,j1,Z,j3,Z,Z,j6,Z,Z,j9,j10,j11,Z,Z,Z,Z,Z,Z,Z,Z,Z,Z,Z,Z,Z,Z,Z,Z,Z,Z,Z,Z,Z,Z,Z,Z,Z,Z,Z,Z,Z,Z,Z,Z,Z,Z,Z,Z,Z,Z,Z,Z,Z,Z,Z,Z,Z,Z,Z,Z,Z,Z,Z,Z,Z,Z,Z,Z,Z,j11,v69,(.p (.bool true)),j1,v114,v96,v113,v116,v118,v120,(.p (.bool false)),Z,Z,Z,Z,Z,Z,Z,Z,Z,Z,Z,Z,Z,Z,Z]) h119 kp)))
 (((self zG (keepS [1,3,6,9,10,11,9999] 0 [Z,j1,Z,j3,Z,Z,j6,Z,Z,j9,j10,j11,Z,Z,Z,Z,Z,Z,Z,Z,Z,Z,Z,Z,Z,Z,Z,Z,Z,Z,Z,Z,Z,Z,Z,Z,Z,Z,Z,Z,Z,Z,Z,Z,Z,Z,Z,Z,Z,Z,Z,Z,Z,Z,Z,Z,Z,Z,Z,Z,Z,Z,Z,Z,Z,Z,Z,Z,Z,j11,v69,(.p (.bool false)),(.tup []),(.tup []),(.tup []),(.tup []),(.tup []),(.tup []),(.tup []),(.p (.bool false)),Z,Z,Z,Z,Z,Z,Z,Z,Z,Z,Z,Z,Z,Z,Z]) H kp) ∧
 (self zG (keepS [1,3,6,9,10,11,9999] 0 [Z,j1,Z,j3,Z,Z,j6,Z,Z,j9,j10,j11,Z,Z,Z,Z,Z,Z,Z,Z,Z,Z,Z,Z,Z,Z,Z,Z,Z,Z,Z,Z,Z,Z,Z,Z,Z,Z,Z,Z,Z,Z,Z,Z,Z,Z,Z,Z,Z,Z,Z,Z,Z,Z,Z,Z,Z,Z,Z,Z,Z,Z,Z,Z,Z,Z,Z,Z,Z,j11,v69,(.p (.bool false)),(.tup []),(.tup []),(.tup []),(.tup []),(.tup []),(.tup []),(.tup []),(.p (.bool false)),Z,Z,Z,Z,Z,Z,Z,Z,Z,Z,Z,Z,Z,Z,Z]) H kp)) ∧
 (self zG (keepS [1,3,6,9,10,11,9999] 0 [Z,j1,Z,j3,Z,Z,j6,Z,Z,j9,j10,j11,Z,Z,Z,Z,Z,Z,Z,Z,Z,Z,Z,Z,Z,Z,Z,Z,Z,Z,Z,Z,Z,Z,Z,Z,Z,Z,Z,Z,Z,Z,Z,Z,Z,Z,Z,Z,Z,Z,Z,Z,Z,Z,Z,Z,Z,Z,Z,Z,Z,Z,Z,Z,Z,Z,Z,Z,Z,j11,v69,(.p (.bool false)),(.tup []),(.tup []),(.tup []),(.tup []),(.tup []),(.tup []),(.tup []),(.p (.bool false)),Z,Z,Z,Z,Z,Z,Z,Z,Z,Z,Z,Z,Z,Z,Z]) H kp)))
theorem zni (j1 j3 j6 j9 j10 j11:AV) (H:List Ob) (self:Code→List AV→List Ob→Ko→Prop) (kp:Ko):awpX Tryz.prog zf self zw ze2 ([Z,j1,Z,j3,Z,Z,j6,Z,Z,j9,j10,j11]++List.replicate 83 Z) H kp=zc3 j1 j3 j6 j9 j10 j11 H self kp:=by kernel_rfl
theorem zg6 (H:List Ob) (kp:Ko):awp Tryz.prog zf ze2 (keepS [1,3,6,9,10,11,9999] 0 [j0,j1,j2,j3,j4,j5,j6,j7,j8,j9,j10,j11,j12,j13,j14,j15,j16,j17,j18,j19,j20,j21,j22,j23,j24,j25,j26,j27,j28,j29,j30,j31,j32,j33,j34,j35,j36,j37,j38,j39,j40,j41,j42,j43,j44,j45,j46,j47,j48,j49,j50,j51,j52,j53,j54,j55,j56,j57,j58,j59,j60,j61,j62,j63,j64,j65,j66,j67,j68,j69,j70,j71,j72,j73,j74,j75,j76,j77,j78,j79,j80,j81,j82,j83,j84,j85,j86,j87,j88,j89,j90,j91,j92,j93,j94]) H kp=zc3 j1 j3 j6 j9 j10 j11 H (awp Tryz.prog zf) kp :=
 Eq.trans (by kernel_rfl) ((zcO Tryz.prog zf zw _ _ _ _).symm.trans (zni j1 j3 j6 j9 j10 j11 H _ kp))
def zbX (j1 j3 j6 j9 j10 j11:AV) (H:List Ob) (self:Code→List AV→List Ob→Ko→Prop) (kp:Ko):Prop :=
 aBin false false .eql j11 (.p (.int .i64 0)) fun v121 =>
 zm true v121 (fun Q122 =>
 za 1 j3 fun v123 =>
 za 1 v123 fun v124 =>
 aLoad false 1 v124 H fun v125 =>
 aBin false false .neq v125 (.p (.str [])) fun v126 =>
 (H=H∧Q122 v126)) fun v127 =>
 zm true v127 (fun Q128 =>
 aCall Tryz.prog (.p (.func zX [])) [j1,j9] H fun v129 h130 =>
 (h130=H∧Q128 v129)) fun v131 =>
 ze v131
 (self zc4 (keepS [6,10,11,9999] 0 [Z,j1,Z,j3,Z,Z,j6,Z,Z,j9,j10,(.p (.int .i64 7)),Z,Z,Z,Z,Z,Z,Z,Z,Z,Z,Z,Z,Z,Z,Z,Z,Z,Z,Z,Z,Z,Z,Z,Z,Z,Z,Z,Z,Z,Z,Z,Z,Z,Z,Z,Z,Z,Z,Z,Z,Z,Z,Z,Z,Z,Z,Z,Z,Z,Z,Z,Z,Z,Z,Z,Z,Z,Z,Z,Z,Z,Z,Z,Z,Z,Z,Z,Z,j11,v121,v121,Z,Z,Z,Z,v127,v127,Z,Z,Z,(.p (.bool true)),Z,Z]) H kp)
 (self zc4 (keepS [6,10,11,9999] 0 [Z,j1,Z,j3,Z,Z,j6,Z,Z,j9,j10,j11,Z,Z,Z,Z,Z,Z,Z,Z,Z,Z,Z,Z,Z,Z,Z,Z,Z,Z,Z,Z,Z,Z,Z,Z,Z,Z,Z,Z,Z,Z,Z,Z,Z,Z,Z,Z,Z,Z,Z,Z,Z,Z,Z,Z,Z,Z,Z,Z,Z,Z,Z,Z,Z,Z,Z,Z,Z,Z,Z,Z,Z,Z,Z,Z,Z,Z,Z,Z,j11,v121,v121,Z,Z,Z,Z,v127,v127,Z,Z,Z,(.p (.bool false)),Z,Z]) H kp)
theorem znj (j1 j3 j6 j9 j10 j11:AV) (H:List Ob) (self:Code→List AV→List Ob→Ko→Prop) (kp:Ko):awpX Tryz.prog zf self zw zG ([Z,j1,Z,j3,Z,Z,j6,Z,Z,j9,j10,j11]++List.replicate 83 Z) H kp=zbX j1 j3 j6 j9 j10 j11 H self kp:=by kernel_rfl
theorem zdw (H:List Ob) (kp:Ko):awp Tryz.prog zf zG (keepS [1,3,6,9,10,11,9999] 0 [j0,j1,j2,j3,j4,j5,j6,j7,j8,j9,j10,j11,j12,j13,j14,j15,j16,j17,j18,j19,j20,j21,j22,j23,j24,j25,j26,j27,j28,j29,j30,j31,j32,j33,j34,j35,j36,j37,j38,j39,j40,j41,j42,j43,j44,j45,j46,j47,j48,j49,j50,j51,j52,j53,j54,j55,j56,j57,j58,j59,j60,j61,j62,j63,j64,j65,j66,j67,j68,j69,j70,j71,j72,j73,j74,j75,j76,j77,j78,j79,j80,j81,j82,j83,j84,j85,j86,j87,j88,j89,j90,j91,j92,j93,j94]) H kp=zbX j1 j3 j6 j9 j10 j11 H (awp Tryz.prog zf) kp :=
 Eq.trans (by kernel_rfl) ((zcO Tryz.prog zf zw _ _ _ _).symm.trans (znj j1 j3 j6 j9 j10 j11 H _ kp))
def zbk (j6 j10 j11:AV) (H:List Ob) (_:Code→List AV→List Ob→Ko→Prop) (kp:Ko):Prop :=
 aLoad true 2 j10 H fun v132 =>
 zi 2 j6 v132 H fun _ h134 =>
 kp .ret [Z,Z,Z,Z,Z,Z,j6,j11,Z,Z,j10,j11,Z,Z,Z,Z,Z,Z,Z,Z,Z,Z,Z,Z,Z,Z,Z,Z,Z,Z,Z,Z,Z,Z,Z,Z,Z,Z,Z,Z,Z,Z,Z,Z,Z,Z,Z,Z,Z,Z,Z,Z,Z,Z,Z,Z,Z,Z,Z,Z,Z,Z,Z,Z,Z,Z,Z,Z,Z,Z,Z,Z,Z,Z,Z,Z,Z,Z,Z,Z,Z,Z,Z,Z,Z,Z,Z,Z,Z,Z,Z,Z,Z,v132,j11] h134
theorem znk (j6 j10 j11:AV) (H:List Ob) (self:Code→List AV→List Ob→Ko→Prop) (kp:Ko):awpX Tryz.prog zf self zw zc4 (List.replicate 6 Z++[j6,Z,Z,Z,j10,j11]++List.replicate 83 Z) H kp=zbk j6 j10 j11 H self kp:=by kernel_rfl
theorem zca (H:List Ob) (kp:Ko):awp Tryz.prog zf zc4 (keepS [6,10,11,9999] 0 [j0,j1,j2,j3,j4,j5,j6,j7,j8,j9,j10,j11,j12,j13,j14,j15,j16,j17,j18,j19,j20,j21,j22,j23,j24,j25,j26,j27,j28,j29,j30,j31,j32,j33,j34,j35,j36,j37,j38,j39,j40,j41,j42,j43,j44,j45,j46,j47,j48,j49,j50,j51,j52,j53,j54,j55,j56,j57,j58,j59,j60,j61,j62,j63,j64,j65,j66,j67,j68,j69,j70,j71,j72,j73,j74,j75,j76,j77,j78,j79,j80,j81,j82,j83,j84,j85,j86,j87,j88,j89,j90,j91,j92,j93,j94]) H kp=zbk j6 j10 j11 H (awp Tryz.prog zf) kp :=
 Eq.trans (by kernel_rfl) ((zcO Tryz.prog zf zw _ _ _ _).symm.trans (znk j6 j10 j11 H _ kp))
def zr1 (x0 x1:AV) (H:List Ob) (K:AV→List Ob→Prop):Prop :=
 aBox x1 H fun v0 h1 =>
 zaA zkI [v0] h1 fun v2 h3 =>
 aCall Tryz.prog (.p (.func zbS [])) [x0,v2] h3 fun v4 h5 =>
 K v4 h5
def zpC:Nat→List Nat:=fun _=>[]
theorem zyv (x0 x1:AV) (H:List Ob) (r:AV) (Ho:List Ob):aBody Tryz.prog zpC Tryz.f87 H [x0,x1] r Ho=zr1 x0 x1 H (fun v H'=>Gives H.length v H' r Ho):=by kernel_rfl
theorem zyw {x0 x1:AV} {r:AV} {Ho:List Ob} (h:zr1 x0 x1 [] (fun v H'=>Gives 0 v H' r Ho)):Abs.Fn Tryz.prog zns [] [x0,x1] r Ho :=
 zh mixed zpC (fn:=Tryz.f87) (by kernel_rfl) (by kernel_rfl) (by rw [zyv]; exact h)
def zfz (q1s1 q1s8 q1s9 y0 y1:AV) (H:List Ob) (B1:List AV→List Ob→Prop) (K:AV→List Ob→Prop):Prop :=
 aBin false false .lss y1 q1s9 fun v1 =>
 ze v1
 (zb 21 q1s8 y1 fun v2 =>
 aLoad true 21 v2 H fun v3 =>
 zy [(.p (.str [])),(.p (.int .i64 0)),(.p (.str [])),(.p (.int .i64 0)),(.full []),(.full []),(.p (.str [])),(.p (.int .i64 0)),(.p (.int .i64 0)),(.p (.bool false)),(.p (.str [])),(.full []),(.p (.int .i64 0)),(.full []),(.p (.int .i64 0)),(.p (.int .i64 0)),(.full []),(.p (.int .i64 0)),(.p (.int .i64 0)),(.p (.str [])),(.p (.bool false))] H fun v4 h5 =>
 zi 21 v4 v3 h5 fun _ h7 =>
 aLoad true 21 v4 h7 fun v8 =>
 aCall Tryz.prog q1s1 [v8] h7 fun v9 h10 =>
 ze v9
 (zk 1 [y1] fun v11 =>
 zH false 1 8 y0 v11 h10 fun v12 h13 =>
 aBin false false .add y1 (.p (.int .i64 1)) fun v14 =>
 B1 [v12,v14] h13)
 (aBin false false .add y1 (.p (.int .i64 1)) fun v15 =>
 B1 [y0,v15] h10))
 (aCall Tryz.prog (.p (.func zeu [])) [y0] H fun v16 h17 =>
 K v16 h17)
def zdL (x0 x1:AV) (H:List Ob) (K:AV→List Ob→Prop):Prop :=
 aLen false false x0 fun v0 =>
 zD 2 [(.full []),(.p (.int .i64 0))] H fun xs H B1=>zfz x1 x0 v0 (xs.getD 0 Z) (xs.getD 1 Z) H B1 K
def ze3:Nat→List Nat:=fun k=>match k with | 3=>[5,10] | _=>[]
theorem zld (x0 x1:AV) (H:List Ob) (r:AV) (Ho:List Ob):aBody Tryz.prog ze3 Tryz.f88 H [x0,x1] r Ho=zdL x0 x1 H (fun v H'=>Gives H.length v H' r Ho):=by kernel_rfl
theorem zle {x0 x1:AV} {r:AV} {Ho:List Ob} (h:zdL x0 x1 [] (fun v H'=>Gives 0 v H' r Ho)):Abs.Fn Tryz.prog zbS [] [x0,x1] r Ho :=
 zh mixed ze3 (fn:=Tryz.f88) (by kernel_rfl) (by kernel_rfl) (by rw [zld]; exact h)
def zlX (x0 x1:AV) (H:List Ob) (K:AV→List Ob→Prop):Prop :=
 aBox x0 H fun v0 h1 =>
 za 1 v0 fun v2 =>
 za 0 v2 fun v3 =>
 aLoad false 1 v3 h1 fun v4 =>
 aLoad false 1 x1 h1 fun v5 =>
 aBin false false .eql v4 v5 fun v6 =>
 K v6 h1
def zlo:Nat→List Nat:=fun _=>[]
theorem zt1 (x0 x1:AV) (H:List Ob) (r:AV) (Ho:List Ob):aBody Tryz.prog zlo Tryz.f89 H [x0,x1] r Ho=zlX x0 x1 H (fun v H'=>Gives H.length v H' r Ho):=by kernel_rfl
theorem zt2 {x0 x1:AV} {r:AV} {Ho:List Ob} (h:zlX x0 x1 [] (fun v H'=>Gives 0 v H' r Ho)):Abs.Fn Tryz.prog zjy [] [x0,x1] r Ho :=
 zh mixed zlo (fn:=Tryz.f89) (by kernel_rfl) (by kernel_rfl) (by rw [zt1]; exact h)
def zgE (x0 x1:AV) (H:List Ob) (K:AV→List Ob→Prop):Prop :=
 aBox x0 H fun v0 h1 =>
 za 0 v0 fun v2 =>
 aLoad false 1 v2 h1 fun v3 =>
 za 0 x1 fun v4 =>
 aLoad false 1 v4 h1 fun v5 =>
 aBin false false .eql v3 v5 fun v6 =>
 K v6 h1
def zht:Nat→List Nat:=fun _=>[]
theorem zoj (x0 x1:AV) (H:List Ob) (r:AV) (Ho:List Ob):aBody Tryz.prog zht Tryz.f124 H [x0,x1] r Ho=zgE x0 x1 H (fun v H'=>Gives H.length v H' r Ho):=by kernel_rfl
theorem zok {x0 x1:AV} {r:AV} {Ho:List Ob} (h:zgE x0 x1 [] (fun v H'=>Gives 0 v H' r Ho)):Abs.Fn Tryz.prog zeR [] [x0,x1] r Ho :=
 zh mixed zht (fn:=Tryz.f124) (by kernel_rfl) (by kernel_rfl) (by rw [zoj]; exact h)
def zgF (x0 x1:AV) (H:List Ob) (K:AV→List Ob→Prop):Prop :=
 aBox x0 H fun v0 h1 =>
 za 1 v0 fun v2 =>
 za 0 v2 fun v3 =>
 aLoad false 1 v3 h1 fun v4 =>
 za 1 x1 fun v5 =>
 za 0 v5 fun v6 =>
 aLoad false 1 v6 h1 fun v7 =>
 aBin false false .eql v4 v7 fun v8 =>
 zm true v8 (fun Q9 =>
 za 1 v0 fun v10 =>
 za 1 v10 fun v11 =>
 aLoad false 1 v11 h1 fun v12 =>
 za 1 x1 fun v13 =>
 za 1 v13 fun v14 =>
 aLoad false 1 v14 h1 fun v15 =>
 aBin false false .eql v12 v15 fun v16 =>
 (h1=h1∧Q9 v16)) fun v17 =>
 K v17 h1
def zhu:Nat→List Nat:=fun _=>[]
theorem zol (x0 x1:AV) (H:List Ob) (r:AV) (Ho:List Ob):aBody Tryz.prog zhu Tryz.f125 H [x0,x1] r Ho=zgF x0 x1 H (fun v H'=>Gives H.length v H' r Ho):=by kernel_rfl
theorem zom {x0 x1:AV} {r:AV} {Ho:List Ob} (h:zgF x0 x1 [] (fun v H'=>Gives 0 v H' r Ho)):Abs.Fn Tryz.prog zeS [] [x0,x1] r Ho :=
 zh mixed zhu (fn:=Tryz.f125) (by kernel_rfl) (by kernel_rfl) (by rw [zol]; exact h)
def zaD (x0 x1:AV) (H:List Ob) (K:AV→List Ob→Prop):Prop :=
 aCall Tryz.prog (.p (.func zaH [])) [x0,x1] H fun v0 h1 =>
 aBin false false .geq v0 (.p (.int .i64 0)) fun v2 =>
 K v2 h1
def zbd:Nat→List Nat:=fun _=>[]
theorem zdk (x0 x1:AV) (H:List Ob) (r:AV) (Ho:List Ob):aBody Tryz.prog zbd Tryz.f127 H [x0,x1] r Ho=zaD x0 x1 H (fun v H'=>Gives H.length v H' r Ho):=by kernel_rfl
theorem zdl {x0 x1:AV} {r:AV} {Ho:List Ob} (h:zaD x0 x1 [] (fun v H'=>Gives 0 v H' r Ho)):Abs.Fn Tryz.prog zX [] [x0,x1] r Ho :=
 zh mixed zbd (fn:=Tryz.f127) (by kernel_rfl) (by kernel_rfl) (by rw [zdk]; exact h)
def zlp (q1s1 q1s2 q1s8 q1s9 y0:AV) (H:List Ob) (B1:List AV→List Ob→Prop) (K:AV→List Ob→Prop):Prop :=
 aBin false false .lss y0 q1s9 fun v5 =>
 ze v5
 (zb 1 q1s8 y0 fun v6 =>
 aLoad false 1 v6 H fun v7 =>
 aBin false false .lss v7 (.p (.int .i64 0)) fun v8 =>
 zm false v8 (fun Q9 =>
 aLenS false q1s1 fun v10 =>
 aBin false false .geq v7 v10 fun v11 =>
 (H=H∧Q9 v11)) fun v12 =>
 zm false v12 (fun Q13 =>
 zb 21 q1s1 v7 fun v14 =>
 za 1 v14 fun v15 =>
 za 0 v15 fun v16 =>
 aLoad false 1 v16 H fun v17 =>
 aBin false false .eql v17 (.p (.int .i64 9)) fun v18 =>
 (H=H∧Q13 v18)) fun v19 =>
 zm false v19 (fun Q20 =>
 za 16 q1s2 fun v21 =>
 aLoad false 1 v21 H fun v22 =>
 zbg false 1 v22 none (some y0) none fun v23 =>
 aCall Tryz.prog (.p (.func zbG [])) [v23,v7] H fun v24 h25 =>
 (h25=H∧Q20 v24)) fun v26 =>
 ze v26
 (K (.p (.bool false)) H)
 (aBin false false .add y0 (.p (.int .i64 1)) fun v27 =>
 B1 [v27] H))
 (K (.p (.bool true)) H)
def zkG (x0 x1:AV) (H:List Ob) (K:AV→List Ob→Prop):Prop :=
 aBox x0 H fun v0 h1 =>
 za 16 v0 fun v2 =>
 aLoad false 1 v2 h1 fun v3 =>
 aLen false false v3 fun v4 =>
 zD 1 [(.p (.int .i64 0))] h1 fun xs H B1=>zlp x1 v0 v3 v4 (xs.getD 0 Z) H B1 K
def zkH:Nat→List Nat:=fun k=>match k with | 2=>[10] | _=>[]
theorem zsV (x0 x1:AV) (H:List Ob) (r:AV) (Ho:List Ob):aBody Tryz.prog zkH Tryz.f128 H [x0,x1] r Ho=zkG x0 x1 H (fun v H'=>Gives H.length v H' r Ho):=by kernel_rfl
theorem zsW {x0 x1:AV} {r:AV} {Ho:List Ob} (h:zkG x0 x1 [] (fun v H'=>Gives 0 v H' r Ho)):Abs.Fn Tryz.prog zio [] [x0,x1] r Ho :=
 zh mixed zkH (fn:=Tryz.f128) (by kernel_rfl) (by kernel_rfl) (by rw [zsV]; exact h)
def zuU (q1s0 q1s8 q1s9 y0 y1:AV) (H:List Ob) (B1:List AV→List Ob→Prop) (K:AV→List Ob→Prop):Prop :=
 aBin false false .lss y1 q1s9 fun v1 =>
 ze v1
 (zb 1 q1s8 y1 fun v2 =>
 aLoad false 1 v2 H fun v3 =>
 zb 2 q1s0 v3 fun v4 =>
 aLoad true 2 v4 H fun v5 =>
 zk 2 [v5] fun v6 =>
 zH false 2 32 y0 v6 H fun v7 h8 =>
 aBin false false .add y1 (.p (.int .i64 1)) fun v9 =>
 B1 [v7,v9] h8)
 (K y0 H)
def zxb (x0 x1:AV) (H:List Ob) (K:AV→List Ob→Prop):Prop :=
 aLen false false x1 fun v0 =>
 zD 2 [(.full []),(.p (.int .i64 0))] H fun xs H B1=>zuU x0 x1 v0 (xs.getD 0 Z) (xs.getD 1 Z) H B1 K
def zsX:Nat→List Nat:=fun k=>match k with | 3=>[5,10] | _=>[]
theorem zBo (x0 x1:AV) (H:List Ob) (r:AV) (Ho:List Ob):aBody Tryz.prog zsX Tryz.f130 H [x0,x1] r Ho=zxb x0 x1 H (fun v H'=>Gives H.length v H' r Ho):=by kernel_rfl
theorem zBp {x0 x1:AV} {r:AV} {Ho:List Ob} (h:zxb x0 x1 [] (fun v H'=>Gives 0 v H' r Ho)):Abs.Fn Tryz.prog zr2 [] [x0,x1] r Ho :=
 zh mixed zsX (fn:=Tryz.f130) (by kernel_rfl) (by kernel_rfl) (by rw [zBo]; exact h)
def zoe (q2s3 q2s5 q2s11 q2s16 q2s17 y0 y1:AV) (H:List Ob) (B2:List AV→List Ob→Prop) (B1:List AV→List Ob→Prop) (K:AV→List Ob→Prop):Prop :=
 aBin false false .lss y1 q2s17 fun v11 =>
 ze v11
 (zb 1 q2s16 y1 fun v12 =>
 aLoad false 1 v12 H fun v13 =>
 zb 1 q2s3 v13 fun v14 =>
 aLoad false 1 v14 H fun v15 =>
 aBin false false .add y0 v15 fun v16 =>
 aBin false false .add y1 (.p (.int .i64 1)) fun v17 =>
 B2 [v16,v17] H)
 (za 1 q2s5 fun v18 =>
 za 0 v18 fun v19 =>
 aLoad false 1 v19 H fun v20 =>
 aBin false false .eql v20 (.p (.int .i64 1)) fun v21 =>
 ze v21
 (zk 1 [(.p (.int .i64 1))] fun v22 =>
 zH false 1 8 q2s3 v22 H fun v23 h24 =>
 aBin false false .add q2s11 (.p (.int .i64 1)) fun v25 =>
 B1 [v23,v25] h24)
 (aBin false false .eql v20 (.p (.int .i64 4)) fun v26 =>
 ze v26
 (za 1 q2s5 fun v27 =>
 za 4 v27 fun v28 =>
 aLoad false 1 v28 H fun v29 =>
 aLen false false v29 fun v30 =>
 aBin false false .mul y0 v30 fun v31 =>
 zk 1 [v31] fun v32 =>
 zH false 1 8 q2s3 v32 H fun v33 h34 =>
 aBin false false .add q2s11 (.p (.int .i64 1)) fun v35 =>
 B1 [v33,v35] h34)
 (zk 1 [y0] fun v36 =>
 zH false 1 8 q2s3 v36 H fun v37 h38 =>
 aBin false false .add q2s11 (.p (.int .i64 1)) fun v39 =>
 B1 [v37,v39] h38)))
def zod (q1s9 q1s10 y0 y1:AV) (H:List Ob) (B1:List AV→List Ob→Prop) (K:AV→List Ob→Prop):Prop :=
 aBin false false .lss y1 q1s10 fun v1 =>
 ze v1
 (zb 21 q1s9 y1 fun v2 =>
 aLoad true 21 v2 H fun v3 =>
 zy [(.p (.str [])),(.p (.int .i64 0)),(.p (.str [])),(.p (.int .i64 0)),(.full []),(.full []),(.p (.str [])),(.p (.int .i64 0)),(.p (.int .i64 0)),(.p (.bool false)),(.p (.str [])),(.full []),(.p (.int .i64 0)),(.full []),(.p (.int .i64 0)),(.p (.int .i64 0)),(.full []),(.p (.int .i64 0)),(.p (.int .i64 0)),(.p (.str [])),(.p (.bool false))] H fun v4 h5 =>
 zi 21 v4 v3 h5 fun _ h7 =>
 za 16 v4 fun v8 =>
 aLoad false 1 v8 h7 fun v9 =>
 aLen false false v9 fun v10 =>
 zD 2 [(.p (.int .i64 0)),(.p (.int .i64 0))] h7 fun xs H B2=>zoe y0 v4 y1 v9 v10 (xs.getD 0 Z) (xs.getD 1 Z) H B2 B1 K)
 (aLen false false y0 fun v40 =>
 aBin false false .sub v40 (.p (.int .i64 1)) fun v41 =>
 zb 1 y0 v41 fun v42 =>
 aLoad false 1 v42 H fun v43 =>
 K v43 H)
def znt (x0:AV) (H:List Ob) (K:AV→List Ob→Prop):Prop :=
 aLen false false x0 fun v0 =>
 zD 2 [(.full []),(.p (.int .i64 0))] H fun xs H B1=>zod x0 v0 (xs.getD 0 Z) (xs.getD 1 Z) H B1 K
def zmv:Nat→List Nat:=fun k=>match k with | 3=>[3,11] | 7=>[6,18] | _=>[]
theorem zvr (x0:AV) (H:List Ob) (r:AV) (Ho:List Ob):aBody Tryz.prog zmv Tryz.f131 H [x0] r Ho=znt x0 H (fun v H'=>Gives H.length v H' r Ho):=by kernel_rfl
theorem zvs {x0:AV} {r:AV} {Ho:List Ob} (h:znt x0 [] (fun v H'=>Gives 0 v H' r Ho)):Abs.Fn Tryz.prog zbY [] [x0] r Ho :=
 zh mixed zmv (fn:=Tryz.f131) (by kernel_rfl) (by kernel_rfl) (by rw [zvr]; exact h)
def zau (x0:AV) (H:List Ob) (K:AV→List Ob→Prop):Prop :=
 aNil true .eql x0 fun v0 =>
 ze v0
 (K (.full []) H)
 (zk 21 [] fun v1 =>
 zH false 21 288 v1 x0 H fun v2 h3 =>
 K v2 h3)
def zbP:Nat→List Nat:=fun _=>[]
theorem zfg (x0:AV) (H:List Ob) (r:AV) (Ho:List Ob):aBody Tryz.prog zbP Tryz.f132 H [x0] r Ho=zau x0 H (fun v H'=>Gives H.length v H' r Ho):=by kernel_rfl
theorem zb3 {x0:AV} {r:AV} {Ho:List Ob} (h:zau x0 [] (fun v H'=>Gives 0 v H' r Ho)):Abs.Fn Tryz.prog zK [] [x0] r Ho :=
 zh mixed zbP (fn:=Tryz.f132) (by kernel_rfl) (by kernel_rfl) (by rw [zfg]; exact h)
def znr (x0 x1:AV) (H:List Ob) (K:AV→List Ob→Prop):Prop :=
 aBox x0 H fun v0 h1 =>
 za 16 v0 fun v2 =>
 aLoad false 1 v2 h1 fun v3 =>
 aLoad false 1 x1 h1 fun v4 =>
 aCall Tryz.prog (.p (.func zbG [])) [v3,v4] h1 fun v5 h6 =>
 K v5 h6
def zmu:Nat→List Nat:=fun _=>[]
theorem zvp (x0 x1:AV) (H:List Ob) (r:AV) (Ho:List Ob):aBody Tryz.prog zmu Tryz.f133 H [x0,x1] r Ho=znr x0 x1 H (fun v H'=>Gives H.length v H' r Ho):=by kernel_rfl
theorem zvq {x0 x1:AV} {r:AV} {Ho:List Ob} (h:znr x0 x1 [] (fun v H'=>Gives 0 v H' r Ho)):Abs.Fn Tryz.prog zkI [] [x0,x1] r Ho :=
 zh mixed zmu (fn:=Tryz.f133) (by kernel_rfl) (by kernel_rfl) (by rw [zvp]; exact h)
def zby (q1s0 q1s1 q1s7 y0:AV) (H:List Ob) (B1:List AV→List Ob→Prop) (K:AV→List Ob→Prop):Prop :=
 aBin false false .lss y0 q1s7 fun v1 =>
 ze v1
 (zb 21 q1s0 y0 fun v2 =>
 aLoad true 21 v2 H fun v3 =>
 aCall Tryz.prog q1s1 [v3] H fun v4 h5 =>
 ze v4
 (K y0 h5)
 (aBin false false .add y0 (.p (.int .i64 1)) fun v6 =>
 B1 [v6] h5))
 (K (.p (.int .i64 (-1))) H)
def zaR (x0 x1:AV) (H:List Ob) (K:AV→List Ob→Prop):Prop :=
 aLen false false x0 fun v0 =>
 zD 1 [(.p (.int .i64 0))] H fun xs H B1=>zby x0 x1 v0 (xs.getD 0 Z) H B1 K
def zbt:Nat→List Nat:=fun k=>match k with | 2=>[8] | _=>[]
theorem zd2 (x0 x1:AV) (H:List Ob) (r:AV) (Ho:List Ob):aBody Tryz.prog zbt Tryz.f160 H [x0,x1] r Ho=zaR x0 x1 H (fun v H'=>Gives H.length v H' r Ho):=by kernel_rfl
theorem zd3 {x0 x1:AV} {r:AV} {Ho:List Ob} (h:zaR x0 x1 [] (fun v H'=>Gives 0 v H' r Ho)):Abs.Fn Tryz.prog zaH [] [x0,x1] r Ho :=
 zh mixed zbt (fn:=Tryz.f160) (by kernel_rfl) (by kernel_rfl) (by rw [zd2]; exact h)
end Go.Proofs.YtdmgbhamigegfaaGreatDoor
end

section
/- Made by program (Gen.lean): functions of the dump, over trees. -/
set_option maxRecDepth 4000
set_option linter.unusedVariables false
namespace Go.Proofs.YtdmgbhamigegfaaGreatDoor
open Go Go.Abs
noncomputable def zb4:Array Oper:=opsOf (cl (Tryz.f141.body.getD .skip))
noncomputable def zaW:Array Oper:=opsOf (cl (cl (cl (cr (Tryz.f141.body.getD .skip)))))
noncomputable def zaX:Array Oper:=opsOf (cl (cl (cl (cr (cr (cl (cl (cr (Tryz.f141.body.getD .skip)))))))))
noncomputable def zb5:Array Oper:=opsOf (cl (cr (cl (cl (cr (cr (cl (cl (cr (Tryz.f141.body.getD .skip))))))))))
noncomputable def zaY:Array Oper:=opsOf (cr (cr (cr (cl (cl (cr (Tryz.f141.body.getD .skip)))))))
theorem zew:Tryz.f141.body=some (.seq (.region 0 zb4 false) (.block 0 (.loop (.seq (.region 1 zaW false) (.seq (.cond (.tmp 8) .skip (.exit 0)) (.seq (.block 1 (.seq (.region 2 zaX false) (.seq (.region 3 zb5 false) (.cond (.tmp 14) .ret .skip)))) (.region 4 zaY false))))))):=by kernel_rfl
theorem zed (j0 j1 j2 j3 j4 j5 j6 j7 j8 j9 j10 j11 j12 j13 j14 j15:AV) (H:List Ob) (K:List AV→List Ob→Prop):zad Tryz.prog zaW false [j0,j1,j2,j3,j4,j5,j6,j7,j8,j9,j10,j11,j12,j13,j14,j15] H K=(
 aBin false false .lss j7 j6 fun v0 =>
 K [j0,j1,j2,j3,j4,j5,j6,j7,v0,j9,j10,j11,j12,j13,j14,j15] H):=by kernel_rfl
theorem zee (j0 j1 j2 j3 j4 j5 j6 j7 j8 j9 j10 j11 j12 j13 j14 j15:AV) (H:List Ob) (K:List AV→List Ob→Prop):zad Tryz.prog zaX false [j0,j1,j2,j3,j4,j5,j6,j7,j8,j9,j10,j11,j12,j13,j14,j15] H K=(
 zb 5 j5 j7 fun v0 =>
 aLoad true 5 v0 H fun v1 =>
 zy [(.p (.int .i64 0)),(.p (.int .i64 0)),(.p (.bool false)),(.p (.str [])),(.full [])] H fun v2 h3 =>
 zi 5 v2 v1 h3 fun _ h5 =>
 K [j0,j1,j2,j3,v2,j5,j6,j7,j8,v0,v1,j11,j12,j13,j14,j15] h5):=by kernel_rfl
theorem zef (j0 j1 j2 j3 j4 j5 j6 j7 j8 j9 j10 j11 j12 j13 j14 j15:AV) (H:List Ob) (K:List AV→List Ob→Prop):zad Tryz.prog zaY false [j0,j1,j2,j3,j4,j5,j6,j7,j8,j9,j10,j11,j12,j13,j14,j15] H K=(
 aBin false false .add j7 (.p (.int .i64 1)) fun v0 =>
 K [j0,j1,j2,j3,j4,j5,j6,v0,j8,j9,j10,j11,j12,j13,j14,v0] H):=by kernel_rfl
noncomputable def zck:Array Oper:=opsOf (cl (Tryz.f147.body.getD .skip))
noncomputable def za6:Array Oper:=opsOf (cl (cl (cl (cr (Tryz.f147.body.getD .skip)))))
noncomputable def za7:Array Oper:=opsOf (cl (cl (cl (cr (cr (cl (cl (cr (Tryz.f147.body.getD .skip)))))))))
noncomputable def zcl:Array Oper:=opsOf (cl (cr (cl (cl (cr (cr (cl (cl (cr (Tryz.f147.body.getD .skip))))))))))
noncomputable def za8:Array Oper:=opsOf (cr (cr (cr (cl (cl (cr (Tryz.f147.body.getD .skip)))))))
theorem zfi:Tryz.f147.body=some (.seq (.region 0 zck false) (.block 0 (.loop (.seq (.region 1 za6 false) (.seq (.cond (.tmp 8) .skip (.exit 0)) (.seq (.block 1 (.seq (.region 2 za7 false) (.seq (.region 3 zcl false) (.cond (.tmp 14) .ret .skip)))) (.region 4 za8 false))))))):=by kernel_rfl
theorem zeJ (j0 j1 j2 j3 j4 j5 j6 j7 j8 j9 j10 j11 j12 j13 j14 j15:AV) (H:List Ob) (K:List AV→List Ob→Prop):zad Tryz.prog za6 false [j0,j1,j2,j3,j4,j5,j6,j7,j8,j9,j10,j11,j12,j13,j14,j15] H K=(
 aBin false false .lss j7 j6 fun v0 =>
 K [j0,j1,j2,j3,j4,j5,j6,j7,v0,j9,j10,j11,j12,j13,j14,j15] H):=by kernel_rfl
theorem zeK (j0 j1 j2 j3 j4 j5 j6 j7 j8 j9 j10 j11 j12 j13 j14 j15:AV) (H:List Ob) (K:List AV→List Ob→Prop):zad Tryz.prog za7 false [j0,j1,j2,j3,j4,j5,j6,j7,j8,j9,j10,j11,j12,j13,j14,j15] H K=(
 zb 6 j5 j7 fun v0 =>
 aLoad true 6 v0 H fun v1 =>
 zy [(.p (.int .i64 0)),(.p (.int .i64 0)),(.p (.int .i64 0)),(.p (.bool false)),(.p (.str [])),(.full [])] H fun v2 h3 =>
 zi 6 v2 v1 h3 fun _ h5 =>
 K [j0,j1,j2,j3,v2,j5,j6,j7,j8,v0,v1,j11,j12,j13,j14,j15] h5):=by kernel_rfl
theorem zeL (j0 j1 j2 j3 j4 j5 j6 j7 j8 j9 j10 j11 j12 j13 j14 j15:AV) (H:List Ob) (K:List AV→List Ob→Prop):zad Tryz.prog za8 false [j0,j1,j2,j3,j4,j5,j6,j7,j8,j9,j10,j11,j12,j13,j14,j15] H K=(
 aBin false false .add j7 (.p (.int .i64 1)) fun v0 =>
 K [j0,j1,j2,j3,j4,j5,j6,v0,j8,j9,j10,j11,j12,j13,j14,v0] H):=by kernel_rfl
noncomputable def zaN:Array Oper:=opsOf (cl (Tryz.f170.body.getD .skip))
noncomputable def zaO:Array Oper:=opsOf (cl (cl (cr (Tryz.f170.body.getD .skip))))
noncomputable def zae:Array Oper:=opsOf (rfA (cl (cr (cl (cr (Tryz.f170.body.getD .skip))))))
noncomputable def zaf:Array Oper:=opsOf (cl (rfB (cl (cr (cl (cr (Tryz.f170.body.getD .skip)))))))
noncomputable def zaP:Array Oper:=opsOf (cl (cr (cr (Tryz.f170.body.getD .skip))))
theorem zeb:Tryz.f170.body=some (.seq (.region 0 zaN false) (.seq (.seq (.region 1 zaO false) (.block 0 (.rangeFunc (.tmp 6) #[7] (.region 2 zae false) (.block 1 (.region 3 zaf true))))) (.seq (.region 4 zaP false) .ret))):=by kernel_rfl
theorem zdW (j0 j1 j2 j3 j4 j5 j6 j7 j8 j9 j10 j11 j12 j13 j14:AV) (H:List Ob) (K:List AV→List Ob→Prop):zad Tryz.prog zaN false [j0,j1,j2,j3,j4,j5,j6,j7,j8,j9,j10,j11,j12,j13,j14] H K=(
 aBox j0 H fun v0 h1 =>
 K [j0,j1,v0,j3,(.full []),j5,j6,j7,j8,j9,j10,j11,j12,j13,j14] h1):=by kernel_rfl
theorem zdX (j0 j1 j2 j3 j4 j5 j6 j7 j8 j9 j10 j11 j12 j13 j14:AV) (H:List Ob) (K:List AV→List Ob→Prop):zad Tryz.prog zaO false [j0,j1,j2,j3,j4,j5,j6,j7,j8,j9,j10,j11,j12,j13,j14] H K=(
 K [j0,j1,j2,j3,j4,j5,j1,j7,j8,j9,j10,j11,j12,j13,j14] H):=by kernel_rfl
theorem zdY (j0 j1 j2 j3 j4 j5 j6 j7 j8 j9 j10 j11 j12 j13 j14:AV) (H:List Ob) (K:List AV→List Ob→Prop):zad Tryz.prog zae false [j0,j1,j2,j3,j4,j5,j6,j7,j8,j9,j10,j11,j12,j13,j14] H K=(
 zy [(.p (.int .i64 0)),(.p (.int .i64 0)),(.p (.bool false)),(.p (.str [])),(.full [])] H fun v0 h1 =>
 zi 5 v0 j7 h1 fun _ h3 =>
 K [j0,j1,j2,j3,j4,v0,j6,j7,j8,j9,j10,j11,j12,j13,j14] h3):=by kernel_rfl
theorem zdi:ze4 zae=true:=by kernel_rfl
theorem zbx (j0 j1 j2 j3 j4 j5 j6 j7 j8 j9 j10 j11 j12 j13 j14:AV) (H:List Ob) (K:List AV→List Ob→Prop):aAnyR Tryz.prog zaf [j0,j1,j2,j3,j4,j5,j6,j7,j8,j9,j10,j11,j12,j13,j14] H K=(
 (aLoad false 1 j2 H fun v0 =>
 aLen true false v0 fun v1 =>
 (aLoad true 5 j5 H fun v2 =>
 zk 5 [(.agg [(.p (.int .i64 0)),(.p (.int .i64 0)),(.p (.bool false)),(.p (.str [])),(.full [])])] fun v3 =>
 zH false 5 64 v0 v3 H fun v4 h5 =>
 zb 5 v4 v1 fun v6 =>
 (zi 5 v6 v2 h5 fun _ h8 =>
 zi 1 j2 v4 h8 fun _ h10 =>
 K [j0,j1,j2,j3,j4,j5,j6,j7,v0,v2,v1,v3,v4,v6,j14] h10) ∧
 (zi 1 j2 v4 h5 fun _ h12 =>
 zi 5 v6 v2 h12 fun _ h14 =>
 K [j0,j1,j2,j3,j4,j5,j6,j7,v0,v2,v1,v3,v4,v6,j14] h14)) ∧
 (zk 5 [(.agg [(.p (.int .i64 0)),(.p (.int .i64 0)),(.p (.bool false)),(.p (.str [])),(.full [])])] fun v15 =>
 aLoad true 5 j5 H fun v16 =>
 zH false 5 64 v0 v15 H fun v17 h18 =>
 zb 5 v17 v1 fun v19 =>
 (zi 5 v19 v16 h18 fun _ h21 =>
 zi 1 j2 v17 h21 fun _ h23 =>
 K [j0,j1,j2,j3,j4,j5,j6,j7,v0,v16,v1,v15,v17,v19,j14] h23) ∧
 (zi 1 j2 v17 h18 fun _ h25 =>
 zi 5 v19 v16 h25 fun _ h27 =>
 K [j0,j1,j2,j3,j4,j5,j6,j7,v0,v16,v1,v15,v17,v19,j14] h27))) ∧
 (aLoad true 5 j5 H fun v28 =>
 (aLoad false 1 j2 H fun v29 =>
 aLen true false v29 fun v30 =>
 zk 5 [(.agg [(.p (.int .i64 0)),(.p (.int .i64 0)),(.p (.bool false)),(.p (.str [])),(.full [])])] fun v31 =>
 zH false 5 64 v29 v31 H fun v32 h33 =>
 zb 5 v32 v30 fun v34 =>
 (zi 5 v34 v28 h33 fun _ h36 =>
 zi 1 j2 v32 h36 fun _ h38 =>
 K [j0,j1,j2,j3,j4,j5,j6,j7,v29,v28,v30,v31,v32,v34,j14] h38) ∧
 (zi 1 j2 v32 h33 fun _ h40 =>
 zi 5 v34 v28 h40 fun _ h42 =>
 K [j0,j1,j2,j3,j4,j5,j6,j7,v29,v28,v30,v31,v32,v34,j14] h42)) ∧
 (zk 5 [(.agg [(.p (.int .i64 0)),(.p (.int .i64 0)),(.p (.bool false)),(.p (.str [])),(.full [])])] fun v43 =>
 aLoad false 1 j2 H fun v44 =>
 aLen true false v44 fun v45 =>
 zH false 5 64 v44 v43 H fun v46 h47 =>
 zb 5 v46 v45 fun v48 =>
 (zi 5 v48 v28 h47 fun _ h50 =>
 zi 1 j2 v46 h50 fun _ h52 =>
 K [j0,j1,j2,j3,j4,j5,j6,j7,v44,v28,v45,v43,v46,v48,j14] h52) ∧
 (zi 1 j2 v46 h47 fun _ h54 =>
 zi 5 v48 v28 h54 fun _ h56 =>
 K [j0,j1,j2,j3,j4,j5,j6,j7,v44,v28,v45,v43,v46,v48,j14] h56))) ∧
 (zk 5 [(.agg [(.p (.int .i64 0)),(.p (.int .i64 0)),(.p (.bool false)),(.p (.str [])),(.full [])])] fun v57 =>
 (aLoad false 1 j2 H fun v58 =>
 aLen true false v58 fun v59 =>
 aLoad true 5 j5 H fun v60 =>
 zH false 5 64 v58 v57 H fun v61 h62 =>
 zb 5 v61 v59 fun v63 =>
 (zi 5 v63 v60 h62 fun _ h65 =>
 zi 1 j2 v61 h65 fun _ h67 =>
 K [j0,j1,j2,j3,j4,j5,j6,j7,v58,v60,v59,v57,v61,v63,j14] h67) ∧
 (zi 1 j2 v61 h62 fun _ h69 =>
 zi 5 v63 v60 h69 fun _ h71 =>
 K [j0,j1,j2,j3,j4,j5,j6,j7,v58,v60,v59,v57,v61,v63,j14] h71)) ∧
 (aLoad true 5 j5 H fun v72 =>
 aLoad false 1 j2 H fun v73 =>
 aLen true false v73 fun v74 =>
 zH false 5 64 v73 v57 H fun v75 h76 =>
 zb 5 v75 v74 fun v77 =>
 (zi 5 v77 v72 h76 fun _ h79 =>
 zi 1 j2 v75 h79 fun _ h81 =>
 K [j0,j1,j2,j3,j4,j5,j6,j7,v73,v72,v74,v57,v75,v77,j14] h81) ∧
 (zi 1 j2 v75 h76 fun _ h83 =>
 zi 5 v77 v72 h83 fun _ h85 =>
 K [j0,j1,j2,j3,j4,j5,j6,j7,v73,v72,v74,v57,v75,v77,j14] h85)))):=by kernel_rfl
theorem zdj:ze4 zaf=true:=by kernel_rfl
theorem zdZ (j0 j1 j2 j3 j4 j5 j6 j7 j8 j9 j10 j11 j12 j13 j14:AV) (H:List Ob) (K:List AV→List Ob→Prop):zad Tryz.prog zaP false [j0,j1,j2,j3,j4,j5,j6,j7,j8,j9,j10,j11,j12,j13,j14] H K=(
 aLoad false 1 j2 H fun v0 =>
 K [j0,j1,j2,j3,v0,j5,j6,j7,j8,j9,j10,j11,j12,j13,v0] H):=by kernel_rfl
noncomputable def za0:Array Oper:=opsOf (cl (Tryz.f174.body.getD .skip))
noncomputable def za1:Array Oper:=opsOf (cl (cl (cr (Tryz.f174.body.getD .skip))))
noncomputable def zaj:Array Oper:=opsOf (rfA (cl (cr (cl (cr (Tryz.f174.body.getD .skip))))))
noncomputable def zak:Array Oper:=opsOf (cl (rfB (cl (cr (cl (cr (Tryz.f174.body.getD .skip)))))))
noncomputable def za2:Array Oper:=opsOf (cl (cr (cr (Tryz.f174.body.getD .skip))))
theorem zeG:Tryz.f174.body=some (.seq (.region 0 za0 false) (.seq (.seq (.region 1 za1 false) (.block 0 (.rangeFunc (.tmp 6) #[7] (.region 2 zaj false) (.block 1 (.region 3 zak false))))) (.seq (.region 4 za2 false) .ret))):=by kernel_rfl
theorem zeq (j0 j1 j2 j3 j4 j5 j6 j7 j8 j9 j10 j11 j12:AV) (H:List Ob) (K:List AV→List Ob→Prop):zad Tryz.prog za0 false [j0,j1,j2,j3,j4,j5,j6,j7,j8,j9,j10,j11,j12] H K=(
 aBox j0 H fun v0 h1 =>
 K [j0,j1,v0,j3,(.full []),j5,j6,j7,j8,j9,j10,j11,j12] h1):=by kernel_rfl
theorem zer (j0 j1 j2 j3 j4 j5 j6 j7 j8 j9 j10 j11 j12:AV) (H:List Ob) (K:List AV→List Ob→Prop):zad Tryz.prog za1 false [j0,j1,j2,j3,j4,j5,j6,j7,j8,j9,j10,j11,j12] H K=(
 K [j0,j1,j2,j3,j4,j5,j1,j7,j8,j9,j10,j11,j12] H):=by kernel_rfl
theorem zes (j0 j1 j2 j3 j4 j5 j6 j7 j8 j9 j10 j11 j12:AV) (H:List Ob) (K:List AV→List Ob→Prop):zad Tryz.prog zaj false [j0,j1,j2,j3,j4,j5,j6,j7,j8,j9,j10,j11,j12] H K=(
 zy [(.p (.int .i64 0)),(.p (.int .i64 0)),(.p (.int .i64 0)),(.p (.bool false)),(.p (.str [])),(.full [])] H fun v0 h1 =>
 zi 6 v0 j7 h1 fun _ h3 =>
 K [j0,j1,j2,j3,j4,v0,j6,j7,j8,j9,j10,j11,j12] h3):=by kernel_rfl
theorem zdH:ze4 zaj=true:=by kernel_rfl
theorem zbJ (j0 j1 j2 j3 j4 j5 j6 j7 j8 j9 j10 j11 j12:AV) (H:List Ob) (K:List AV→List Ob→Prop):zad Tryz.prog zak false [j0,j1,j2,j3,j4,j5,j6,j7,j8,j9,j10,j11,j12] H K=(
 aLoad false 1 j2 H fun v0 =>
 aLoad true 6 j5 H fun v1 =>
 zk 6 [v1] fun v2 =>
 zH false 6 72 v0 v2 H fun v3 h4 =>
 zi 1 j2 v3 h4 fun _ h6 =>
 K [j0,j1,j2,j3,j4,j5,j6,j7,v0,v1,v2,v3,j12] h6):=by kernel_rfl
theorem zdI:ze4 zak=true:=by kernel_rfl
theorem zet (j0 j1 j2 j3 j4 j5 j6 j7 j8 j9 j10 j11 j12:AV) (H:List Ob) (K:List AV→List Ob→Prop):zad Tryz.prog za2 false [j0,j1,j2,j3,j4,j5,j6,j7,j8,j9,j10,j11,j12] H K=(
 aLoad false 1 j2 H fun v0 =>
 K [j0,j1,j2,j3,v0,j5,j6,j7,j8,j9,j10,j11,v0] H):=by kernel_rfl
end Go.Proofs.YtdmgbhamigegfaaGreatDoor
end

section
/- Made by program (Gen.lean): functions of the dump, over trees. -/
set_option maxRecDepth 4000
set_option linter.unusedVariables false
namespace Go.Proofs.YtdmgbhamigegfaaGreatDoor
open Go Go.Abs
def zaK (q1s7 y0:AV) (H:List Ob) (B1:List AV→List Ob→Prop) (K:AV→List Ob→Prop):Prop :=
 aLen false false q1s7 fun v12 =>
 aBin false false .lss y0 v12 fun v13 =>
 ze v13
 ((zbg false 1 q1s7 (some y0) none none fun v14 =>
 zbg false 1 q1s7 none (some y0) none fun v15 =>
 aCopy 1 v14 v15 H fun v16 h17 =>
 aBin false false .add y0 v16 fun v18 =>
 B1 [v18] h17) ∧
 (zbg false 1 q1s7 none (some y0) none fun v19 =>
 zbg false 1 q1s7 (some y0) none none fun v20 =>
 aCopy 1 v20 v19 H fun v21 h22 =>
 aBin false false .add y0 v21 fun v23 =>
 B1 [v23] h22))
 (K q1s7 H)
def zgt (j2s0 j2s6:AV) (H:List Ob) (K:AV→List Ob→Prop):Prop :=
 zhi .i64 j2s6 fun v7 =>
 aMake 1 [(.p (.int .i64 0))] v7 v7 H fun v8 h9 =>
 aCopy 1 v8 j2s0 h9 fun v10 h11 =>
 zD 1 [v10] h11 fun xs H B1=>zaK v8 (xs.getD 0 Z) H B1 K
def zgs (j1s0 j1s1:AV) (H:List Ob) (K:AV→List Ob→Prop):Prop :=
 aLen false false j1s0 fun v0 =>
 zhi .u64 v0 fun v1 =>
 zhi .u64 j1s1 fun v2 =>
 aCall Tryz.prog (.p (.func zjA [])) [v1,v2] H fun v3 h4 =>
 zB v3 0 fun v5 =>
 zB v3 1 fun v6 =>
 aBin false false .gtr v5 (.p (.int .u64 0)) fun v24 =>
 zm false v24 (fun Q25 =>
 aBin false false .gtr v6 (.p (.int .u64 9223372036854775807)) fun v26 =>
 (h4=h4∧Q25 v26)) fun v27 =>
 ze v27
 (False)
 (zgt j1s0 v6 h4 K)
def zev (x0 x1:AV) (H:List Ob) (K:AV→List Ob→Prop):Prop :=
 aBin false false .lss x1 (.p (.int .i64 0)) fun v28 =>
 ze v28
 (False)
 (zgs x0 x1 H K)
def zfF:Nat→List Nat:=fun k=>match k with | 8=>[8] | 3000009=>[1000] | _=>[]
theorem zmb (x0 x1:AV) (H:List Ob) (r:AV) (Ho:List Ob):aBody Tryz.prog zfF Tryz.f38 H [x0,x1] r Ho=zev x0 x1 H (fun v H'=>Gives H.length v H' r Ho):=by kernel_rfl
theorem zmc {x0 x1:AV} {r:AV} {Ho:List Ob} (h:zev x0 x1 [] (fun v H'=>Gives 0 v H' r Ho)):Abs.Fn Tryz.prog zdE [] [x0,x1] r Ho :=
 zh mixed zfF (fn:=Tryz.f38) (by kernel_rfl) (by kernel_rfl) (by rw [zmb]; exact h)
def zlY (x0 x1:AV) (H:List Ob) (K:AV→List Ob→Prop):Prop :=
 aCall Tryz.prog (.p (.func zhw [])) [x0,x1] H fun v0 h1 =>
 zB v0 0 fun v2 =>
 zB v0 1 fun v3 =>
 K (.tup [v2,v3]) h1
def zls:Nat→List Nat:=fun _=>[]
theorem zt7 (x0 x1:AV) (H:List Ob) (r:AV) (Ho:List Ob):aBody Tryz.prog zls Tryz.f74 H [x0,x1] r Ho=zlY x0 x1 H (fun v H'=>Gives H.length v H' r Ho):=by kernel_rfl
theorem zt8 {x0 x1:AV} {r:AV} {Ho:List Ob} (h:zlY x0 x1 [] (fun v H'=>Gives 0 v H' r Ho)):Abs.Fn Tryz.prog zjA [] [x0,x1] r Ho :=
 zh mixed zls (fn:=Tryz.f74) (by kernel_rfl) (by kernel_rfl) (by rw [zt7]; exact h)
def zjz (x0 x1:AV) (H:List Ob) (K:AV→List Ob→Prop):Prop :=
 aBin false false .and x0 (.p (.int .u64 4294967295)) fun v0 =>
 aBin false false .shr x0 (.p (.int .u64 32)) fun v1 =>
 aBin false false .and x1 (.p (.int .u64 4294967295)) fun v2 =>
 aBin false false .shr x1 (.p (.int .u64 32)) fun v3 =>
 aBin false false .mul v0 v2 fun v4 =>
 aBin false false .mul v1 v2 fun v5 =>
 aBin false false .shr v4 (.p (.int .u64 32)) fun v6 =>
 aBin false false .add v5 v6 fun v7 =>
 aBin false false .and v7 (.p (.int .u64 4294967295)) fun v8 =>
 aBin false false .shr v7 (.p (.int .u64 32)) fun v9 =>
 aBin false false .mul v0 v3 fun v10 =>
 aBin false false .add v8 v10 fun v11 =>
 aBin false false .mul v1 v3 fun v12 =>
 aBin false false .add v12 v9 fun v13 =>
 aBin false false .shr v11 (.p (.int .u64 32)) fun v14 =>
 aBin false false .add v13 v14 fun v15 =>
 aBin false false .mul x0 x1 fun v16 =>
 K (.tup [v15,v16]) H
def zjP:Nat→List Nat:=fun _=>[]
theorem zr4 (x0 x1:AV) (H:List Ob) (r:AV) (Ho:List Ob):aBody Tryz.prog zjP Tryz.f118 H [x0,x1] r Ho=zjz x0 x1 H (fun v H'=>Gives H.length v H' r Ho):=by kernel_rfl
theorem zr5 {x0 x1:AV} {r:AV} {Ho:List Ob} (h:zjz x0 x1 [] (fun v H'=>Gives 0 v H' r Ho)):Abs.Fn Tryz.prog zhw [] [x0,x1] r Ho :=
 zh mixed zjP (fn:=Tryz.f118) (by kernel_rfl) (by kernel_rfl) (by rw [zr4]; exact h)
end Go.Proofs.YtdmgbhamigegfaaGreatDoor
end

section
/- Made by program (Gen.lean): functions of the dump, over trees. -/
set_option maxRecDepth 4000
set_option linter.unusedVariables false
namespace Go.Proofs.YtdmgbhamigegfaaGreatDoor
open Go Go.Abs
def zgj (q1s0 q1s3 q1s4 y0 y1:AV) (H:List Ob) (B1:List AV→List Ob→Prop) (K:AV→List Ob→Prop):Prop :=
 aLen false false q1s0 fun v32 =>
 aBin false false .lss y1 v32 fun v33 =>
 ze v33
 (zb 1 q1s0 y1 fun v34 =>
 aLoad false 1 v34 H fun v35 =>
 zhi .i64 v35 fun v36 =>
 zJ Tryz.prog (.p (.func zcY [])) [v36] fun v37 =>
 zb 1 q1s0 y1 fun v38 =>
 aLoad false 1 v38 H fun v39 =>
 zhi .i64 v39 fun v40 =>
 aBin false false .sub (.p (.int .i64 0)) v40 fun v41 =>
 zJ Tryz.prog (.p (.func zcY [])) [v41] fun v42 =>
 zk 5 [v37,v42] fun v43 =>
 aCalm [y0,v43] <|
 zH false 5 64 y0 v43 H fun v44 h45 =>
 aBin false false .add y1 (.p (.int .i64 1)) fun v46 =>
 B1 [v44,v46] h45)
 (aCall Tryz.prog (.p (.func zhD [])) [q1s3] H fun v47 h48 =>
 zm true v47 (fun Q49 =>
 za 0 q1s4 fun v50 =>
 aLoad false 1 v50 h48 fun v51 =>
 aLenS false v51 fun v52 =>
 aBin false false .eql v52 (.p (.int .i64 1)) fun v53 =>
 (h48=h48∧Q49 v53)) fun v54 =>
 zm true v54 (fun Q55 =>
 aLoad true 2 q1s4 h48 fun v56 =>
 aCall Tryz.prog (.p (.func zdO [])) [v56] h48 fun v57 h58 =>
 aCall Tryz.prog (.p (.func zdP [])) [y0] h58 fun v59 h60 =>
 aCall Tryz.prog (.p (.func ze7 [])) [v59] h60 fun v61 h62 =>
 zk 1 [v61] fun v63 =>
 zp [(.full []),(.full [])] [(0,1,v63)] fun v64 =>
 aCall Tryz.prog (.p (.func zdb [])) [v57,v64] h62 fun v65 h66 =>
 (h66=h48∧Q55 v65)) fun v67 =>
 K v67 h48)
def zel (x0:AV) (H:List Ob) (K:AV→List Ob→Prop):Prop :=
 aCall Tryz.prog (.p (.func zfW [])) [] H fun v0 h1 =>
 aUn .not v0 fun v2 =>
 ze v2
 (K (.p (.bool false)) h1)
 (aLen false false x0 fun v3 =>
 aBin false false .gtr v3 (.p (.int .i64 60)) fun v4 =>
 ze v4
 (K (.p (.bool true)) h1)
 (zp [(.p (.int .i64 0)),(.full [])] [(0,1,(.p (.int .i64 1)))] fun v5 =>
 zp [(.p (.int .i64 0)),(.p (.str [])),(.p (.int .i64 0)),(.full []),(.full []),(.p (.str [])),(.p (.int .i64 0)),(.p (.int .i64 0)),(.p (.bool false)),(.p (.str [])),(.full []),(.p (.int .i64 0)),(.full []),(.p (.int .i64 0)),(.p (.int .i64 0))] [(0,1,(.p (.int .i64 1))),(1,1,(.p (.str [115]))),(2,2,v5)] fun v6 =>
 zp [(.p (.str [])),(.p (.int .i64 0)),(.p (.str [])),(.p (.int .i64 0)),(.full []),(.full []),(.p (.str [])),(.p (.int .i64 0)),(.p (.int .i64 0)),(.p (.bool false)),(.p (.str [])),(.full []),(.p (.int .i64 0)),(.full []),(.p (.int .i64 0)),(.p (.int .i64 0)),(.full []),(.p (.int .i64 0)),(.p (.int .i64 0)),(.p (.str [])),(.p (.bool false))] [(1,15,v6),(17,1,(.p (.int .i64 1))),(18,1,(.p (.int .i64 3))),(19,1,(.p (.str [103])))] fun v7 =>
 aCall Tryz.prog (.p (.func zhB [])) [] h1 fun v8 h9 =>
 zk 8 [v8] fun v10 =>
 aCall Tryz.prog (.p (.func zgz [])) [(.p (.str [110,101,103])),v10] h9 fun v11 h12 =>
 zk 8 [v11] fun v13 =>
 zp [(.p (.int .i64 0)),(.p (.str [])),(.p (.int .i64 0)),(.full []),(.full []),(.p (.str [])),(.p (.int .i64 0)),(.p (.int .i64 0)),(.p (.bool false)),(.p (.str [])),(.full []),(.p (.int .i64 0)),(.full []),(.p (.int .i64 0)),(.p (.int .i64 0))] [(0,1,(.p (.int .i64 2))),(4,1,v13)] fun v14 =>
 zk 1 [(.p (.int .i64 0))] fun v15 =>
 zp [(.p (.str [])),(.p (.int .i64 0)),(.p (.str [])),(.p (.int .i64 0)),(.full []),(.full []),(.p (.str [])),(.p (.int .i64 0)),(.p (.int .i64 0)),(.p (.bool false)),(.p (.str [])),(.full []),(.p (.int .i64 0)),(.full []),(.p (.int .i64 0)),(.p (.int .i64 0)),(.full []),(.p (.int .i64 0)),(.p (.int .i64 0)),(.p (.str [])),(.p (.bool false))] [(1,15,v14),(16,1,v15),(17,1,(.p (.int .i64 1))),(18,1,(.p (.int .i64 1))),(19,1,(.p (.str [103])))] fun v16 =>
 zp [(.p (.int .i64 0)),(.p (.str [])),(.p (.int .i64 0)),(.full []),(.full []),(.p (.str [])),(.p (.int .i64 0)),(.p (.int .i64 0)),(.p (.bool false)),(.p (.str [])),(.full []),(.p (.int .i64 0)),(.full []),(.p (.int .i64 0)),(.p (.int .i64 0))] [(0,1,(.p (.int .i64 8)))] fun v17 =>
 zk 1 [(.p (.int .i64 0)),(.p (.int .i64 1))] fun v18 =>
 zp [(.p (.str [])),(.p (.int .i64 0)),(.p (.str [])),(.p (.int .i64 0)),(.full []),(.full []),(.p (.str [])),(.p (.int .i64 0)),(.p (.int .i64 0)),(.p (.bool false)),(.p (.str [])),(.full []),(.p (.int .i64 0)),(.full []),(.p (.int .i64 0)),(.p (.int .i64 0)),(.full []),(.p (.int .i64 0)),(.p (.int .i64 0)),(.p (.str [])),(.p (.bool false))] [(1,15,v17),(16,1,v18),(17,1,(.p (.int .i64 1))),(18,1,(.p (.int .i64 1))),(19,1,(.p (.str [103])))] fun v19 =>
 zp [(.p (.int .i64 0)),(.p (.str [])),(.p (.int .i64 0)),(.full []),(.full []),(.p (.str [])),(.p (.int .i64 0)),(.p (.int .i64 0)),(.p (.bool false)),(.p (.str [])),(.full []),(.p (.int .i64 0)),(.full []),(.p (.int .i64 0)),(.p (.int .i64 0))] [(0,1,(.p (.int .i64 9))),(1,1,(.p (.str [97])))] fun v20 =>
 zk 1 [(.p (.int .i64 2))] fun v21 =>
 zp [(.p (.str [])),(.p (.int .i64 0)),(.p (.str [])),(.p (.int .i64 0)),(.full []),(.full []),(.p (.str [])),(.p (.int .i64 0)),(.p (.int .i64 0)),(.p (.bool false)),(.p (.str [])),(.full []),(.p (.int .i64 0)),(.full []),(.p (.int .i64 0)),(.p (.int .i64 0)),(.full []),(.p (.int .i64 0)),(.p (.int .i64 0)),(.p (.str [])),(.p (.bool false))] [(1,15,v20),(16,1,v21),(17,1,(.p (.int .i64 1))),(18,1,(.p (.int .i64 1))),(19,1,(.p (.str [103])))] fun v22 =>
 zk 21 [v7,v16,v19,v22] fun v23 =>
 aCall Tryz.prog (.p (.func zgJ [])) [x0] h12 fun v24 h25 =>
 aCall Tryz.prog (.p (.func zfr [])) [v23,v24] h25 fun v26 h27 =>
 zy [(.full []),(.full [])] h27 fun v28 h29 =>
 zi 2 v28 v26 h29 fun _ h31 =>
 zD 2 [(.full []),(.p (.int .i64 0))] h31 fun xs H B1=>zgj x0 v23 v28 (xs.getD 0 Z) (xs.getD 1 Z) H B1 K))
def zfA:Nat→List Nat:=fun k=>match k with | 9=>[5,6] | _=>[]
theorem zlZ (x0:AV) (H:List Ob) (r:AV) (Ho:List Ob):aBody Tryz.prog zfA Tryz.f4 H [x0] r Ho=zel x0 H (fun v H'=>Gives H.length v H' r Ho):=by kernel_rfl
theorem zl0 {x0:AV} {r:AV} {Ho:List Ob} (h:zel x0 [] (fun v H'=>Gives 0 v H' r Ho)):Abs.Fn Tryz.prog zg7 [] [x0] r Ho :=
 zh mixed zfA (fn:=Tryz.f4) (by kernel_rfl) (by kernel_rfl) (by rw [zlZ]; exact h)
def zhy (H:List Ob) (K:AV→List Ob→Prop):Prop :=
 aCall Tryz.prog (.p (.func zgK [])) [] H fun v0 h1 =>
 aCall Tryz.prog (.p (.func zcY [])) [(.p (.int .i64 5))] h1 fun v2 h3 =>
 aCall Tryz.prog (.p (.func zcY [])) [(.p (.int .i64 3))] h3 fun v4 h5 =>
 zk 5 [v2,v4] fun v6 =>
 zp [(.p (.str [])),(.full [])] [(0,1,(.p (.str [115]))),(1,1,v6)] fun v7 =>
 zk 2 [v7] fun v8 =>
 aCall Tryz.prog (.p (.func zfr [])) [v0,v8] h5 fun v9 h10 =>
 zy [(.full []),(.full [])] h10 fun v11 h12 =>
 zi 2 v11 v9 h12 fun _ h14 =>
 zk 1 [(.p (.int .i64 1)),(.p (.int .i64 0)),(.p (.int .i64 0)),(.p (.int .i64 0))] fun v15 =>
 zk 1 [v15] fun v16 =>
 aCall Tryz.prog (.p (.func zfq [])) [v0,v8,v16,(.p (.bool false))] h14 fun v17 h18 =>
 zy [(.full []),(.full [])] h18 fun v19 h20 =>
 zi 2 v19 v17 h20 fun _ h22 =>
 aCall Tryz.prog (.p (.func zj9 [])) [v0,v8] h22 fun v23 h24 =>
 aBin false false .eql v23 (.p (.int .i64 0)) fun v25 =>
 zm true v25 (fun Q26 =>
 aCall Tryz.prog (.p (.func zj9 [])) [v0,(.full [])] h24 fun v27 h28 =>
 aBin false false .eql v27 (.p (.int .i64 6)) fun v29 =>
 (h28=h24∧Q26 v29)) fun v30 =>
 zm true v30 (fun Q31 =>
 za 0 v11 fun v32 =>
 aLoad false 1 v32 h24 fun v33 =>
 aLenS false v33 fun v34 =>
 aBin false false .eql v34 (.p (.int .i64 1)) fun v35 =>
 (h24=h24∧Q31 v35)) fun v36 =>
 zm true v36 (fun Q37 =>
 za 0 v11 fun v38 =>
 aLoad false 1 v38 h24 fun v39 =>
 zb 1 v39 (.p (.int .i64 0)) fun v40 =>
 aLoad false 1 v40 h24 fun v41 =>
 aLenS false v41 fun v42 =>
 aBin false false .eql v42 (.p (.int .i64 2)) fun v43 =>
 (h24=h24∧Q37 v43)) fun v44 =>
 zm true v44 (fun Q45 =>
 za 0 v11 fun v46 =>
 aLoad false 1 v46 h24 fun v47 =>
 zb 1 v47 (.p (.int .i64 0)) fun v48 =>
 aLoad false 1 v48 h24 fun v49 =>
 zb 5 v49 (.p (.int .i64 0)) fun v50 =>
 za 1 v50 fun v51 =>
 aLoad false 1 v51 h24 fun v52 =>
 aBin false false .eql v52 (.p (.int .i64 4)) fun v53 =>
 (h24=h24∧Q45 v53)) fun v54 =>
 zm true v54 (fun Q55 =>
 za 1 v11 fun v56 =>
 aLoad false 1 v56 h24 fun v57 =>
 aLenS false v57 fun v58 =>
 aBin false false .eql v58 (.p (.int .i64 0)) fun v59 =>
 (h24=h24∧Q55 v59)) fun v60 =>
 zm true v60 (fun Q61 =>
 za 0 v19 fun v62 =>
 aLoad false 1 v62 h24 fun v63 =>
 aLenS false v63 fun v64 =>
 aBin false false .eql v64 (.p (.int .i64 1)) fun v65 =>
 (h24=h24∧Q61 v65)) fun v66 =>
 zm true v66 (fun Q67 =>
 za 0 v19 fun v68 =>
 aLoad false 1 v68 h24 fun v69 =>
 zb 1 v69 (.p (.int .i64 0)) fun v70 =>
 aLoad false 1 v70 h24 fun v71 =>
 aLenS false v71 fun v72 =>
 aBin false false .eql v72 (.p (.int .i64 1)) fun v73 =>
 (h24=h24∧Q67 v73)) fun v74 =>
 zm true v74 (fun Q75 =>
 za 0 v19 fun v76 =>
 aLoad false 1 v76 h24 fun v77 =>
 zb 1 v77 (.p (.int .i64 0)) fun v78 =>
 aLoad false 1 v78 h24 fun v79 =>
 zb 5 v79 (.p (.int .i64 0)) fun v80 =>
 za 1 v80 fun v81 =>
 aLoad false 1 v81 h24 fun v82 =>
 aBin false false .eql v82 (.p (.int .i64 6)) fun v83 =>
 (h24=h24∧Q75 v83)) fun v84 =>
 zm true v84 (fun Q85 =>
 aLoad true 2 v19 h24 fun v86 =>
 aLoad true 2 v11 h24 fun v87 =>
 aCall Tryz.prog (.p (.func ziJ [])) [v86,v87] h24 fun v88 h89 =>
 (h89=h24∧Q85 v88)) fun v90 =>
 zm true v90 (fun Q91 =>
 aLoad true 2 v11 h24 fun v92 =>
 aLoad true 2 v19 h24 fun v93 =>
 aCall Tryz.prog (.p (.func ziJ [])) [v92,v93] h24 fun v94 h95 =>
 aUn .not v94 fun v96 =>
 (h95=h24∧Q91 v96)) fun v97 =>
 zm true v97 (fun Q98 =>
 aLoad true 2 v11 h24 fun v99 =>
 aLoad true 2 v11 h24 fun v100 =>
 aCall Tryz.prog (.p (.func zlj [])) [v99,v100] h24 fun v101 h102 =>
 (h102=h24∧Q98 v101)) fun v103 =>
 zm true v103 (fun Q104 =>
 aLoad true 2 v11 h24 fun v105 =>
 aLoad true 2 v19 h24 fun v106 =>
 aCall Tryz.prog (.p (.func zlj [])) [v105,v106] h24 fun v107 h108 =>
 aUn .not v107 fun v109 =>
 (h108=h24∧Q104 v109)) fun v110 =>
 zm true v110 (fun Q111 =>
 aCall Tryz.prog (.p (.func zhm [])) [v0,(.p (.int .i64 0)),(.p (.int .i64 5))] h24 fun v112 h113 =>
 aBin false false .eql v112 (.p (.int .i64 1)) fun v114 =>
 (h113=h24∧Q111 v114)) fun v115 =>
 K v115 h24
def zhZ:Nat→List Nat:=fun _=>[]
theorem zpP (H:List Ob) (r:AV) (Ho:List Ob):aBody Tryz.prog zhZ Tryz.f9 H [] r Ho=zhy H (fun v H'=>Gives H.length v H' r Ho):=by kernel_rfl
theorem zpQ {r:AV} {Ho:List Ob} (h:zhy [] (fun v H'=>Gives 0 v H' r Ho)):Abs.Fn Tryz.prog zfW [] [] r Ho :=
 zh mixed zhZ (fn:=Tryz.f9) (by kernel_rfl) (by kernel_rfl) (by rw [zpP]; exact h)
end Go.Proofs.YtdmgbhamigegfaaGreatDoor
end

section
/- Made by program (Gen.lean): functions of the dump, over trees. -/
set_option maxRecDepth 4000
set_option linter.unusedVariables false
namespace Go.Proofs.YtdmgbhamigegfaaGreatDoor
open Go Go.Abs
variable (j0 j1 j2 j3 j4 j5 j6 j7 j8 j9 j10 j11 j12 j13 j14 j15 j16 j17 j18 j19 j20 j21 j22 j23 j24 j25 j26 j27 j28 j29 j30 j31 j32 j33 j34 j35 j36 j37 j38 j39 j40 j41 j42 j43 j44 j45 j46 j47 j48 j49 j50 j51 j52 j53 j54 j55 j56 j57 j58 j59 j60 j61 j62 j63 j64 j65 j66 j67 j68 j69 j70 j71 j72 j73 j74 j75 j76 j77 j78 j79 j80 j81 j82 j83 j84 j85 j86 j87 j88 j89 j90 j91 j92 j93 j94 j95 j96 j97 j98 j99 j100 j101 j102 j103 j104 j105 j106 j107 j108 j109 j110 j111 j112 j113 j114 j115 j116 j117 j118 j119 j120 j121 j122 j123 j124 j125 j126 j127 j128 j129 j130 j131 j132 j133 j134 j135 j136 j137 j138 j139 j140 j141 j142 j143 j144 j145 j146 j147 j148 j149 j150 j151 j152 j153 j154 j155 j156 j157 j158 j159 j160 j161 j162 j163 j164 j165 j166 j167 j168 j169 j170 j171 j172 j173 j174 j175 j176 j177 j178 j179 j180 j181 j182 j183 j184 j185 j186 j187:AV)
def zfC (q2s2 q2s3 y0:AV) (H:List Ob) (B2:List AV→List Ob→Prop) (K:AV→List Ob→Prop):Prop :=
 za 1 q2s2 fun v35 =>
 aLoad false 1 v35 H fun v36 =>
 aLen false false v36 fun v37 =>
 aBin false false .lss y0 v37 fun v38 =>
 ze v38
 (za 1 q2s2 fun v39 =>
 aLoad false 1 v39 H fun v40 =>
 zb 6 v40 y0 fun v41 =>
 za 0 v41 fun v42 =>
 aLoad false 1 v42 H fun v43 =>
 za 1 q2s3 fun v44 =>
 aLoad false 1 v44 H fun v45 =>
 zb 6 v45 y0 fun v46 =>
 za 0 v46 fun v47 =>
 aLoad false 1 v47 H fun v48 =>
 aBin false false .neq v43 v48 fun v49 =>
 ze v49
 (K (.p (.bool false)) H)
 (za 1 q2s2 fun v50 =>
 aLoad false 1 v50 H fun v51 =>
 zb 6 v51 y0 fun v52 =>
 za 1 v52 fun v53 =>
 aLoad true 5 v53 H fun v54 =>
 za 1 q2s3 fun v55 =>
 aLoad false 1 v55 H fun v56 =>
 zb 6 v56 y0 fun v57 =>
 za 1 v57 fun v58 =>
 aLoad true 5 v58 H fun v59 =>
 zJ Tryz.prog (.p (.func zeC [])) [v54,v59] fun v60 =>
 aUn .not v60 fun v61 =>
 ze v61
 (K (.p (.bool false)) H)
 (aBin false false .add y0 (.p (.int .i64 1)) fun v62 =>
 B2 [v62] H)))
 (K (.p (.bool true)) H)
def zfB (q1s2 q1s3 y0:AV) (H:List Ob) (B1:List AV→List Ob→Prop) (K:AV→List Ob→Prop):Prop :=
 za 0 q1s2 fun v20 =>
 aLoad false 1 v20 H fun v21 =>
 aLen false false v21 fun v22 =>
 aBin false false .lss y0 v22 fun v23 =>
 ze v23
 (za 0 q1s2 fun v24 =>
 aLoad false 1 v24 H fun v25 =>
 zb 1 v25 y0 fun v26 =>
 aLoad false 1 v26 H fun v27 =>
 za 0 q1s3 fun v28 =>
 aLoad false 1 v28 H fun v29 =>
 zb 1 v29 y0 fun v30 =>
 aLoad false 1 v30 H fun v31 =>
 zJ Tryz.prog (.p (.func zdU [])) [v27,v31] fun v32 =>
 aUn .not v32 fun v33 =>
 ze v33
 (K (.p (.bool false)) H)
 (aBin false false .add y0 (.p (.int .i64 1)) fun v34 =>
 B1 [v34] H))
 (zD 1 [(.p (.int .i64 0))] H fun xs H B2=>zfC q1s2 q1s3 (xs.getD 0 Z) H B2 K)
def zdR (x0 x1:AV) (H:List Ob) (K:AV→List Ob→Prop):Prop :=
 aBox x0 H fun v0 h1 =>
 aBox x1 h1 fun v2 h3 =>
 za 0 v0 fun v4 =>
 aLoad false 1 v4 h3 fun v5 =>
 aLen false false v5 fun v6 =>
 za 0 v2 fun v7 =>
 aLoad false 1 v7 h3 fun v8 =>
 aLen false false v8 fun v9 =>
 aBin false false .neq v6 v9 fun v10 =>
 zm false v10 (fun Q11 =>
 za 1 v0 fun v12 =>
 aLoad false 1 v12 h3 fun v13 =>
 aLenS false v13 fun v14 =>
 za 1 v2 fun v15 =>
 aLoad false 1 v15 h3 fun v16 =>
 aLenS false v16 fun v17 =>
 aBin false false .neq v14 v17 fun v18 =>
 (h3=h3∧Q11 v18)) fun v19 =>
 ze v19
 (K (.p (.bool false)) h3)
 (zD 1 [(.p (.int .i64 0))] h3 fun xs H B1=>zfB v0 v2 (xs.getD 0 Z) H B1 K)
def ze6:Nat→List Nat:=fun k=>match k with | 4=>[5] | 9=>[6] | _=>[]
theorem zlf (x0 x1:AV) (H:List Ob) (r:AV) (Ho:List Ob):aBody Tryz.prog ze6 Tryz.f18 H [x0,x1] r Ho=zdR x0 x1 H (fun v H'=>Gives H.length v H' r Ho):=by kernel_rfl
theorem zlg {x0 x1:AV} {r:AV} {Ho:List Ob} (h:zdR x0 x1 [] (fun v H'=>Gives 0 v H' r Ho)):Abs.Fn Tryz.prog zdb [] [x0,x1] r Ho :=
 zh mixed ze6 (fn:=Tryz.f18) (by kernel_rfl) (by kernel_rfl) (by rw [zlf]; exact h)
def zem (q2s0 q2s3 q2s4 y0:AV) (H:List Ob) (B2:List AV→List Ob→Prop) (B1:List AV→List Ob→Prop) (K:AV→List Ob→Prop):Prop :=
 aBin false false .gtr y0 (.p (.int .i64 0)) fun v3 =>
 ze v3
 (aBin false false .sub y0 (.p (.int .i64 1)) fun v4 =>
 zb 5 q2s3 v4 fun v5 =>
 aLoad true 5 v5 H fun v6 =>
 zb 5 q2s0 q2s4 fun v7 =>
 aLoad true 5 v7 H fun v8 =>
 zJ Tryz.prog (.p (.func zbZ [])) [v6,v8] fun v9 =>
 aBin false false .gtr v9 (.p (.int .i64 0)) fun v10 =>
 ze v10
 (aBin false false .sub y0 (.p (.int .i64 1)) fun v11 =>
 B2 [v11] H)
 (zk 5 [] fun v12 =>
 zbg false 5 q2s3 none (some y0) none fun v13 =>
 aCalm [v12,v13] <|
 zH false 5 64 v12 v13 H fun v14 h15 =>
 zb 5 q2s0 q2s4 fun v16 =>
 aLoad true 5 v16 h15 fun v17 =>
 zk 5 [v17] fun v18 =>
 aCalm [v14,v18] <|
 zH false 5 64 v14 v18 h15 fun v19 h20 =>
 zbg false 5 q2s3 (some y0) none none fun v21 =>
 zH false 5 64 v19 v21 h20 fun v22 h23 =>
 aBin false false .add q2s4 (.p (.int .i64 1)) fun v24 =>
 B1 [v22,v24] h23))
 (zk 5 [] fun v25 =>
 zbg false 5 q2s3 none (some y0) none fun v26 =>
 aCalm [v25,v26] <|
 zH false 5 64 v25 v26 H fun v27 h28 =>
 zb 5 q2s0 q2s4 fun v29 =>
 aLoad true 5 v29 h28 fun v30 =>
 zk 5 [v30] fun v31 =>
 aCalm [v27,v31] <|
 zH false 5 64 v27 v31 h28 fun v32 h33 =>
 zbg false 5 q2s3 (some y0) none none fun v34 =>
 zH false 5 64 v32 v34 h33 fun v35 h36 =>
 aBin false false .add q2s4 (.p (.int .i64 1)) fun v37 =>
 B1 [v35,v37] h36)
def zh5 (q1s0 y0 y1:AV) (H:List Ob) (B1:List AV→List Ob→Prop) (K:AV→List Ob→Prop):Prop :=
 aLen false false q1s0 fun v0 =>
 aBin false false .lss y1 v0 fun v1 =>
 ze v1
 (aLen false false y0 fun v2 =>
 zD 1 [v2] H fun xs H B2=>zem q1s0 y0 y1 (xs.getD 0 Z) H B2 B1 K)
 (K y0 H)
def zgN (x0:AV) (H:List Ob) (K:AV→List Ob→Prop):Prop :=
 zD 2 [(.full []),(.p (.int .i64 0))] H fun xs H B1=>zh5 x0 (xs.getD 0 Z) (xs.getD 1 Z) H B1 K
def zhG:Nat→List Nat:=fun k=>match k with | 3=>[3,4] | 6=>[5] | _=>[]
theorem zow (x0:AV) (H:List Ob) (r:AV) (Ho:List Ob):aBody Tryz.prog zhG Tryz.f20 H [x0] r Ho=zgN x0 H (fun v H'=>Gives H.length v H' r Ho):=by kernel_rfl
theorem zox {x0:AV} {r:AV} {Ho:List Ob} (h:zgN x0 [] (fun v H'=>Gives 0 v H' r Ho)):Abs.Fn Tryz.prog ze7 [] [x0] r Ho :=
 zh mixed zhG (fn:=Tryz.f20) (by kernel_rfl) (by kernel_rfl) (by rw [zow]; exact h)
def zja (q2s0 y0:AV) (H:List Ob) (B2:List AV→List Ob→Prop) (K:AV→List Ob→Prop):Prop :=
 aLen false false q2s0 fun v12 =>
 aBin false false .lss y0 v12 fun v13 =>
 ze v13
 (zb 21 q2s0 y0 fun v14 =>
 za 1 v14 fun v15 =>
 za 0 v15 fun v16 =>
 aLoad false 1 v16 H fun v17 =>
 aBin false false .neq v17 (.p (.int .i64 9)) fun v18 =>
 zm true v18 (fun Q19 =>
 aCall Tryz.prog (.p (.func zgM [])) [q2s0,y0] H fun v20 h21 =>
 aLenS false v20 fun v22 =>
 aBin false false .eql v22 (.p (.int .i64 0)) fun v23 =>
 (h21=H∧Q19 v23)) fun v24 =>
 ze v24
 (K (.tup [y0,(.p (.int .i64 1))]) H)
 (aBin false false .add y0 (.p (.int .i64 1)) fun v25 =>
 B2 [v25] H))
 (K (.tup [(.p (.int .i64 0)),(.p (.int .i64 0))]) H)
def zi9 (q1s0 y0:AV) (H:List Ob) (B1:List AV→List Ob→Prop) (K:AV→List Ob→Prop):Prop :=
 aLen false false q1s0 fun v4 =>
 aBin false false .lss y0 v4 fun v5 =>
 ze v5
 (aCall Tryz.prog (.p (.func zf0 [])) [q1s0,y0] H fun v6 h7 =>
 aCall Tryz.prog (.p (.func zgQ [])) [q1s0,y0,v6] h7 fun v8 h9 =>
 aBin false false .neq v8 (.p (.int .i64 0)) fun v10 =>
 ze v10
 (K (.tup [y0,v8]) h9)
 (aBin false false .add y0 (.p (.int .i64 1)) fun v11 =>
 B1 [v11] h9))
 (zD 1 [(.p (.int .i64 0))] H fun xs H B2=>zja q1s0 (xs.getD 0 Z) H B2 K)
def zhE (x0:AV) (H:List Ob) (K:AV→List Ob→Prop):Prop :=
 aLen false false x0 fun v0 =>
 aBin false false .eql v0 (.p (.int .i64 0)) fun v1 =>
 ze v1
 (K (.tup [(.p (.int .i64 0)),(.p (.int .i64 3))]) H)
 (aLen false false x0 fun v2 =>
 aBin false false .gtr v2 (.p (.int .i64 16)) fun v3 =>
 ze v3
 (K (.tup [(.p (.int .i64 0)),(.p (.int .i64 10))]) H)
 (zD 1 [(.p (.int .i64 0))] H fun xs H B1=>zi9 x0 (xs.getD 0 Z) H B1 K))
def zh3:Nat→List Nat:=fun k=>match k with | 6=>[4] | 12=>[6] | _=>[]
theorem zpX (x0:AV) (H:List Ob) (r:AV) (Ho:List Ob):aBody Tryz.prog zh3 Tryz.f39 H [x0] r Ho=zhE x0 H (fun v H'=>Gives H.length v H' r Ho):=by kernel_rfl
theorem zpY {x0:AV} {r:AV} {Ho:List Ob} (h:zhE x0 [] (fun v H'=>Gives 0 v H' r Ho)):Abs.Fn Tryz.prog zfX [] [x0] r Ho :=
 zh mixed zh3 (fn:=Tryz.f39) (by kernel_rfl) (by kernel_rfl) (by rw [zpX]; exact h)
def zha (q1s0 q1s1 y0:AV) (H:List Ob) (B1:List AV→List Ob→Prop) (K:AV→List Ob→Prop):Prop :=
 aLen false false q1s0 fun v3 =>
 aBin false false .lss y0 v3 fun v4 =>
 ze v4
 (zb 5 q1s0 y0 fun v5 =>
 aLoad true 5 v5 H fun v6 =>
 zb 5 q1s1 y0 fun v7 =>
 aLoad true 5 v7 H fun v8 =>
 zJ Tryz.prog (.p (.func zeC [])) [v6,v8] fun v9 =>
 aUn .not v9 fun v10 =>
 ze v10
 (K (.p (.bool false)) H)
 (aBin false false .add y0 (.p (.int .i64 1)) fun v11 =>
 B1 [v11] H))
 (K (.p (.bool true)) H)
def zfb (x0 x1:AV) (H:List Ob) (K:AV→List Ob→Prop):Prop :=
 aLen false false x0 fun v0 =>
 aLen false false x1 fun v1 =>
 aBin false false .neq v0 v1 fun v2 =>
 ze v2
 (K (.p (.bool false)) H)
 (zD 1 [(.p (.int .i64 0))] H fun xs H B1=>zha x0 x1 (xs.getD 0 Z) H B1 K)
def zgl:Nat→List Nat:=fun k=>match k with | 4=>[5] | _=>[]
theorem zmN (x0 x1:AV) (H:List Ob) (r:AV) (Ho:List Ob):aBody Tryz.prog zgl Tryz.f40 H [x0,x1] r Ho=zfb x0 x1 H (fun v H'=>Gives H.length v H' r Ho):=by kernel_rfl
theorem zmO {x0 x1:AV} {r:AV} {Ho:List Ob} (h:zfb x0 x1 [] (fun v H'=>Gives 0 v H' r Ho)):Abs.Fn Tryz.prog zdU [] [x0,x1] r Ho :=
 zh mixed zgl (fn:=Tryz.f40) (by kernel_rfl) (by kernel_rfl) (by rw [zmN]; exact h)
def zN:Nat→List Nat:=fun k=>match k with | 5=>[8] | 13=>[9,10] | 18=>[11] | 29=>[14] | 889888888=>[1] | 701000023=>[1] | 2000023=>[0,1,7,9,9999] | _=>[]
def zc7:Nat→Bool:=fun k=>match k with | 23=>true | _=>false
noncomputable def zdT:Code:=Tryz.f75.body.getD .skip
noncomputable def zfa:Code:=(cr (cr (cr (cr (cr (cr (cr zdT)))))))
def zj0 (q3s0 q3s1 q3s2 q3s7 q3s8 q3s9 q3s10 q3s15 q3s16 q3s17 q3s18 q3s19 q3s20 q3s21 q3s22 q3s23 q3s28 q3s29 q3s34 q3s35 q3s36 q3s37 q3s53 q3s54 q3s55 q3s56 q3s60 q3s61 q3s67 q3s68 q3s72 q3s73 q3s74 q3s75 q3s76 q3s77 q3s80 q3s81 q3s82 q3s83 q3s84 q3s85 q3s86 q3s94 q3s95 q3s107 y0:AV) (H:List Ob) (B3:List AV→List Ob→Prop) (B2:List AV→List Ob→Prop) (self:Code→List AV→List Ob→Ko→Prop) (kp:Ko):Prop :=
 aBin false false .lss y0 q3s10 fun v82 =>
 ze v82
 (za 16 q3s7 fun v83 =>
 aLoad false 1 v83 H fun v84 =>
 zb 1 v84 y0 fun v85 =>
 aLoad false 1 v85 H fun v86 =>
 za 16 q3s7 fun v87 =>
 aLoad false 1 v87 H fun v88 =>
 zb 1 v88 q3s10 fun v89 =>
 aLoad false 1 v89 H fun v90 =>
 aBin false false .eql v86 v90 fun v91 =>
 ze v91
 (kp .ret [q3s0,q3s1,q3s2,Z,Z,Z,(.p (.int .i64 1)),q3s7,q3s8,q3s9,q3s10,y0,Z,Z,Z,q3s15,q3s16,q3s17,q3s18,q3s19,q3s20,q3s21,q3s22,q3s23,Z,Z,Z,Z,q3s28,q3s29,Z,Z,Z,Z,q3s34,q3s35,q3s36,q3s37,Z,Z,Z,Z,Z,Z,Z,Z,Z,Z,Z,Z,Z,Z,Z,q3s53,q3s54,q3s55,q3s56,Z,Z,Z,q3s60,q3s61,Z,Z,Z,Z,Z,q3s67,q3s68,Z,Z,Z,q3s72,q3s73,q3s74,q3s75,q3s76,q3s77,Z,Z,q3s80,q3s81,q3s82,q3s83,q3s84,q3s85,q3s86,Z,Z,Z,Z,Z,Z,Z,q3s94,q3s95,Z,Z,Z,Z,Z,Z,Z,Z,Z,Z,Z,q3s107,y0,q3s10,(.p (.bool true)),Z,Z,v83,v84,y0,v85,v86,v87,v88,q3s10,v89,v90,(.p (.bool true)),Z,Z,Z,Z,Z,Z,Z,Z,Z,Z,Z,Z,Z,Z,Z,Z,Z,Z,Z,Z,Z,Z,Z,Z,Z,Z,Z,Z,Z,Z,Z,Z,Z,Z,Z,Z,Z,Z,Z,Z,Z,Z,Z,Z,Z,Z,Z,Z,Z,Z,Z,Z,Z,Z,Z,Z,Z,Z,Z,Z,Z,Z,Z,Z] H)
 (aBin false false .add y0 (.p (.int .i64 1)) fun v92 =>
 B3 [v92] H))
 (za 16 q3s7 fun v93 =>
 aLoad false 1 v93 H fun v94 =>
 zb 1 v94 q3s10 fun v95 =>
 aLoad false 1 v95 H fun v96 =>
 zb 2 q3s2 v96 fun v97 =>
 aLoad true 2 v97 H fun v98 =>
 zk 2 [v98] fun v99 =>
 zH false 2 32 q3s9 v99 H fun v100 h101 =>
 aBin false false .add q3s10 (.p (.int .i64 1)) fun v102 =>
 B2 [v100,v102] h101)
def zjZ (q2s0 q2s1 q2s2 q2s7 q2s8 q2s15 q2s16 q2s17 q2s18 q2s19 q2s20 q2s21 q2s22 q2s23 q2s28 q2s29 q2s34 q2s35 q2s36 q2s37 q2s53 q2s54 q2s55 q2s56 q2s60 q2s61 q2s67 q2s68 q2s72 y0 y1:AV) (H:List Ob) (B2:List AV→List Ob→Prop) (self:Code→List AV→List Ob→Ko→Prop) (kp:Ko):Prop :=
 za 16 q2s7 fun v55 =>
 aLoad false 1 v55 H fun v56 =>
 aLen false false v56 fun v57 =>
 aBin false false .lss y1 v57 fun v58 =>
 ze v58
 (za 16 q2s7 fun v59 =>
 aLoad false 1 v59 H fun v60 =>
 zb 1 v60 y1 fun v61 =>
 aLoad false 1 v61 H fun v62 =>
 aBin false false .lss v62 (.p (.int .i64 0)) fun v63 =>
 zm false v63 (fun Q64 =>
 za 16 q2s7 fun v65 =>
 aLoad false 1 v65 H fun v66 =>
 zb 1 v66 y1 fun v67 =>
 aLoad false 1 v67 H fun v68 =>
 aBin false false .geq v68 q2s1 fun v69 =>
 (H=H∧Q64 v69)) fun v70 =>
 zm false v70 (fun Q71 =>
 za 16 q2s7 fun v72 =>
 aLoad false 1 v72 H fun v73 =>
 zb 1 v73 y1 fun v74 =>
 aLoad false 1 v74 H fun v75 =>
 zb 21 q2s0 v75 fun v76 =>
 za 1 v76 fun v77 =>
 za 0 v77 fun v78 =>
 aLoad false 1 v78 H fun v79 =>
 aBin false false .eql v79 (.p (.int .i64 9)) fun v80 =>
 (H=H∧Q71 v80)) fun v81 =>
 ze v81
 (kp .ret [q2s0,q2s1,q2s2,Z,Z,Z,(.p (.int .i64 1)),q2s7,q2s8,y0,y1,Z,Z,Z,Z,q2s15,q2s16,q2s17,q2s18,q2s19,q2s20,q2s21,q2s22,q2s23,Z,Z,Z,Z,q2s28,q2s29,Z,Z,Z,Z,q2s34,q2s35,q2s36,q2s37,Z,Z,Z,Z,Z,Z,Z,Z,Z,Z,Z,Z,Z,Z,Z,q2s53,q2s54,q2s55,q2s56,Z,Z,Z,q2s60,q2s61,Z,Z,Z,Z,Z,q2s67,q2s68,Z,Z,Z,q2s72,y1,v55,v56,v57,(.p (.bool true)),Z,Z,v59,v60,y1,v61,v62,v63,v63,Z,Z,Z,Z,Z,Z,Z,v70,v70,Z,Z,Z,Z,Z,Z,Z,Z,Z,Z,Z,(.p (.bool true)),Z,Z,Z,Z,Z,Z,Z,Z,Z,Z,Z,Z,Z,Z,Z,Z,Z,Z,Z,Z,Z,Z,Z,Z,Z,Z,Z,Z,Z,Z,Z,Z,Z,Z,Z,Z,Z,Z,Z,Z,Z,Z,Z,Z,Z,Z,Z,Z,Z,Z,Z,Z,Z,Z,Z,Z,Z,Z,Z,Z,Z,Z,Z,Z,Z,Z,Z,Z,Z,Z,Z,Z,Z,Z,Z,Z,Z,Z,Z,Z] H)
 (zD 1 [(.p (.int .i64 0))] H fun xs H B3=>zj0 q2s0 q2s1 q2s2 q2s7 q2s8 y0 y1 q2s15 q2s16 q2s17 q2s18 q2s19 q2s20 q2s21 q2s22 q2s23 q2s28 q2s29 q2s34 q2s35 q2s36 q2s37 q2s53 q2s54 q2s55 q2s56 q2s60 q2s61 q2s67 q2s68 q2s72 y1 v55 v56 v57 (.p (.bool true)) v59 v60 y1 v61 v62 v63 v63 v70 v70 (.p (.bool false)) (xs.getD 0 Z) H B3 B2 self kp))
 (self zfa (keepS [0,1,7,9,9999] 0 [q2s0,q2s1,q2s2,Z,Z,Z,Z,q2s7,q2s8,y0,y1,Z,Z,Z,Z,q2s15,q2s16,q2s17,q2s18,q2s19,q2s20,q2s21,q2s22,q2s23,Z,Z,Z,Z,q2s28,q2s29,Z,Z,Z,Z,q2s34,q2s35,q2s36,q2s37,Z,Z,Z,Z,Z,Z,Z,Z,Z,Z,Z,Z,Z,Z,Z,q2s53,q2s54,q2s55,q2s56,Z,Z,Z,q2s60,q2s61,Z,Z,Z,Z,Z,q2s67,q2s68,Z,Z,Z,q2s72,y1,v55,v56,v57,(.p (.bool false)),Z,Z,Z,Z,Z,Z,Z,Z,Z,Z,Z,Z,Z,Z,Z,Z,Z,Z,Z,Z,Z,Z,Z,Z,Z,Z,Z,Z,Z,Z,Z,Z,Z,Z,Z,Z,Z,Z,Z,Z,Z,Z,Z,Z,Z,Z,Z,Z,Z,Z,Z,Z,Z,Z,Z,Z,Z,Z,Z,Z,Z,Z,Z,Z,Z,Z,Z,Z,Z,Z,Z,Z,Z,Z,Z,Z,Z,Z,Z,Z,Z,Z,Z,Z,Z,Z,Z,Z,Z,Z,Z,Z,Z,Z,Z,Z,Z,Z,Z,Z,Z,Z,Z,Z,Z,Z,Z,Z,Z,Z]) H kp)
def zjY (q1s0 q1s1 q1s2 q1s7 q1s15 q1s16 q1s17 q1s18 q1s19 q1s20 q1s21 q1s22 q1s23 q1s28 q1s29 q1s34 y0:AV) (H:List Ob) (B1:List AV→List Ob→Prop) (self:Code→List AV→List Ob→Ko→Prop) (kp:Ko):Prop :=
 aBin false false .lss y0 q1s1 fun v23 =>
 ze v23
 (za 0 q1s7 fun v24 =>
 aLoad false 1 v24 H fun v25 =>
 aBin false false .neq v25 (.p (.str [])) fun v26 =>
 ze v26
 (zb 21 q1s0 y0 fun v27 =>
 za 0 v27 fun v28 =>
 aLoad false 1 v28 H fun v29 =>
 za 0 q1s7 fun v30 =>
 aLoad false 1 v30 H fun v31 =>
 aBin false false .eql v29 v31 fun v32 =>
 ze v32
 (kp .ret [q1s0,q1s1,q1s2,Z,Z,Z,(.p (.int .i64 7)),q1s7,y0,Z,Z,Z,Z,Z,Z,q1s15,q1s16,q1s17,q1s18,q1s19,q1s20,q1s21,q1s22,q1s23,Z,Z,Z,Z,q1s28,q1s29,Z,Z,Z,Z,q1s34,y0,q1s1,(.p (.bool true)),Z,Z,v24,v25,v26,(.p (.bool true)),q1s0,y0,v27,v28,v29,v30,v31,v32,(.p (.bool true)),Z,Z,Z,Z,Z,Z,Z,Z,Z,Z,Z,Z,Z,Z,Z,Z,Z,Z,Z,Z,Z,Z,Z,Z,Z,Z,Z,Z,Z,Z,Z,Z,Z,Z,Z,Z,Z,Z,Z,Z,Z,Z,Z,Z,Z,Z,Z,Z,Z,Z,Z,Z,Z,Z,Z,Z,Z,Z,Z,Z,Z,Z,Z,Z,Z,Z,Z,Z,Z,Z,Z,Z,Z,Z,Z,Z,Z,Z,Z,Z,Z,Z,Z,Z,Z,Z,Z,Z,Z,Z,Z,Z,Z,Z,Z,Z,Z,Z,Z,Z,Z,Z,Z,Z,Z,Z,Z,Z,Z,Z,Z,Z,Z,Z,Z,Z,Z,Z,Z,Z,Z,Z,Z,Z,Z,Z,Z,Z,Z,Z,Z,Z,Z,Z,Z] H)
 (aBin false false .add y0 (.p (.int .i64 1)) fun v33 =>
 B1 [v33] H))
 (aBin false false .add y0 (.p (.int .i64 1)) fun v34 =>
 B1 [v34] H))
 (za 17 q1s7 fun v35 =>
 aLoad false 1 v35 H fun v36 =>
 aBin false false .lss v36 (.p (.int .i64 1)) fun v37 =>
 zm false v37 (fun Q38 =>
 za 17 q1s7 fun v39 =>
 aLoad false 1 v39 H fun v40 =>
 aBin false false .gtr v40 (.p (.int .i64 4)) fun v41 =>
 (H=H∧Q38 v41)) fun v42 =>
 zm false v42 (fun Q43 =>
 za 18 q1s7 fun v44 =>
 aLoad false 1 v44 H fun v45 =>
 za 17 q1s7 fun v46 =>
 aLoad false 1 v46 H fun v47 =>
 aBin false false .lss v45 v47 fun v48 =>
 (H=H∧Q43 v48)) fun v49 =>
 zm false v49 (fun Q50 =>
 za 18 q1s7 fun v51 =>
 aLoad false 1 v51 H fun v52 =>
 aBin false false .gtr v52 (.p (.int .i64 16)) fun v53 =>
 (H=H∧Q50 v53)) fun v54 =>
 ze v54
 (kp .ret [q1s0,q1s1,q1s2,Z,Z,Z,(.p (.int .i64 1)),q1s7,y0,Z,Z,Z,Z,Z,Z,q1s15,q1s16,q1s17,q1s18,q1s19,q1s20,q1s21,q1s22,q1s23,Z,Z,Z,Z,q1s28,q1s29,Z,Z,Z,Z,q1s34,y0,q1s1,(.p (.bool false)),Z,Z,Z,Z,Z,Z,Z,Z,Z,Z,Z,Z,Z,Z,Z,v35,v36,v37,v37,Z,Z,Z,v42,v42,Z,Z,Z,Z,Z,v49,v49,Z,Z,Z,(.p (.bool true)),Z,Z,Z,Z,Z,Z,Z,Z,Z,Z,Z,Z,Z,Z,Z,Z,Z,Z,Z,Z,Z,Z,Z,Z,Z,Z,Z,Z,Z,Z,Z,Z,Z,Z,Z,Z,Z,Z,Z,Z,Z,Z,Z,Z,Z,Z,Z,Z,Z,Z,Z,Z,Z,Z,Z,Z,Z,Z,Z,Z,Z,Z,Z,Z,Z,Z,Z,Z,Z,Z,Z,Z,Z,Z,Z,Z,Z,Z,Z,Z,Z,Z,Z,Z,Z,Z,Z,Z,Z,Z,Z,Z,Z,Z,Z,Z,Z,Z,Z,Z,Z,Z,Z,Z,Z,Z,Z,Z,Z,Z,Z,Z,Z,Z,Z] H)
 (zD 2 [(.full []),(.p (.int .i64 0))] H fun xs H B2=>zjZ q1s0 q1s1 q1s2 q1s7 y0 q1s15 q1s16 q1s17 q1s18 q1s19 q1s20 q1s21 q1s22 q1s23 q1s28 q1s29 q1s34 y0 q1s1 (.p (.bool false)) v35 v36 v37 v37 v42 v42 v49 v49 (.p (.bool false)) (xs.getD 0 Z) (xs.getD 1 Z) H B2 self kp))
def zch (j0 j1 j2:AV) (H:List Ob) (self:Code→List AV→List Ob→Ko→Prop) (kp:Ko):Prop :=
 zb 21 j0 j1 fun v0 =>
 aLoad true 21 v0 H fun v1 =>
 zy [(.p (.str [])),(.p (.int .i64 0)),(.p (.str [])),(.p (.int .i64 0)),(.full []),(.full []),(.p (.str [])),(.p (.int .i64 0)),(.p (.int .i64 0)),(.p (.bool false)),(.p (.str [])),(.full []),(.p (.int .i64 0)),(.full []),(.p (.int .i64 0)),(.p (.int .i64 0)),(.full []),(.p (.int .i64 0)),(.p (.int .i64 0)),(.p (.str [])),(.p (.bool false))] H fun v2 h3 =>
 zi 21 v2 v1 h3 fun _ h5 =>
 za 0 v2 fun v6 =>
 aLoad false 1 v6 h5 fun v7 =>
 aBin false false .neq v7 (.p (.str [])) fun v8 =>
 zm true v8 (fun Q9 =>
 za 0 v2 fun v10 =>
 aLoad false 1 v10 h5 fun v11 =>
 aCall Tryz.prog (.p (.func zcI [])) [v11] h5 fun v12 h13 =>
 aUn .not v12 fun v14 =>
 (h13=h5∧Q9 v14)) fun v15 =>
 zm false v15 (fun Q16 =>
 za 19 v2 fun v17 =>
 aLoad false 1 v17 h5 fun v18 =>
 aCall Tryz.prog (.p (.func zcI [])) [v18] h5 fun v19 h20 =>
 aUn .not v19 fun v21 =>
 (h20=h5∧Q16 v21)) fun v22 =>
 ze v22
 (kp .ret [j0,j1,j2,Z,Z,Z,(.p (.int .i64 6)),v2,Z,Z,Z,Z,Z,Z,Z,j0,j1,v0,v1,(.p (.bool true)),v6,v7,v8,v8,Z,Z,Z,Z,v15,v15,Z,Z,Z,Z,v22,Z,Z,Z,Z,Z,Z,Z,Z,Z,Z,Z,Z,Z,Z,Z,Z,Z,Z,Z,Z,Z,Z,Z,Z,Z,Z,Z,Z,Z,Z,Z,Z,Z,Z,Z,Z,Z,Z,Z,Z,Z,Z,Z,Z,Z,Z,Z,Z,Z,Z,Z,Z,Z,Z,Z,Z,Z,Z,Z,Z,Z,Z,Z,Z,Z,Z,Z,Z,Z,Z,Z,Z,Z,Z,Z,Z,Z,Z,Z,Z,Z,Z,Z,Z,Z,Z,Z,Z,Z,Z,Z,Z,Z,Z,Z,Z,Z,Z,Z,Z,Z,Z,Z,Z,Z,Z,Z,Z,Z,Z,Z,Z,Z,Z,Z,Z,Z,Z,Z,Z,Z,Z,Z,Z,Z,Z,Z,Z,Z,Z,Z,Z,Z,Z,Z,Z,Z,Z,Z,Z,Z,Z,Z,Z,Z,Z,Z,Z,Z,Z,Z,Z,Z] h5)
 (zD 1 [(.p (.int .i64 0))] h5 fun xs H B1=>zjY j0 j1 j2 v2 j0 j1 v0 v1 (.p (.bool false)) v6 v7 v8 v8 v15 v15 v22 (xs.getD 0 Z) H B1 self kp)
theorem zoA (j0 j1 j2:AV) (H:List Ob) (self:Code→List AV→List Ob→Ko→Prop) (kp:Ko):awpX Tryz.prog zN self zc7 zdT ([j0,j1,j2]++List.replicate 185 Z) H kp=zch j0 j1 j2 H self kp:=by kernel_rfl
theorem zoB (j0 j1 j2:AV) (H:List Ob) (kp:Ko):awp Tryz.prog zN zdT [j0,j1,j2,Z,Z,Z,Z,Z,Z,Z,Z,Z,Z,Z,Z,Z,Z,Z,Z,Z,Z,Z,Z,Z,Z,Z,Z,Z,Z,Z,Z,Z,Z,Z,Z,Z,Z,Z,Z,Z,Z,Z,Z,Z,Z,Z,Z,Z,Z,Z,Z,Z,Z,Z,Z,Z,Z,Z,Z,Z,Z,Z,Z,Z,Z,Z,Z,Z,Z,Z,Z,Z,Z,Z,Z,Z,Z,Z,Z,Z,Z,Z,Z,Z,Z,Z,Z,Z,Z,Z,Z,Z,Z,Z,Z,Z,Z,Z,Z,Z,Z,Z,Z,Z,Z,Z,Z,Z,Z,Z,Z,Z,Z,Z,Z,Z,Z,Z,Z,Z,Z,Z,Z,Z,Z,Z,Z,Z,Z,Z,Z,Z,Z,Z,Z,Z,Z,Z,Z,Z,Z,Z,Z,Z,Z,Z,Z,Z,Z,Z,Z,Z,Z,Z,Z,Z,Z,Z,Z,Z,Z,Z,Z,Z,Z,Z,Z,Z,Z,Z,Z,Z,Z,Z,Z,Z,Z,Z,Z,Z,Z,Z,Z,Z,Z,Z,Z,Z] H kp=zch j0 j1 j2 H (awp Tryz.prog zN) kp :=
 Eq.trans (by kernel_rfl) ((zcO Tryz.prog zN zc7 _ _ _ _).symm.trans (zoA j0 j1 j2 H _ kp))
theorem zq0 (j0 j1 j2:AV) (H:List Ob) (r:AV) (Ho:List Ob):aBody Tryz.prog zN Tryz.f75 H [j0,j1,j2] r Ho=zch j0 j1 j2 H (awp Tryz.prog zN) (kEnd Tryz.prog [.tmp 6] fun v H'=>Gives H.length v H' r Ho) :=
 (show aBody Tryz.prog zN Tryz.f75 H [j0,j1,j2] r Ho=awp Tryz.prog zN zdT [j0,j1,j2,Z,Z,Z,Z,Z,Z,Z,Z,Z,Z,Z,Z,Z,Z,Z,Z,Z,Z,Z,Z,Z,Z,Z,Z,Z,Z,Z,Z,Z,Z,Z,Z,Z,Z,Z,Z,Z,Z,Z,Z,Z,Z,Z,Z,Z,Z,Z,Z,Z,Z,Z,Z,Z,Z,Z,Z,Z,Z,Z,Z,Z,Z,Z,Z,Z,Z,Z,Z,Z,Z,Z,Z,Z,Z,Z,Z,Z,Z,Z,Z,Z,Z,Z,Z,Z,Z,Z,Z,Z,Z,Z,Z,Z,Z,Z,Z,Z,Z,Z,Z,Z,Z,Z,Z,Z,Z,Z,Z,Z,Z,Z,Z,Z,Z,Z,Z,Z,Z,Z,Z,Z,Z,Z,Z,Z,Z,Z,Z,Z,Z,Z,Z,Z,Z,Z,Z,Z,Z,Z,Z,Z,Z,Z,Z,Z,Z,Z,Z,Z,Z,Z,Z,Z,Z,Z,Z,Z,Z,Z,Z,Z,Z,Z,Z,Z,Z,Z,Z,Z,Z,Z,Z,Z,Z,Z,Z,Z,Z,Z,Z,Z,Z,Z,Z,Z] H (kEnd Tryz.prog [.tmp 6] fun v H'=>Gives H.length v H' r Ho) from by kernel_rfl).trans (zoB j0 j1 j2 H _)
theorem zq1 {j0 j1 j2:AV} {r:AV} {Ho:List Ob} (h:zch j0 j1 j2 [] (awp Tryz.prog zN) (kEnd Tryz.prog [.tmp 6] fun v H'=>Gives 0 v H' r Ho)):Abs.Fn Tryz.prog zgQ [] [j0,j1,j2] r Ho :=
 zh mixed zN (fn:=Tryz.f75) (by kernel_rfl) (by kernel_rfl) (by rw [zq0]; exact h)
def zj1 (q4s0 q4s1 q4s7 q4s9 q4s12 q4s13 q4s135 q4s136 q4s137 q4s138 q4s139 q4s140 q4s141 q4s142 q4s143 q4s145 q4s146 q4s147 q4s148 y0:AV) (H:List Ob) (B4:List AV→List Ob→Prop) (self:Code→List AV→List Ob→Ko→Prop) (kp:Ko):Prop :=
 aBin false false .lss y0 q4s1 fun v117 =>
 ze v117
 (za 1 q4s7 fun v118 =>
 za 0 v118 fun v119 =>
 aLoad false 1 v119 H fun v120 =>
 aBin false false .eql v120 (.p (.int .i64 1)) fun v121 =>
 ze v121
 (zb 21 q4s0 y0 fun v122 =>
 za 1 v122 fun v123 =>
 za 0 v123 fun v124 =>
 aLoad false 1 v124 H fun v125 =>
 za 1 q4s7 fun v126 =>
 za 0 v126 fun v127 =>
 aLoad false 1 v127 H fun v128 =>
 aBin false false .eql v125 v128 fun v129 =>
 ze v129
 (zb 21 q4s0 y0 fun v130 =>
 za 1 v130 fun v131 =>
 za 1 v131 fun v132 =>
 aLoad false 1 v132 H fun v133 =>
 za 1 q4s7 fun v134 =>
 za 1 v134 fun v135 =>
 aLoad false 1 v135 H fun v136 =>
 aBin false false .eql v133 v136 fun v137 =>
 ze v137
 (kp .ret [q4s0,q4s1,Z,Z,Z,Z,(.p (.int .i64 7)),q4s7,Z,q4s9,Z,Z,q4s12,q4s13,y0,Z,Z,Z,Z,Z,Z,Z,Z,Z,Z,Z,Z,Z,Z,Z,Z,Z,Z,Z,Z,Z,Z,Z,Z,Z,Z,Z,Z,Z,Z,Z,Z,Z,Z,Z,Z,Z,Z,Z,Z,Z,Z,Z,Z,Z,Z,Z,Z,Z,Z,Z,Z,Z,Z,Z,Z,Z,Z,Z,Z,Z,Z,Z,Z,Z,Z,Z,Z,Z,Z,Z,Z,Z,Z,Z,Z,Z,Z,Z,Z,Z,Z,Z,Z,Z,Z,Z,Z,Z,Z,Z,Z,Z,Z,Z,Z,Z,Z,Z,Z,Z,Z,Z,Z,Z,Z,Z,Z,Z,Z,Z,Z,Z,Z,Z,Z,Z,Z,Z,Z,q4s135,q4s136,q4s137,q4s138,q4s139,q4s140,q4s141,q4s142,q4s143,Z,q4s145,q4s146,q4s147,q4s148,y0,q4s1,(.p (.bool true)),Z,Z,v118,v119,v120,v121,(.p (.bool true)),(.tup []),(.tup []),(.tup []),(.tup []),(.p (.bool true)),(.p (.bool true)),q4s0,y0,v122,v123,v124,v125,v126,v127,v128,v129,v129,(.p (.bool true)),q4s0,y0,v130,v131,v132,v133,v134,v135,v136,v137,(.p (.bool true))] H)
 (aBin false false .add y0 (.p (.int .i64 1)) fun v138 =>
 B4 [v138] H))
 (aBin false false .add y0 (.p (.int .i64 1)) fun v139 =>
 B4 [v139] H))
 (za 1 q4s7 fun v140 =>
 za 0 v140 fun v141 =>
 aLoad false 1 v141 H fun v142 =>
 aBin false false .eql v142 (.p (.int .i64 9)) fun v143 =>
 ze v143
 (zb 21 q4s0 y0 fun v144 =>
 za 1 v144 fun v145 =>
 za 0 v145 fun v146 =>
 aLoad false 1 v146 H fun v147 =>
 za 1 q4s7 fun v148 =>
 za 0 v148 fun v149 =>
 aLoad false 1 v149 H fun v150 =>
 aBin false false .eql v147 v150 fun v151 =>
 ze v151
 (zb 21 q4s0 y0 fun v152 =>
 za 1 v152 fun v153 =>
 za 1 v153 fun v154 =>
 aLoad false 1 v154 H fun v155 =>
 za 1 q4s7 fun v156 =>
 za 1 v156 fun v157 =>
 aLoad false 1 v157 H fun v158 =>
 aBin false false .eql v155 v158 fun v159 =>
 ze v159
 (kp .ret [q4s0,q4s1,Z,Z,Z,Z,(.p (.int .i64 7)),q4s7,Z,q4s9,Z,Z,q4s12,q4s13,y0,Z,Z,Z,Z,Z,Z,Z,Z,Z,Z,Z,Z,Z,Z,Z,Z,Z,Z,Z,Z,Z,Z,Z,Z,Z,Z,Z,Z,Z,Z,Z,Z,Z,Z,Z,Z,Z,Z,Z,Z,Z,Z,Z,Z,Z,Z,Z,Z,Z,Z,Z,Z,Z,Z,Z,Z,Z,Z,Z,Z,Z,Z,Z,Z,Z,Z,Z,Z,Z,Z,Z,Z,Z,Z,Z,Z,Z,Z,Z,Z,Z,Z,Z,Z,Z,Z,Z,Z,Z,Z,Z,Z,Z,Z,Z,Z,Z,Z,Z,Z,Z,Z,Z,Z,Z,Z,Z,Z,Z,Z,Z,Z,Z,Z,Z,Z,Z,Z,Z,Z,q4s135,q4s136,q4s137,q4s138,q4s139,q4s140,q4s141,q4s142,q4s143,Z,q4s145,q4s146,q4s147,q4s148,y0,q4s1,(.p (.bool true)),Z,Z,v118,v119,v120,v121,(.p (.bool false)),v140,v141,v142,v143,v143,(.p (.bool true)),q4s0,y0,v144,v145,v146,v147,v148,v149,v150,v151,v151,(.p (.bool true)),q4s0,y0,v152,v153,v154,v155,v156,v157,v158,v159,(.p (.bool true))] H)
 (aBin false false .add y0 (.p (.int .i64 1)) fun v160 =>
 B4 [v160] H))
 (aBin false false .add y0 (.p (.int .i64 1)) fun v161 =>
 B4 [v161] H))
 (aBin false false .add y0 (.p (.int .i64 1)) fun v162 =>
 B4 [v162] H)))
 (kp .ret [q4s0,q4s1,Z,Z,Z,Z,(.p (.int .i64 0)),q4s7,Z,q4s9,Z,Z,q4s12,q4s13,y0,Z,Z,Z,Z,Z,Z,Z,Z,Z,Z,Z,Z,Z,Z,Z,Z,Z,Z,Z,Z,Z,Z,Z,Z,Z,Z,Z,Z,Z,Z,Z,Z,Z,Z,Z,Z,Z,Z,Z,Z,Z,Z,Z,Z,Z,Z,Z,Z,Z,Z,Z,Z,Z,Z,Z,Z,Z,Z,Z,Z,Z,Z,Z,Z,Z,Z,Z,Z,Z,Z,Z,Z,Z,Z,Z,Z,Z,Z,Z,Z,Z,Z,Z,Z,Z,Z,Z,Z,Z,Z,Z,Z,Z,Z,Z,Z,Z,Z,Z,Z,Z,Z,Z,Z,Z,Z,Z,Z,Z,Z,Z,Z,Z,Z,Z,Z,Z,Z,Z,Z,q4s135,q4s136,q4s137,q4s138,q4s139,q4s140,q4s141,q4s142,q4s143,Z,q4s145,q4s146,q4s147,q4s148,y0,q4s1,(.p (.bool false)),Z,Z,Z,Z,Z,Z,Z,Z,Z,Z,Z,Z,Z,Z,Z,Z,Z,Z,Z,Z,Z,Z,Z,Z,Z,Z,Z,Z,Z,Z,Z,Z,Z,Z,Z,Z] H)
def ze9 (j0 j1 j7 j9:AV) (H:List Ob) (self:Code→List AV→List Ob→Ko→Prop) (kp:Ko):Prop :=
 za 1 j7 fun v103 =>
 aLoad true 15 v103 H fun v104 =>
 aCall Tryz.prog (.p (.func zeB [])) [v104,j9] H fun v105 h106 =>
 zB v105 0 fun v107 =>
 zB v105 1 fun v108 =>
 zy [(.p (.int .i64 0)),(.full [])] h106 fun v109 h110 =>
 zi 2 v109 v107 h110 fun _ h112 =>
 aBin false false .neq v108 (.p (.int .i64 0)) fun v113 =>
 ze v113
 (kp .ret [j0,j1,Z,Z,Z,Z,v108,j7,Z,j9,Z,Z,v109,v108,Z,Z,Z,Z,Z,Z,Z,Z,Z,Z,Z,Z,Z,Z,Z,Z,Z,Z,Z,Z,Z,Z,Z,Z,Z,Z,Z,Z,Z,Z,Z,Z,Z,Z,Z,Z,Z,Z,Z,Z,Z,Z,Z,Z,Z,Z,Z,Z,Z,Z,Z,Z,Z,Z,Z,Z,Z,Z,Z,Z,Z,Z,Z,Z,Z,Z,Z,Z,Z,Z,Z,Z,Z,Z,Z,Z,Z,Z,Z,Z,Z,Z,Z,Z,Z,Z,Z,Z,Z,Z,Z,Z,Z,Z,Z,Z,Z,Z,Z,Z,Z,Z,Z,Z,Z,Z,Z,Z,Z,Z,Z,Z,Z,Z,Z,Z,Z,Z,Z,Z,Z,v105,v103,v104,j9,v105,v107,v108,v108,(.p (.bool true)),v108,Z,Z,Z,Z,Z,Z,Z,Z,Z,Z,Z,Z,Z,Z,Z,Z,Z,Z,Z,Z,Z,Z,Z,Z,Z,Z,Z,Z,Z,Z,Z,Z,Z,Z,Z,Z,Z,Z,Z,Z,Z,Z,Z] h112)
 (aCall Tryz.prog (.p (.func zfc [])) [j0,j1] h112 fun v114 h115 =>
 aBin false false .gtr v114 (.p (.int .i64 64)) fun v116 =>
 ze v116
 (kp .ret [j0,j1,Z,Z,Z,Z,(.p (.int .i64 10)),j7,Z,j9,Z,Z,v109,v108,Z,Z,Z,Z,Z,Z,Z,Z,Z,Z,Z,Z,Z,Z,Z,Z,Z,Z,Z,Z,Z,Z,Z,Z,Z,Z,Z,Z,Z,Z,Z,Z,Z,Z,Z,Z,Z,Z,Z,Z,Z,Z,Z,Z,Z,Z,Z,Z,Z,Z,Z,Z,Z,Z,Z,Z,Z,Z,Z,Z,Z,Z,Z,Z,Z,Z,Z,Z,Z,Z,Z,Z,Z,Z,Z,Z,Z,Z,Z,Z,Z,Z,Z,Z,Z,Z,Z,Z,Z,Z,Z,Z,Z,Z,Z,Z,Z,Z,Z,Z,Z,Z,Z,Z,Z,Z,Z,Z,Z,Z,Z,Z,Z,Z,Z,Z,Z,Z,Z,Z,Z,v105,v103,v104,j9,v105,v107,v108,v108,(.p (.bool false)),Z,j0,j1,v114,(.p (.bool true)),Z,Z,Z,Z,Z,Z,Z,Z,Z,Z,Z,Z,Z,Z,Z,Z,Z,Z,Z,Z,Z,Z,Z,Z,Z,Z,Z,Z,Z,Z,Z,Z,Z,Z,Z,Z,Z,Z,Z] h115)
 (zD 1 [(.p (.int .i64 0))] h115 fun xs H B4=>zj1 j0 j1 j7 j9 v109 v108 v105 v103 v104 j9 v105 v107 v108 v108 (.p (.bool false)) j0 j1 v114 (.p (.bool false)) (xs.getD 0 Z) H B4 self kp))
theorem znD (j0 j1 j7 j9:AV) (H:List Ob) (self:Code→List AV→List Ob→Ko→Prop) (kp:Ko):awpX Tryz.prog zN self zc7 zfa ([j0,j1,Z,Z,Z,Z,Z,j7,Z,j9]++List.replicate 178 Z) H kp=ze9 j0 j1 j7 j9 H self kp:=by kernel_rfl
theorem zmM (H:List Ob) (kp:Ko):awp Tryz.prog zN zfa (keepS [0,1,7,9,9999] 0 [j0,j1,j2,j3,j4,j5,j6,j7,j8,j9,j10,j11,j12,j13,j14,j15,j16,j17,j18,j19,j20,j21,j22,j23,j24,j25,j26,j27,j28,j29,j30,j31,j32,j33,j34,j35,j36,j37,j38,j39,j40,j41,j42,j43,j44,j45,j46,j47,j48,j49,j50,j51,j52,j53,j54,j55,j56,j57,j58,j59,j60,j61,j62,j63,j64,j65,j66,j67,j68,j69,j70,j71,j72,j73,j74,j75,j76,j77,j78,j79,j80,j81,j82,j83,j84,j85,j86,j87,j88,j89,j90,j91,j92,j93,j94,j95,j96,j97,j98,j99,j100,j101,j102,j103,j104,j105,j106,j107,j108,j109,j110,j111,j112,j113,j114,j115,j116,j117,j118,j119,j120,j121,j122,j123,j124,j125,j126,j127,j128,j129,j130,j131,j132,j133,j134,j135,j136,j137,j138,j139,j140,j141,j142,j143,j144,j145,j146,j147,j148,j149,j150,j151,j152,j153,j154,j155,j156,j157,j158,j159,j160,j161,j162,j163,j164,j165,j166,j167,j168,j169,j170,j171,j172,j173,j174,j175,j176,j177,j178,j179,j180,j181,j182,j183,j184,j185,j186,j187]) H kp=ze9 j0 j1 j7 j9 H (awp Tryz.prog zN) kp :=
 Eq.trans (by kernel_rfl) ((zcO Tryz.prog zN zc7 _ _ _ _).symm.trans (znD j0 j1 j7 j9 H _ kp))
def zjg (q2s0 q2s5 q2s6 y0 y1:AV) (H:List Ob) (B2:List AV→List Ob→Prop) (B1:List AV→List Ob→Prop) (K:AV→List Ob→Prop):Prop :=
 zb 21 q2s0 q2s6 fun v1 =>
 za 16 v1 fun v2 =>
 aLoad false 1 v2 H fun v3 =>
 aLen false false v3 fun v4 =>
 aBin false false .lss y1 v4 fun v5 =>
 ze v5
 (zb 21 q2s0 q2s6 fun v6 =>
 za 16 v6 fun v7 =>
 aLoad false 1 v7 H fun v8 =>
 zb 1 v8 y1 fun v9 =>
 aLoad false 1 v9 H fun v10 =>
 zb 2 q2s5 v10 fun v11 =>
 aLoad true 2 v11 H fun v12 =>
 zk 2 [v12] fun v13 =>
 zH false 2 32 y0 v13 H fun v14 h15 =>
 aBin false false .add y1 (.p (.int .i64 1)) fun v16 =>
 B2 [v14,v16] h15)
 (zb 21 q2s0 q2s6 fun v17 =>
 za 1 v17 fun v18 =>
 aLoad true 15 v18 H fun v19 =>
 aCall Tryz.prog (.p (.func zeB [])) [v19,y0] H fun v20 h21 =>
 zB v20 0 fun v22 =>
 zB v20 1 fun _ =>
 zy [(.p (.int .i64 0)),(.full [])] h21 fun v24 h25 =>
 zi 2 v24 v22 h25 fun _ h27 =>
 aLoad true 2 v24 h27 fun v28 =>
 zk 2 [v28] fun v29 =>
 zH false 2 32 q2s5 v29 h27 fun v30 h31 =>
 aBin false false .add q2s6 (.p (.int .i64 1)) fun v32 =>
 B1 [v30,v32] h31)
def zjf (q1s0 q1s1 y0 y1:AV) (H:List Ob) (B1:List AV→List Ob→Prop) (K:AV→List Ob→Prop):Prop :=
 aBin false false .lss y1 q1s1 fun v0 =>
 ze v0
 (zD 2 [(.full []),(.p (.int .i64 0))] H fun xs H B2=>zjg q1s0 y0 y1 (xs.getD 0 Z) (xs.getD 1 Z) H B2 B1 K)
 (K y0 H)
def zhJ (x0 x1:AV) (H:List Ob) (K:AV→List Ob→Prop):Prop :=
 zD 2 [(.full []),(.p (.int .i64 0))] H fun xs H B1=>zjf x0 x1 (xs.getD 0 Z) (xs.getD 1 Z) H B1 K
def zh6:Nat→List Nat:=fun k=>match k with | 3=>[5,6] | 7=>[7,8] | _=>[]
theorem zp1 (x0 x1:AV) (H:List Ob) (r:AV) (Ho:List Ob):aBody Tryz.prog zh6 Tryz.f76 H [x0,x1] r Ho=zhJ x0 x1 H (fun v H'=>Gives H.length v H' r Ho):=by kernel_rfl
theorem zp2 {x0 x1:AV} {r:AV} {Ho:List Ob} (h:zhJ x0 x1 [] (fun v H'=>Gives 0 v H' r Ho)):Abs.Fn Tryz.prog zf0 [] [x0,x1] r Ho :=
 zh mixed zh6 (fn:=Tryz.f76) (by kernel_rfl) (by kernel_rfl) (by rw [zp1]; exact h)
def zjW (q2s0 q2s1 q2s6 y0 y1:AV) (H:List Ob) (B2:List AV→List Ob→Prop) (B1:List AV→List Ob→Prop) (K:AV→List Ob→Prop):Prop :=
 zb 21 q2s0 q2s6 fun v2 =>
 za 16 v2 fun v3 =>
 aLoad false 1 v3 H fun v4 =>
 aLen false false v4 fun v5 =>
 aBin false false .lss y1 v5 fun v6 =>
 ze v6
 (zb 21 q2s0 q2s6 fun v7 =>
 za 16 v7 fun v8 =>
 aLoad false 1 v8 H fun v9 =>
 zb 1 v9 y1 fun v10 =>
 aLoad false 1 v10 H fun v11 =>
 aBin false false .eql v11 q2s1 fun v12 =>
 ze v12
 (zk 1 [q2s6] fun v13 =>
 zH false 1 8 y0 v13 H fun v14 h15 =>
 aBin false false .add q2s6 (.p (.int .i64 1)) fun v16 =>
 B1 [v14,v16] h15)
 (aBin false false .add y1 (.p (.int .i64 1)) fun v17 =>
 B2 [y0,v17] H))
 (aBin false false .add q2s6 (.p (.int .i64 1)) fun v18 =>
 B1 [y0,v18] H)
def zjV (q1s0 q1s1 y0 y1:AV) (H:List Ob) (B1:List AV→List Ob→Prop) (K:AV→List Ob→Prop):Prop :=
 aLen false false q1s0 fun v0 =>
 aBin false false .lss y1 v0 fun v1 =>
 ze v1
 (zD 2 [y0,(.p (.int .i64 0))] H fun xs H B2=>zjW q1s0 q1s1 y1 (xs.getD 0 Z) (xs.getD 1 Z) H B2 B1 K)
 (K y0 H)
def ziA (x0 x1:AV) (H:List Ob) (K:AV→List Ob→Prop):Prop :=
 zD 2 [(.full []),(.p (.int .i64 0))] H fun xs H B1=>zjV x0 x1 (xs.getD 0 Z) (xs.getD 1 Z) H B1 K
def zjc:Nat→List Nat:=fun k=>match k with | 3=>[5,6] | 6=>[5,7] | _=>[]
theorem zqU (x0 x1:AV) (H:List Ob) (r:AV) (Ho:List Ob):aBody Tryz.prog zjc Tryz.f77 H [x0,x1] r Ho=ziA x0 x1 H (fun v H'=>Gives H.length v H' r Ho):=by kernel_rfl
theorem zqV {x0 x1:AV} {r:AV} {Ho:List Ob} (h:ziA x0 x1 [] (fun v H'=>Gives 0 v H' r Ho)):Abs.Fn Tryz.prog zgM [] [x0,x1] r Ho :=
 zh mixed zjc (fn:=Tryz.f77) (by kernel_rfl) (by kernel_rfl) (by rw [zqU]; exact h)
def zjT (q1s0 y0:AV) (H:List Ob) (B1:List AV→List Ob→Prop) (K:AV→List Ob→Prop):Prop :=
 aLen false true q1s0 fun v14 =>
 aBin false false .lss y0 v14 fun v15 =>
 ze v15
 (zkr q1s0 y0 fun v16 =>
 aBin false false .lss v16 (.p (.int .u8 97)) fun v17 =>
 zm false v17 (fun Q18 =>
 zkr q1s0 y0 fun v19 =>
 aBin false false .gtr v19 (.p (.int .u8 122)) fun v20 =>
 (H=H∧Q18 v20)) fun v21 =>
 zm true v21 (fun Q22 =>
 zkr q1s0 y0 fun v23 =>
 aBin false false .lss v23 (.p (.int .u8 48)) fun v24 =>
 zm false v24 (fun Q25 =>
 zkr q1s0 y0 fun v26 =>
 aBin false false .gtr v26 (.p (.int .u8 57)) fun v27 =>
 (H=H∧Q25 v27)) fun v28 =>
 (H=H∧Q22 v28)) fun v29 =>
 zm true v29 (fun Q30 =>
 zkr q1s0 y0 fun v31 =>
 aBin false false .neq v31 (.p (.int .u8 95)) fun v32 =>
 (H=H∧Q30 v32)) fun v33 =>
 ze v33
 (K (.p (.bool false)) H)
 (aBin false false .add y0 (.p (.int .i64 1)) fun v34 =>
 B1 [v34] H))
 (K (.p (.bool true)) H)
def zfx (x0:AV) (H:List Ob) (K:AV→List Ob→Prop):Prop :=
 aLen false true x0 fun v0 =>
 aBin false false .lss v0 (.p (.int .i64 1)) fun v1 =>
 zm false v1 (fun Q2 =>
 aLenS true x0 fun v3 =>
 aBin false false .gtr v3 (.p (.int .i64 16)) fun v4 =>
 (H=H∧Q2 v4)) fun v5 =>
 zm false v5 (fun Q6 =>
 zkr x0 (.p (.int .i64 0)) fun v7 =>
 aBin false false .lss v7 (.p (.int .u8 97)) fun v8 =>
 (H=H∧Q6 v8)) fun v9 =>
 zm false v9 (fun Q10 =>
 zkr x0 (.p (.int .i64 0)) fun v11 =>
 aBin false false .gtr v11 (.p (.int .u8 122)) fun v12 =>
 (H=H∧Q10 v12)) fun v13 =>
 ze v13
 (K (.p (.bool false)) H)
 (zD 1 [(.p (.int .i64 0))] H fun xs H B1=>zjT x0 (xs.getD 0 Z) H B1 K)
def zjb:Nat→List Nat:=fun k=>match k with | 4=>[3] | _=>[]
theorem zqS (x0:AV) (H:List Ob) (r:AV) (Ho:List Ob):aBody Tryz.prog zjb Tryz.f119 H [x0] r Ho=zfx x0 H (fun v H'=>Gives H.length v H' r Ho):=by kernel_rfl
theorem zqT {x0:AV} {r:AV} {Ho:List Ob} (h:zfx x0 [] (fun v H'=>Gives 0 v H' r Ho)):Abs.Fn Tryz.prog zcI [] [x0] r Ho :=
 zh mixed zjb (fn:=Tryz.f119) (by kernel_rfl) (by kernel_rfl) (by rw [zqS]; exact h)
def zgL (q2s1 q2s2 q2s4 q2s7 y0 y1:AV) (H:List Ob) (B2:List AV→List Ob→Prop) (K:AV→List Ob→Prop):Prop :=
 za 4 q2s2 fun v84 =>
 aLoad false 1 v84 H fun v85 =>
 aLen false false v85 fun v86 =>
 aBin false false .lss y1 v86 fun v87 =>
 ze v87
 (zy [(.p (.int .i64 0)),(.full [])] H fun v88 h89 =>
 za 4 q2s2 fun v90 =>
 aLoad false 1 v90 h89 fun v91 =>
 zb 8 v91 y1 fun v92 =>
 aLoad true 8 v92 h89 fun v93 =>
 zb 2 q2s1 (.p (.int .i64 0)) fun v94 =>
 aLoad true 2 v94 h89 fun v95 =>
 zJ Tryz.prog (.p (.func zco [])) [v93,v95] fun v96 =>
 zB v96 0 fun v97 =>
 zB v96 1 fun v98 =>
 zi 2 v88 v97 h89 fun _ h100 =>
 aBin false false .neq v98 (.p (.int .i64 0)) fun v101 =>
 ze v101
 (zp [(.p (.int .i64 0)),(.full [])] [] fun v102 =>
 zi 2 q2s4 v102 h100 fun _ h104 =>
 aLoad true 2 q2s4 h104 fun v105 =>
 K (.tup [v105,v98]) h104)
 (aLoad true 2 v88 h100 fun v106 =>
 zk 2 [v106] fun v107 =>
 zH false 2 32 y0 v107 h100 fun v108 h109 =>
 aBin false false .add y1 (.p (.int .i64 1)) fun v110 =>
 B2 [v108,v110] h109))
 (aLoad true 15 q2s2 H fun v111 =>
 aLoad true 2 q2s7 H fun v112 =>
 aCall Tryz.prog (.p (.func zdS [])) [v111,q2s1,v112,y0] H fun v113 h114 =>
 zB v113 0 fun v115 =>
 zB v113 1 fun v116 =>
 zi 2 q2s4 v115 h114 fun _ h118 =>
 aLoad true 2 q2s4 h118 fun v119 =>
 K (.tup [v119,v116]) h118)
def zdQ (j1s1 j1s2 j1s4 j1s7:AV) (H:List Ob) (K:AV→List Ob→Prop):Prop :=
 zD 2 [(.full []),(.p (.int .i64 0))] H fun xs H B2=>zgL j1s1 j1s2 j1s4 j1s7 (xs.getD 0 Z) (xs.getD 1 Z) H B2 K
def zk4 (q1s1 q1s2 q1s4 y0:AV) (H:List Ob) (B1:List AV→List Ob→Prop) (K:AV→List Ob→Prop):Prop :=
 aLen false false q1s1 fun v50 =>
 aBin false false .lss y0 v50 fun v51 =>
 ze v51
 (zb 2 q1s1 y0 fun v52 =>
 aLoad true 2 v52 H fun v53 =>
 aCall Tryz.prog (.p (.func zaC [])) [v53] H fun v54 h55 =>
 aBin false false .neq v54 (.p (.int .i64 0)) fun v56 =>
 ze v56
 (zp [(.p (.int .i64 0)),(.full [])] [] fun v57 =>
 zi 2 q1s4 v57 h55 fun _ h59 =>
 aLoad true 2 q1s4 h59 fun v60 =>
 K (.tup [v60,(.p (.int .i64 5))]) h59)
 (aBin false false .add y0 (.p (.int .i64 1)) fun v61 =>
 B1 [v61] h55))
 (za 0 q1s2 fun v62 =>
 aLoad false 1 v62 H fun v63 =>
 aBin false false .eql v63 (.p (.int .i64 1)) fun v64 =>
 ze v64
 (za 2 q1s2 fun v65 =>
 aLoad true 2 v65 H fun v66 =>
 aCall Tryz.prog (.p (.func zaC [])) [v66] H fun v67 h68 =>
 aBin false false .neq v67 (.p (.int .i64 0)) fun v69 =>
 ze v69
 (zp [(.p (.int .i64 0)),(.full [])] [] fun v70 =>
 zi 2 q1s4 v70 h68 fun _ h72 =>
 aLoad true 2 q1s4 h72 fun v73 =>
 K (.tup [v73,(.p (.int .i64 5))]) h72)
 (za 2 q1s2 fun v74 =>
 aLoad true 2 v74 h68 fun v75 =>
 zi 2 q1s4 v75 h68 fun _ h77 =>
 aLoad true 2 q1s4 h77 fun v78 =>
 K (.tup [v78,(.p (.int .i64 0))]) h77))
 (zp [(.p (.int .i64 0)),(.full [])] [] fun v79 =>
 zy [(.p (.int .i64 0)),(.full [])] H fun v80 h81 =>
 zi 2 v80 v79 h81 fun _ h83 =>
 aLoad true 15 q1s2 h83 fun v120 =>
 aCall Tryz.prog (.p (.func zdq [])) [v120] h83 fun v121 h122 =>
 ze v121
 (zy [(.p (.int .i64 0)),(.full [])] h122 fun v123 h124 =>
 za 5 q1s2 fun v125 =>
 aLoad true 8 v125 h124 fun v126 =>
 zb 2 q1s1 (.p (.int .i64 0)) fun v127 =>
 aLoad true 2 v127 h124 fun v128 =>
 zJ Tryz.prog (.p (.func zco [])) [v126,v128] fun v129 =>
 zB v129 0 fun v130 =>
 zB v129 1 fun v131 =>
 zi 2 v123 v130 h124 fun _ h133 =>
 aBin false false .neq v131 (.p (.int .i64 0)) fun v134 =>
 ze v134
 (zp [(.p (.int .i64 0)),(.full [])] [] fun v135 =>
 zi 2 q1s4 v135 h133 fun _ h137 =>
 aLoad true 2 q1s4 h137 fun v138 =>
 K (.tup [v138,v131]) h137)
 (aLoad true 2 v123 h133 fun v139 =>
 zi 2 v80 v139 h133 fun _ h141 =>
 zdQ q1s1 q1s2 q1s4 v80 h141 K))
 (zdQ q1s1 q1s2 q1s4 v80 h122 K)))
def zjE (x0 x1:AV) (H:List Ob) (K:AV→List Ob→Prop):Prop :=
 aBox x0 H fun v0 h1 =>
 zy [(.p (.int .i64 0)),(.full [])] h1 fun v2 h3 =>
 za 0 v0 fun v4 =>
 aLoad false 1 v4 h3 fun v5 =>
 aBin false false .lss v5 (.p (.int .i64 1)) fun v6 =>
 zm false v6 (fun Q7 =>
 za 0 v0 fun v8 =>
 aLoad false 1 v8 h3 fun v9 =>
 aBin false false .gtr v9 (.p (.int .i64 9)) fun v10 =>
 (h3=h3∧Q7 v10)) fun v11 =>
 ze v11
 (zp [(.p (.int .i64 0)),(.full [])] [] fun v12 =>
 zi 2 v2 v12 h3 fun _ h14 =>
 aLoad true 2 v2 h14 fun v15 =>
 K (.tup [v15,(.p (.int .i64 6))]) h14)
 (za 0 v0 fun v16 =>
 aLoad false 1 v16 h3 fun v17 =>
 aBin false false .eql v17 (.p (.int .i64 1)) fun v18 =>
 zm false v18 (fun Q19 =>
 za 0 v0 fun v20 =>
 aLoad false 1 v20 h3 fun v21 =>
 aBin false false .eql v21 (.p (.int .i64 9)) fun v22 =>
 (h3=h3∧Q19 v22)) fun v23 =>
 zm true v23 (fun Q24 =>
 za 1 v0 fun v25 =>
 aLoad false 1 v25 h3 fun v26 =>
 aCall Tryz.prog (.p (.func zcI [])) [v26] h3 fun v27 h28 =>
 aUn .not v27 fun v29 =>
 (h28=h3∧Q24 v29)) fun v30 =>
 ze v30
 (zp [(.p (.int .i64 0)),(.full [])] [] fun v31 =>
 zi 2 v2 v31 h3 fun _ h33 =>
 aLoad true 2 v2 h33 fun v34 =>
 K (.tup [v34,(.p (.int .i64 6))]) h33)
 (aLoad true 15 v0 h3 fun v35 =>
 aCall Tryz.prog (.p (.func ze8 [])) [v35] h3 fun v36 h37 =>
 zm false v36 (fun Q38 =>
 za 0 v0 fun v39 =>
 aLoad false 1 v39 h37 fun v40 =>
 aLenS false x1 fun v41 =>
 aCall Tryz.prog (.p (.func zhI [])) [v40,v41] h37 fun v42 h43 =>
 aUn .not v42 fun v44 =>
 (h43=h37∧Q38 v44)) fun v45 =>
 ze v45
 (zp [(.p (.int .i64 0)),(.full [])] [] fun v46 =>
 zi 2 v2 v46 h37 fun _ h48 =>
 aLoad true 2 v2 h48 fun v49 =>
 K (.tup [v49,(.p (.int .i64 1))]) h48)
 (zD 1 [(.p (.int .i64 0))] h37 fun xs H B1=>zk4 x1 v0 v2 (xs.getD 0 Z) H B1 K)))
def zjU:Nat→List Nat:=fun k=>match k with | 8=>[6] | 24=>[10,11] | _=>[]
theorem zsj (x0 x1:AV) (H:List Ob) (r:AV) (Ho:List Ob):aBody Tryz.prog zjU Tryz.f120 H [x0,x1] r Ho=zjE x0 x1 H (fun v H'=>Gives H.length v H' r Ho):=by kernel_rfl
theorem zsk {x0 x1:AV} {r:AV} {Ho:List Ob} (h:zjE x0 x1 [] (fun v H'=>Gives 0 v H' r Ho)):Abs.Fn Tryz.prog zeB [] [x0,x1] r Ho :=
 zh mixed zjU (fn:=Tryz.f120) (by kernel_rfl) (by kernel_rfl) (by rw [zsj]; exact h)
def zh8 (q2s0 q2s5 q2s6 y0 y1:AV) (H:List Ob) (B2:List AV→List Ob→Prop) (B1:List AV→List Ob→Prop) (K:AV→List Ob→Prop):Prop :=
 zb 21 q2s0 q2s6 fun v1 =>
 za 16 v1 fun v2 =>
 aLoad false 1 v2 H fun v3 =>
 aLen false false v3 fun v4 =>
 aBin false false .lss y1 v4 fun v5 =>
 ze v5
 (zb 21 q2s0 q2s6 fun v6 =>
 za 16 v6 fun v7 =>
 aLoad false 1 v7 H fun v8 =>
 zb 1 v8 y1 fun v9 =>
 aLoad false 1 v9 H fun v10 =>
 zb 1 q2s5 v10 fun v11 =>
 aLoad false 1 v11 H fun v12 =>
 aBin false false .add y0 v12 fun v13 =>
 aBin false false .add y1 (.p (.int .i64 1)) fun v14 =>
 B2 [v13,v14] H)
 (zb 21 q2s0 q2s6 fun v15 =>
 za 1 v15 fun v16 =>
 za 0 v16 fun v17 =>
 aLoad false 1 v17 H fun v18 =>
 aBin false false .eql v18 (.p (.int .i64 1)) fun v19 =>
 ze v19
 (zk 1 [(.p (.int .i64 1))] fun v20 =>
 zH false 1 8 q2s5 v20 H fun v21 h22 =>
 aBin false false .add q2s6 (.p (.int .i64 1)) fun v23 =>
 B1 [v21,v23] h22)
 (aBin false false .eql v18 (.p (.int .i64 4)) fun v24 =>
 ze v24
 (zb 21 q2s0 q2s6 fun v25 =>
 za 1 v25 fun v26 =>
 za 4 v26 fun v27 =>
 aLoad false 1 v27 H fun v28 =>
 aLen false false v28 fun v29 =>
 aBin false false .mul y0 v29 fun v30 =>
 zk 1 [v30] fun v31 =>
 zH false 1 8 q2s5 v31 H fun v32 h33 =>
 aBin false false .add q2s6 (.p (.int .i64 1)) fun v34 =>
 B1 [v32,v34] h33)
 (zk 1 [y0] fun v35 =>
 zH false 1 8 q2s5 v35 H fun v36 h37 =>
 aBin false false .add q2s6 (.p (.int .i64 1)) fun v38 =>
 B1 [v36,v38] h37)))
def zh7 (q1s0 q1s1 y0 y1:AV) (H:List Ob) (B1:List AV→List Ob→Prop) (K:AV→List Ob→Prop):Prop :=
 aBin false false .leq y1 q1s1 fun v0 =>
 ze v0
 (zD 2 [(.p (.int .i64 0)),(.p (.int .i64 0))] H fun xs H B2=>zh8 q1s0 y0 y1 (xs.getD 0 Z) (xs.getD 1 Z) H B2 B1 K)
 (zb 1 y0 q1s1 fun v39 =>
 aLoad false 1 v39 H fun v40 =>
 K v40 H)
def zgR (x0 x1:AV) (H:List Ob) (K:AV→List Ob→Prop):Prop :=
 zD 2 [(.full []),(.p (.int .i64 0))] H fun xs H B1=>zh7 x0 x1 (xs.getD 0 Z) (xs.getD 1 Z) H B1 K
def zhK:Nat→List Nat:=fun k=>match k with | 3=>[5,6] | 7=>[7,8] | _=>[]
theorem zoC (x0 x1:AV) (H:List Ob) (r:AV) (Ho:List Ob):aBody Tryz.prog zhK Tryz.f121 H [x0,x1] r Ho=zgR x0 x1 H (fun v H'=>Gives H.length v H' r Ho):=by kernel_rfl
theorem zoD {x0 x1:AV} {r:AV} {Ho:List Ob} (h:zgR x0 x1 [] (fun v H'=>Gives 0 v H' r Ho)):Abs.Fn Tryz.prog zfc [] [x0,x1] r Ho :=
 zh mixed zhK (fn:=Tryz.f121) (by kernel_rfl) (by kernel_rfl) (by rw [zoC]; exact h)
def zbI (j1s1 j1s3 j1s4 j1s5:AV) (H:List Ob) (K:AV→List Ob→Prop):Prop :=
 aUn .not j1s3 fun v10 =>
 zm true v10 (fun Q11 =>
 za 1 j1s1 fun v12 =>
 aLoad false 1 v12 H fun v13 =>
 aBin false false .neq v13 (.p (.str [])) fun v14 =>
 (H=H∧Q11 v14)) fun v15 =>
 ze v15
 (K (.p (.bool true)) H)
 (za 0 j1s1 fun v16 =>
 aLoad false 1 v16 H fun v17 =>
 aBin false false .neq v17 (.p (.int .i64 1)) fun v18 =>
 zm true v18 (fun Q19 =>
 za 2 j1s1 fun v20 =>
 za 0 v20 fun v21 =>
 aLoad false 1 v21 H fun v22 =>
 aBin false false .neq v22 (.p (.int .i64 0)) fun v23 =>
 zm false v23 (fun Q24 =>
 za 2 j1s1 fun v25 =>
 za 1 v25 fun v26 =>
 aLoad false 1 v26 H fun v27 =>
 aLenS false v27 fun v28 =>
 aBin false false .gtr v28 (.p (.int .i64 0)) fun v29 =>
 (H=H∧Q24 v29)) fun v30 =>
 (H=H∧Q19 v30)) fun v31 =>
 ze v31
 (K (.p (.bool true)) H)
 (za 4 j1s1 fun v32 =>
 aLoad false 1 v32 H fun v33 =>
 aLen false false v33 fun v34 =>
 aBin false false .lss v34 j1s4 fun v35 =>
 zm false v35 (fun Q36 =>
 za 4 j1s1 fun v37 =>
 aLoad false 1 v37 H fun v38 =>
 aLenS false v38 fun v39 =>
 aBin false false .gtr v39 j1s5 fun v40 =>
 (H=H∧Q36 v40)) fun v41 =>
 ze v41
 (K (.p (.bool true)) H)
 (aLoad true 15 j1s1 H fun v42 =>
 aCall Tryz.prog (.p (.func zdq [])) [v42] H fun v43 h44 =>
 aUn .not v43 fun v45 =>
 zm true v45 (fun Q46 =>
 za 5 j1s1 fun v47 =>
 aLoad true 8 v47 h44 fun v48 =>
 aCall Tryz.prog (.p (.func zgO [])) [v48] h44 fun v49 h50 =>
 aUn .not v49 fun v51 =>
 (h50=h44∧Q46 v51)) fun v52 =>
 ze v52
 (K (.p (.bool true)) h44)
 (za 0 j1s1 fun v53 =>
 aLoad false 1 v53 h44 fun v54 =>
 aBin false false .eql v54 (.p (.int .i64 5)) fun v55 =>
 zm true v55 (fun Q56 =>
 za 13 j1s1 fun v57 =>
 aLoad false 1 v57 h44 fun v58 =>
 aBin false false .lss v58 (.p (.int .i64 1)) fun v59 =>
 zm false v59 (fun Q60 =>
 za 13 j1s1 fun v61 =>
 aLoad false 1 v61 h44 fun v62 =>
 aBin false false .gtr v62 (.p (.int .i64 4)) fun v63 =>
 (h44=h44∧Q60 v63)) fun v64 =>
 (h44=h44∧Q56 v64)) fun v65 =>
 zm false v65 (fun Q66 =>
 za 0 j1s1 fun v67 =>
 aLoad false 1 v67 h44 fun v68 =>
 aBin false false .neq v68 (.p (.int .i64 5)) fun v69 =>
 zm true v69 (fun Q70 =>
 za 13 j1s1 fun v71 =>
 aLoad false 1 v71 h44 fun v72 =>
 aBin false false .neq v72 (.p (.int .i64 0)) fun v73 =>
 (h44=h44∧Q70 v73)) fun v74 =>
 (h44=h44∧Q66 v74)) fun v75 =>
 ze v75
 (K (.p (.bool true)) h44)
 (za 0 j1s1 fun v76 =>
 aLoad false 1 v76 h44 fun v77 =>
 aBin false false .eql v77 (.p (.int .i64 6)) fun v78 =>
 zm true v78 (fun Q79 =>
 za 14 j1s1 fun v80 =>
 aLoad false 1 v80 h44 fun v81 =>
 aBin false false .lss v81 (.p (.int .i64 1)) fun v82 =>
 zm false v82 (fun Q83 =>
 za 14 j1s1 fun v84 =>
 aLoad false 1 v84 h44 fun v85 =>
 aBin false false .gtr v85 (.p (.int .i64 1000)) fun v86 =>
 (h44=h44∧Q83 v86)) fun v87 =>
 (h44=h44∧Q79 v87)) fun v88 =>
 zm false v88 (fun Q89 =>
 za 0 j1s1 fun v90 =>
 aLoad false 1 v90 h44 fun v91 =>
 aBin false false .neq v91 (.p (.int .i64 6)) fun v92 =>
 zm true v92 (fun Q93 =>
 za 14 j1s1 fun v94 =>
 aLoad false 1 v94 h44 fun v95 =>
 aBin false false .neq v95 (.p (.int .i64 0)) fun v96 =>
 (h44=h44∧Q93 v96)) fun v97 =>
 (h44=h44∧Q89 v97)) fun v98 =>
 K v98 h44)))))
def zgP (x0:AV) (H:List Ob) (K:AV→List Ob→Prop):Prop :=
 aBox x0 H fun v0 h1 =>
 za 0 v0 fun v2 =>
 aLoad false 1 v2 h1 fun v3 =>
 aBin false false .eql v3 (.p (.int .i64 1)) fun v4 =>
 zm false v4 (fun Q5 =>
 za 0 v0 fun v6 =>
 aLoad false 1 v6 h1 fun v7 =>
 aBin false false .eql v7 (.p (.int .i64 9)) fun v8 =>
 (h1=h1∧Q5 v8)) fun v9 =>
 za 0 v0 fun v99 =>
 aLoad false 1 v99 h1 fun v100 =>
 aBin false false .eql v100 (.p (.int .i64 2)) fun v101 =>
 zm false v101 (fun Q102 =>
 aBin false false .eql v100 (.p (.int .i64 3)) fun v103 =>
 zm false v103 (fun Q104 =>
 aBin false false .eql v100 (.p (.int .i64 5)) fun v105 =>
 (h1=h1∧Q104 v105)) fun v106 =>
 (h1=h1∧Q102 v106)) fun v107 =>
 ze v107
 (zbI v0 v9 (.p (.int .i64 1)) (.p (.int .i64 1)) h1 K)
 (aBin false false .eql v100 (.p (.int .i64 4)) fun v108 =>
 ze v108
 (zbI v0 v9 (.p (.int .i64 1)) (.p (.int .i64 4)) h1 K)
 (zbI v0 v9 (.p (.int .i64 0)) (.p (.int .i64 0)) h1 K))
def zhH:Nat→List Nat:=fun k=>match k with | 1000007=>[1] | 1000006=>[1] | _=>[]
theorem zoy (x0:AV) (H:List Ob) (r:AV) (Ho:List Ob):aBody Tryz.prog zhH Tryz.f154 H [x0] r Ho=zgP x0 H (fun v H'=>Gives H.length v H' r Ho):=by kernel_rfl
theorem zoz {x0:AV} {r:AV} {Ho:List Ob} (h:zgP x0 [] (fun v H'=>Gives 0 v H' r Ho)):Abs.Fn Tryz.prog ze8 [] [x0] r Ho :=
 zh mixed zhH (fn:=Tryz.f154) (by kernel_rfl) (by kernel_rfl) (by rw [zoy]; exact h)
def zjF (x0 x1:AV) (H:List Ob) (K:AV→List Ob→Prop):Prop :=
 aBin false false .eql x0 (.p (.int .i64 1)) fun v0 =>
 ze v0
 (aBin false false .eql x1 (.p (.int .i64 0)) fun v1 =>
 K v1 H)
 (aBin false false .eql x0 (.p (.int .i64 8)) fun v2 =>
 ze v2
 (aBin false false .geq x1 (.p (.int .i64 2)) fun v3 =>
 zm true v3 (fun Q4 =>
 aBin false false .leq x1 (.p (.int .i64 4)) fun v5 =>
 (H=H∧Q4 v5)) fun v6 =>
 K v6 H)
 (aBin false false .eql x1 (.p (.int .i64 1)) fun v7 =>
 K v7 H))
def zjX:Nat→List Nat:=fun _=>[]
theorem zsl (x0 x1:AV) (H:List Ob) (r:AV) (Ho:List Ob):aBody Tryz.prog zjX Tryz.f155 H [x0,x1] r Ho=zjF x0 x1 H (fun v H'=>Gives H.length v H' r Ho):=by kernel_rfl
theorem zsm {x0 x1:AV} {r:AV} {Ho:List Ob} (h:zjF x0 x1 [] (fun v H'=>Gives 0 v H' r Ho)):Abs.Fn Tryz.prog zhI [] [x0,x1] r Ho :=
 zh mixed zjX (fn:=Tryz.f155) (by kernel_rfl) (by kernel_rfl) (by rw [zsl]; exact h)
def zhF (x0:AV) (H:List Ob) (K:AV→List Ob→Prop):Prop :=
 aBox x0 H fun v0 h1 =>
 za 0 v0 fun v2 =>
 aLoad false 1 v2 h1 fun v3 =>
 aBin false false .eql v3 (.p (.int .i64 5)) fun v4 =>
 zm false v4 (fun Q5 =>
 za 0 v0 fun v6 =>
 aLoad false 1 v6 h1 fun v7 =>
 aBin false false .eql v7 (.p (.int .i64 6)) fun v8 =>
 (h1=h1∧Q5 v8)) fun v9 =>
 zm false v9 (fun Q10 =>
 za 0 v0 fun v11 =>
 aLoad false 1 v11 h1 fun v12 =>
 aBin false false .eql v12 (.p (.int .i64 7)) fun v13 =>
 (h1=h1∧Q10 v13)) fun v14 =>
 K v14 h1
def zh4:Nat→List Nat:=fun _=>[]
theorem zpZ (x0:AV) (H:List Ob) (r:AV) (Ho:List Ob):aBody Tryz.prog zh4 Tryz.f157 H [x0] r Ho=zhF x0 H (fun v H'=>Gives H.length v H' r Ho):=by kernel_rfl
theorem zp0 {x0:AV} {r:AV} {Ho:List Ob} (h:zhF x0 [] (fun v H'=>Gives 0 v H' r Ho)):Abs.Fn Tryz.prog zdq [] [x0] r Ho :=
 zh mixed zh4 (fn:=Tryz.f157) (by kernel_rfl) (by kernel_rfl) (by rw [zpZ]; exact h)
def zfY (q1s3 q1s8 y0:AV) (H:List Ob) (B1:List AV→List Ob→Prop) (K:AV→List Ob→Prop):Prop :=
 aLen false false q1s3 fun v29 =>
 aBin false false .lss y0 v29 fun v30 =>
 ze v30
 (zb 2 q1s3 y0 fun v31 =>
 aLoad true 2 v31 H fun v32 =>
 zb 2 q1s3 (.p (.int .i64 0)) fun v33 =>
 aLoad true 2 v33 H fun v34 =>
 zJ Tryz.prog (.p (.func zan [])) [v32,v34] fun v35 =>
 aUn .not v35 fun v36 =>
 ze v36
 (zp [(.p (.int .i64 0)),(.full [])] [] fun v37 =>
 zi 2 q1s8 v37 H fun _ h39 =>
 aLoad true 2 q1s8 h39 fun v40 =>
 K (.tup [v40,(.p (.int .i64 5))]) h39)
 (aBin false false .add y0 (.p (.int .i64 1)) fun v41 =>
 B1 [v41] H))
 (zb 2 q1s3 (.p (.int .i64 0)) fun v42 =>
 aLoad true 2 v42 H fun v43 =>
 zi 2 q1s8 v43 H fun _ h45 =>
 aLoad true 2 q1s8 h45 fun v46 =>
 K (.tup [v46,(.p (.int .i64 0))]) h45)
def zfZ (q2s1 q2s8 y0:AV) (H:List Ob) (B2:List AV→List Ob→Prop) (K:AV→List Ob→Prop):Prop :=
 aLen false false q2s1 fun v90 =>
 aBin false false .lss y0 v90 fun v91 =>
 ze v91
 (zb 2 q2s1 y0 fun v92 =>
 aLoad true 2 v92 H fun v93 =>
 zb 2 q2s1 (.p (.int .i64 0)) fun v94 =>
 aLoad true 2 v94 H fun v95 =>
 zJ Tryz.prog (.p (.func zan [])) [v93,v95] fun v96 =>
 aUn .not v96 fun v97 =>
 ze v97
 (zp [(.p (.int .i64 0)),(.full [])] [] fun v98 =>
 zi 2 q2s8 v98 H fun _ h100 =>
 aLoad true 2 q2s8 h100 fun v101 =>
 K (.tup [v101,(.p (.int .i64 5))]) h100)
 (aBin false false .add y0 (.p (.int .i64 1)) fun v102 =>
 B2 [v102] H))
 (zb 2 q2s1 (.p (.int .i64 0)) fun v103 =>
 aLoad true 2 v103 H fun v104 =>
 zi 2 q2s8 v104 H fun _ h106 =>
 aLoad true 2 q2s8 h106 fun v107 =>
 K (.tup [v107,(.p (.int .i64 0))]) h106)
def ziC (x0 x1 x2 x3:AV) (H:List Ob) (K:AV→List Ob→Prop):Prop :=
 aBox x0 H fun v0 h1 =>
 aBox x2 h1 fun v2 h3 =>
 zy [(.p (.int .i64 0)),(.full [])] h3 fun v4 h5 =>
 za 0 v0 fun v6 =>
 aLoad false 1 v6 h5 fun v7 =>
 aBin false false .eql v7 (.p (.int .i64 2)) fun v8 =>
 ze v8
 (zb 2 x3 (.p (.int .i64 0)) fun v9 =>
 aLoad true 2 v9 h5 fun v10 =>
 zi 2 v4 v10 h5 fun _ h12 =>
 aLoad true 2 v4 h12 fun v13 =>
 K (.tup [v13,(.p (.int .i64 0))]) h12)
 (aBin false false .eql v7 (.p (.int .i64 3)) fun v14 =>
 ze v14
 (zb 2 x3 (.p (.int .i64 0)) fun v15 =>
 za 0 v15 fun v16 =>
 aLoad false 1 v16 h5 fun v17 =>
 aBin false false .neq v17 (.p (.int .i64 2)) fun v18 =>
 ze v18
 (zp [(.p (.int .i64 0)),(.full [])] [] fun v19 =>
 zi 2 v4 v19 h5 fun _ h21 =>
 aLoad true 2 v4 h21 fun v22 =>
 K (.tup [v22,(.p (.int .i64 5))]) h21)
 (zb 2 x1 (.p (.int .i64 0)) fun v23 =>
 aLoad true 2 v23 h5 fun v24 =>
 zi 2 v4 v24 h5 fun _ h26 =>
 aLoad true 2 v4 h26 fun v27 =>
 K (.tup [v27,(.p (.int .i64 0))]) h26))
 (aBin false false .eql v7 (.p (.int .i64 4)) fun v28 =>
 ze v28
 (zD 1 [(.p (.int .i64 1))] h5 fun xs H B1=>zfY x3 v4 (xs.getD 0 Z) H B1 K)
 (aBin false false .eql v7 (.p (.int .i64 5)) fun v47 =>
 zm false v47 (fun Q48 =>
 aBin false false .eql v7 (.p (.int .i64 6)) fun v49 =>
 (h5=h5∧Q48 v49)) fun v50 =>
 ze v50
 (za 0 v0 fun v51 =>
 aLoad false 1 v51 h5 fun v52 =>
 aBin false false .eql v52 (.p (.int .i64 5)) fun v53 =>
 zm true v53 (fun Q54 =>
 zb 2 x3 (.p (.int .i64 0)) fun v55 =>
 za 0 v55 fun v56 =>
 aLoad false 1 v56 h5 fun v57 =>
 aBin false false .neq v57 (.p (.int .i64 1)) fun v58 =>
 (h5=h5∧Q54 v58)) fun v59 =>
 ze v59
 (zp [(.p (.int .i64 0)),(.full [])] [] fun v60 =>
 zi 2 v4 v60 h5 fun _ h62 =>
 aLoad true 2 v4 h62 fun v63 =>
 K (.tup [v63,(.p (.int .i64 5))]) h62)
 (zy [(.p (.int .i64 0)),(.full [])] h5 fun v64 h65 =>
 aLoad true 2 v2 h65 fun v66 =>
 zJ Tryz.prog (.p (.func zcJ [])) [(.p (.int .i64 1))] fun v67 =>
 zk 2 [v66,v67] fun v68 =>
 zp [(.p (.int .i64 0)),(.full [])] [(0,1,(.p (.int .i64 4))),(1,1,v68)] fun v69 =>
 zi 2 v64 v69 h65 fun _ h71 =>
 aLoad true 2 v64 h71 fun v72 =>
 aCall Tryz.prog (.p (.func zaC [])) [v72] h71 fun v73 h74 =>
 aBin false false .neq v73 (.p (.int .i64 0)) fun v75 =>
 ze v75
 (zp [(.p (.int .i64 0)),(.full [])] [] fun v76 =>
 zi 2 v4 v76 h74 fun _ h78 =>
 aLoad true 2 v4 h78 fun v79 =>
 K (.tup [v79,v73]) h78)
 (aLoad true 2 v64 h74 fun v80 =>
 zi 2 v4 v80 h74 fun _ h82 =>
 aLoad true 2 v4 h82 fun v83 =>
 K (.tup [v83,(.p (.int .i64 0))]) h82)))
 (aBin false false .eql v7 (.p (.int .i64 7)) fun v84 =>
 ze v84
 (aLoad true 2 v2 h5 fun v85 =>
 zi 2 v4 v85 h5 fun _ h87 =>
 aLoad true 2 v4 h87 fun v88 =>
 K (.tup [v88,(.p (.int .i64 0))]) h87)
 (aBin false false .eql v7 (.p (.int .i64 8)) fun v89 =>
 ze v89
 (zD 1 [(.p (.int .i64 1))] h5 fun xs H B2=>zfZ x1 v4 (xs.getD 0 Z) H B2 K)
 (zb 2 x1 (.p (.int .i64 0)) fun v108 =>
 aLoad true 2 v108 h5 fun v109 =>
 zi 2 v4 v109 h5 fun _ h111 =>
 aLoad true 2 v4 h111 fun v112 =>
 K (.tup [v112,(.p (.int .i64 0))]) h111))))))
def zje:Nat→List Nat:=fun k=>match k with | 9=>[10] | 27=>[13] | 1000015=>[1] | _=>[]
theorem zqY (x0 x1 x2 x3:AV) (H:List Ob) (r:AV) (Ho:List Ob):aBody Tryz.prog zje Tryz.f159 H [x0,x1,x2,x3] r Ho=ziC x0 x1 x2 x3 H (fun v H'=>Gives H.length v H' r Ho):=by kernel_rfl
theorem zqZ {x0 x1 x2 x3:AV} {r:AV} {Ho:List Ob} (h:ziC x0 x1 x2 x3 [] (fun v H'=>Gives 0 v H' r Ho)):Abs.Fn Tryz.prog zdS [] [x0,x1,x2,x3] r Ho :=
 zh mixed zje (fn:=Tryz.f159) (by kernel_rfl) (by kernel_rfl) (by rw [zqY]; exact h)
def ziB (x0:AV) (H:List Ob) (K:AV→List Ob→Prop):Prop :=
 aBox x0 H fun v0 h1 =>
 za 0 v0 fun v2 =>
 aLoad false 1 v2 h1 fun v3 =>
 aBin false false .eql v3 (.p (.str [])) fun v4 =>
 zm true v4 (fun Q5 =>
 za 1 v0 fun v6 =>
 za 0 v6 fun v7 =>
 aLoad false 1 v7 h1 fun v8 =>
 aBin false false .eql v8 (.p (.int .i64 0)) fun v9 =>
 (h1=h1∧Q5 v9)) fun v10 =>
 zm true v10 (fun Q11 =>
 za 1 v0 fun v12 =>
 za 1 v12 fun v13 =>
 aLoad false 1 v13 h1 fun v14 =>
 aBin false false .eql v14 (.p (.int .i64 0)) fun v15 =>
 (h1=h1∧Q11 v15)) fun v16 =>
 zm true v16 (fun Q17 =>
 za 1 v0 fun v18 =>
 za 2 v18 fun v19 =>
 aLoad false 1 v19 h1 fun v20 =>
 aUn .not v20 fun v21 =>
 (h1=h1∧Q17 v21)) fun v22 =>
 zm true v22 (fun Q23 =>
 za 1 v0 fun v24 =>
 za 3 v24 fun v25 =>
 aLoad false 1 v25 h1 fun v26 =>
 aBin false false .eql v26 (.p (.str [])) fun v27 =>
 (h1=h1∧Q23 v27)) fun v28 =>
 zm true v28 (fun Q29 =>
 za 1 v0 fun v30 =>
 za 4 v30 fun v31 =>
 aLoad false 1 v31 h1 fun v32 =>
 aLenS false v32 fun v33 =>
 aBin false false .eql v33 (.p (.int .i64 0)) fun v34 =>
 (h1=h1∧Q29 v34)) fun v35 =>
 zm true v35 (fun Q36 =>
 za 6 v0 fun v37 =>
 aLoad false 1 v37 h1 fun v38 =>
 aBin false false .eql v38 (.p (.int .i64 0)) fun v39 =>
 (h1=h1∧Q36 v39)) fun v40 =>
 zm true v40 (fun Q41 =>
 za 7 v0 fun v42 =>
 aLoad false 1 v42 h1 fun v43 =>
 aLenS false v43 fun v44 =>
 aBin false false .eql v44 (.p (.int .i64 0)) fun v45 =>
 (h1=h1∧Q41 v45)) fun v46 =>
 K v46 h1
def zjd:Nat→List Nat:=fun _=>[]
theorem zqW (x0:AV) (H:List Ob) (r:AV) (Ho:List Ob):aBody Tryz.prog zjd Tryz.f184 H [x0] r Ho=ziB x0 H (fun v H'=>Gives H.length v H' r Ho):=by kernel_rfl
theorem zqX {x0:AV} {r:AV} {Ho:List Ob} (h:ziB x0 [] (fun v H'=>Gives 0 v H' r Ho)):Abs.Fn Tryz.prog zgO [] [x0] r Ho :=
 zh mixed zjd (fn:=Tryz.f184) (by kernel_rfl) (by kernel_rfl) (by rw [zqW]; exact h)
end Go.Proofs.YtdmgbhamigegfaaGreatDoor
end
