/- Made by program (Gen.lean): the functions' numbers. -/
import Derived.Test.YtdmgbhamigegfaaGreatDoorProg
import Derived.KernelRfl
import Derived.Test.YtdmgbhamigegfaaGreatDoorA3

section
/- Made by program (Gen.lean): the functions' numbers. -/
namespace Go.Proofs.YtdmgbhamigegfaaGreatDoor
open Go Go.Abs
abbrev Z:AV:=.top
theorem mixed:Tryz.prog.follows .mixedOrders=true:=by kernel_rfl
abbrev zgY:Nat:=5
abbrev zfE:Nat:=9
abbrev zjr:Nat:=10
abbrev zii:Nat:=11
abbrev zfb:Nat:=12
abbrev zkd:Nat:=13
abbrev zjR:Nat:=14
abbrev zgB:Nat:=21
abbrev zig:Nat:=22
abbrev zhD:Nat:=23
abbrev zjf:Nat:=24
abbrev zc7:Nat:=25
abbrev zel:Nat:=26
abbrev zhc:Nat:=27
abbrev zdq:Nat:=28
abbrev zfc:Nat:=29
abbrev zlu:Nat:=32
abbrev ziy:Nat:=34
abbrev zgK:Nat:=36
abbrev zfl:Nat:=37
abbrev zdA:Nat:=38
abbrev zfM:Nat:=39
abbrev zd7:Nat:=42
abbrev zh5:Nat:=44
abbrev zfh:Nat:=45
abbrev zjj:Nat:=46
abbrev zjo:Nat:=47
abbrev zlW:Nat:=48
abbrev zix:Nat:=49
abbrev zaJ:Nat:=50
abbrev zg8:Nat:=51
abbrev zxK:Nat:=52
abbrev zb9:Nat:=53
abbrev zR:Nat:=54
abbrev zlJ:Nat:=55
abbrev zS:Nat:=56
abbrev zgr:Nat:=57
abbrev zY:Nat:=58
abbrev zlV:Nat:=59
abbrev zeO:Nat:=60
abbrev zdw:Nat:=63
abbrev zba:Nat:=64
abbrev zdL:Nat:=65
abbrev zco:Nat:=68
abbrev zpl:Nat:=69
abbrev zrB:Nat:=70
abbrev zkC:Nat:=71
abbrev zgC:Nat:=72
abbrev zlG:Nat:=73
abbrev zjg:Nat:=74
abbrev zgI:Nat:=75
abbrev zfN:Nat:=76
abbrev zgL:Nat:=77
abbrev zid:Nat:=79
abbrev zfa:Nat:=80
abbrev zdo:Nat:=81
abbrev zgn:Nat:=82
abbrev zd5:Nat:=83
abbrev zac:Nat:=84
abbrev zcj:Nat:=85
abbrev zgD:Nat:=86
abbrev zmM:Nat:=87
abbrev zbR:Nat:=88
abbrev zjp:Nat:=89
abbrev zaZ:Nat:=90
abbrev ziY:Nat:=91
abbrev zgq:Nat:=92
abbrev zkB:Nat:=93
abbrev zcb:Nat:=94
abbrev zjT:Nat:=95
abbrev zc6:Nat:=96
abbrev zax:Nat:=97
abbrev z7:Nat:=98
abbrev zf0:Nat:=99
abbrev zli:Nat:=100
abbrev zhs:Nat:=101
abbrev zeN:Nat:=102
abbrev zaH:Nat:=103
abbrev zaf:Nat:=104
abbrev zff:Nat:=106
abbrev zlo:Nat:=107
abbrev zgR:Nat:=110
abbrev ztZ:Nat:=113
abbrev zrI:Nat:=114
abbrev zaK:Nat:=115
abbrev zbB:Nat:=116
abbrev zhl:Nat:=118
abbrev zcP:Nat:=119
abbrev zer:Nat:=120
abbrev ze6:Nat:=121
abbrev zdn:Nat:=122
abbrev zdl:Nat:=123
abbrev zeL:Nat:=124
abbrev ze2:Nat:=125
abbrev zmt:Nat:=126
abbrev zX:Nat:=127
abbrev zh4:Nat:=128
abbrev zxk:Nat:=129
abbrev zrV:Nat:=130
abbrev zbS:Nat:=131
abbrev zJ:Nat:=132
abbrev zkt:Nat:=133
abbrev zbE:Nat:=134
abbrev zed:Nat:=135
abbrev zld:Nat:=136
abbrev zZ:Nat:=137
abbrev zgm:Nat:=138
abbrev zcE:Nat:=139
abbrev zb8:Nat:=140
abbrev zW:Nat:=141
abbrev zeq:Nat:=142
abbrev zc5:Nat:=143
abbrev zP:Nat:=144
abbrev zcU:Nat:=145
abbrev zcs:Nat:=146
abbrev z8:Nat:=147
abbrev zlI:Nat:=148
abbrev zsa:Nat:=149
abbrev zr5:Nat:=150
abbrev zlh:Nat:=151
abbrev zbh:Nat:=153
abbrev zeD:Nat:=154
abbrev zhw:Nat:=155
abbrev zaC:Nat:=156
abbrev zdm:Nat:=157
abbrev zcm:Nat:=158
abbrev zdI:Nat:=159
abbrev zaI:Nat:=160
abbrev zks:Nat:=161
abbrev zmZ:Nat:=162
abbrev zjU:Nat:=163
abbrev zsg:Nat:=164
abbrev zm1:Nat:=165
abbrev zm5:Nat:=166
abbrev zgQ:Nat:=167
abbrev zpN:Nat:=168
abbrev zql:Nat:=169
abbrev zb1:Nat:=170
abbrev zcl:Nat:=174
abbrev zo4:Nat:=176
abbrev zav:Nat:=177
abbrev zoP:Nat:=178
abbrev zcG:Nat:=179
abbrev zgA:Nat:=184
abbrev zcr:Nat:=185
abbrev zet:Nat:=186
abbrev zdR:Nat:=187
abbrev zcL:Nat:=188
abbrev znw:Nat:=189
abbrev zfg:Nat:=190
abbrev zk8:Nat:=191
abbrev zj0:Nat:=192
abbrev znu:Nat:=193
abbrev zls:Nat:=194
abbrev ziv:Nat:=213
abbrev zis:Nat:=214
abbrev zkD:Nat:=215
abbrev ziw:Nat:=216
abbrev zgd:Nat:=217
abbrev ziA:Nat:=218
abbrev ziB:Nat:=219
abbrev ziz:Nat:=220
abbrev zhm:Nat:=221
abbrev zit:Nat:=222
abbrev ziC:Nat:=223
abbrev zf6:Nat:=224
abbrev zgb:Nat:=225
abbrev zkI:Nat:=226
abbrev zgs:Nat:=232
abbrev zfO:Nat:=233
abbrev zfB:Nat:=234
abbrev zbW:Nat:=235
abbrev zlS:Nat:=236
abbrev zgt:Nat:=237
abbrev zop:Nat:=238
abbrev zhi:Nat:=239
abbrev zbC:Nat:=240
abbrev zfF:Nat:=241
abbrev zrc:Nat:=242
abbrev zce:Nat:=251
abbrev zcz:Nat:=252
abbrev ztM:Nat:=253
abbrev zpT:Nat:=260
abbrev znz:Nat:=261
end Go.Proofs.YtdmgbhamigegfaaGreatDoor
end

section
/- Made by program (Gen.lean): functions of the dump, over trees. -/
set_option maxRecDepth 4000
set_option linter.unusedVariables false
namespace Go.Proofs.YtdmgbhamigegfaaGreatDoor
open Go Go.Abs
def zke (x0:AV) (H:List Ob) (K:AV→List Ob→Prop):Prop :=
 aBox x0 H fun v0 h1 =>
 aLoad true 2 v0 h1 fun v2 =>
 aCall Tryz.prog (.p (.func zdn [])) [v2,(.p (.int .i64 12)),(.p (.int .i64 300))] h1 fun v3 h4 =>
 aBin false false .gtr v3 (.p (.int .i64 0)) fun v5 =>
 K v5 h4
def zkF:Nat→List Nat:=fun _=>[]
theorem zsX (x0:AV) (H:List Ob) (r:AV) (Ho:List Ob):aBody Tryz.prog zkF Tryz.f79 H [x0] r Ho=zke x0 H (fun v H'=>Gives H.length v H' r Ho):=by kernel_rfl
theorem zsw {x0:AV} {r:AV} {Ho:List Ob} (h:zke x0 [] (fun v H'=>Gives 0 v H' r Ho)):Abs.Fn Tryz.prog zid [] [x0] r Ho :=
 zh mixed zkF (fn:=Tryz.f79) (by kernel_rfl) (by kernel_rfl) (by rw [zsX]; exact h)
def zmf (q1s1 q1s2 q1s3 y0:AV) (H:List Ob) (B1:List AV→List Ob→Prop) (K:AV→List Ob→Prop):Prop :=
 za 1 q1s1 fun v11 =>
 aLoad false 1 v11 H fun v12 =>
 aLen false false v12 fun v13 =>
 aBin false false .lss y0 v13 fun v14 =>
 ze v14
 (za 1 q1s3 fun v15 =>
 aLoad false 1 v15 H fun v16 =>
 za 1 q1s1 fun v17 =>
 aLoad false 1 v17 H fun v18 =>
 zb 2 v18 y0 fun v19 =>
 aLoad true 2 v19 H fun v20 =>
 zL Tryz.prog (.p (.func zgn [])) [v20] fun v21 =>
 zn 2 [v21] fun v22 =>
 aCalm [v16,v22] <|
 zI false 2 32 v16 v22 H fun v23 h24 =>
 za 1 q1s3 fun v25 =>
 zj 1 v25 v23 h24 fun _ h27 =>
 aBin false false .add y0 (.p (.int .i64 1)) fun v28 =>
 B1 [v28] h27)
 (aLoad true 2 q1s3 H fun v29 =>
 zj 2 q1s2 v29 H fun _ h31 =>
 aLoad true 2 q1s2 h31 fun v32 =>
 K v32 h31)
def zlU (x0:AV) (H:List Ob) (K:AV→List Ob→Prop):Prop :=
 aBox x0 H fun v0 h1 =>
 zy [(.p (.int .i64 0)),(.full [])] h1 fun v2 h3 =>
 za 0 v0 fun v4 =>
 aLoad false 1 v4 h3 fun v5 =>
 zr [(.p (.int .i64 0)),(.full [])] [(0,1,v5)] fun v6 =>
 zy [(.p (.int .i64 0)),(.full [])] h3 fun v7 h8 =>
 zj 2 v7 v6 h8 fun _ h10 =>
 zG 1 [(.p (.int .i64 0))] h10 fun xs H B1=>zmf v0 v2 v7 (xs.getD 0 Z) H B1 K
def zla:Nat→List Nat:=fun k=>match k with | 3=>[4] | _=>[]
theorem ztq (x0:AV) (H:List Ob) (r:AV) (Ho:List Ob):aBody Tryz.prog zla Tryz.f82 H [x0] r Ho=zlU x0 H (fun v H'=>Gives H.length v H' r Ho):=by kernel_rfl
theorem ztP {x0:AV} {r:AV} {Ho:List Ob} (h:zlU x0 [] (fun v H'=>Gives 0 v H' r Ho)):Abs.Fn Tryz.prog zgn [] [x0] r Ho :=
 zh mixed zla (fn:=Tryz.f82) (by kernel_rfl) (by kernel_rfl) (by rw [ztq]; exact h)
def zha (q1s2 q1s3 y0:AV) (H:List Ob) (B1:List AV→List Ob→Prop) (K:AV→List Ob→Prop):Prop :=
 za 1 q1s2 fun v18 =>
 aLoad false 1 v18 H fun v19 =>
 aLen false false v19 fun v20 =>
 aBin false false .lss y0 v20 fun v21 =>
 ze v21
 (za 1 q1s2 fun v22 =>
 aLoad false 1 v22 H fun v23 =>
 zb 2 v23 y0 fun v24 =>
 aLoad true 2 v24 H fun v25 =>
 za 1 q1s3 fun v26 =>
 aLoad false 1 v26 H fun v27 =>
 zb 2 v27 y0 fun v28 =>
 aLoad true 2 v28 H fun v29 =>
 zL Tryz.prog (.p (.func zac [])) [v25,v29] fun v30 =>
 aUn .not v30 fun v31 =>
 ze v31
 (K (.p (.bool false)) H)
 (aBin false false .add y0 (.p (.int .i64 1)) fun v32 =>
 B1 [v32] H))
 (K (.p (.bool true)) H)
def zfT (x0 x1:AV) (H:List Ob) (K:AV→List Ob→Prop):Prop :=
 aBox x0 H fun v0 h1 =>
 aBox x1 h1 fun v2 h3 =>
 za 0 v0 fun v4 =>
 aLoad false 1 v4 h3 fun v5 =>
 za 0 v2 fun v6 =>
 aLoad false 1 v6 h3 fun v7 =>
 aBin false false .neq v5 v7 fun v8 =>
 zl false v8 (fun Q9 =>
 za 1 v0 fun v10 =>
 aLoad false 1 v10 h3 fun v11 =>
 aLenS false v11 fun v12 =>
 za 1 v2 fun v13 =>
 aLoad false 1 v13 h3 fun v14 =>
 aLenS false v14 fun v15 =>
 aBin false false .neq v12 v15 fun v16 =>
 (h3=h3∧Q9 v16)) fun v17 =>
 ze v17
 (K (.p (.bool false)) h3)
 (zG 1 [(.p (.int .i64 0))] h3 fun xs H B1=>zha v0 v2 (xs.getD 0 Z) H B1 K)
def zgV:Nat→List Nat:=fun k=>match k with | 4=>[5] | _=>[]
theorem znx (x0 x1:AV) (H:List Ob) (r:AV) (Ho:List Ob):aBody Tryz.prog zgV Tryz.f84 H [x0,x1] r Ho=zfT x0 x1 H (fun v H'=>Gives H.length v H' r Ho):=by kernel_rfl
theorem znr {x0 x1:AV} {r:AV} {Ho:List Ob} (h:zfT x0 x1 [] (fun v H'=>Gives 0 v H' r Ho)):Abs.Fn Tryz.prog zac [] [x0,x1] r Ho :=
 zh mixed zgV (fn:=Tryz.f84) (by kernel_rfl) (by kernel_rfl) (by rw [znx]; exact h)
def zw7 (x0 x1:AV) (H:List Ob) (K:AV→List Ob→Prop):Prop :=
 aBox x0 H fun v0 h1 =>
 aBox x1 h1 fun v2 h3 =>
 za 0 v0 fun v4 =>
 aLoad false 1 v4 h3 fun v5 =>
 za 0 v2 fun v6 =>
 aLoad false 1 v6 h3 fun v7 =>
 aBin false false .eql v5 v7 fun v8 =>
 zl true v8 (fun Q9 =>
 za 1 v0 fun v10 =>
 aLoad false 1 v10 h3 fun v11 =>
 za 1 v2 fun v12 =>
 aLoad false 1 v12 h3 fun v13 =>
 aCall Tryz.prog (.p (.func zZ [])) [v11,v13,(.p (.func zgq []))] h3 fun v14 h15 =>
 (h15=h3∧Q9 v14)) fun v16 =>
 K v16 h3
def zsm:Nat→List Nat:=fun _=>[]
theorem zBS (x0 x1:AV) (H:List Ob) (r:AV) (Ho:List Ob):aBody Tryz.prog zsm Tryz.f92 H [x0,x1] r Ho=zw7 x0 x1 H (fun v H'=>Gives H.length v H' r Ho):=by kernel_rfl
theorem zAF {x0 x1:AV} {r:AV} {Ho:List Ob} (h:zw7 x0 x1 [] (fun v H'=>Gives 0 v H' r Ho)):Abs.Fn Tryz.prog zgq [] [x0,x1] r Ho :=
 zh mixed zsm (fn:=Tryz.f92) (by kernel_rfl) (by kernel_rfl) (by rw [zBS]; exact h)
def zje (q1s1 q1s3 y0 y1:AV) (H:List Ob) (B1:List AV→List Ob→Prop) (K:AV→List Ob→Prop):Prop :=
 za 1 q1s3 fun v13 =>
 aLoad false 1 v13 H fun v14 =>
 aLen false false v14 fun v15 =>
 aBin false false .lss y1 v15 fun v16 =>
 zl true v16 (fun Q17 =>
 aBin false false .gtr y0 (.p (.int .i64 0)) fun v18 =>
 (H=H∧Q17 v18)) fun v19 =>
 ze v19
 (za 1 q1s3 fun v20 =>
 aLoad false 1 v20 H fun v21 =>
 zb 2 v21 y1 fun v22 =>
 aLoad true 2 v22 H fun v23 =>
 aBin false false .sub q1s1 (.p (.int .i64 1)) fun v24 =>
 aCall Tryz.prog (.p (.func zdn [])) [v23,v24,y0] H fun v25 h26 =>
 aBin false false .add y1 (.p (.int .i64 1)) fun v27 =>
 B1 [v25,v27] h26)
 (K y0 H)
def zhH (x0 x1 x2:AV) (H:List Ob) (K:AV→List Ob→Prop):Prop :=
 aBox x0 H fun v0 h1 =>
 aBin false false .leq x2 (.p (.int .i64 0)) fun v2 =>
 zl false v2 (fun Q3 =>
 aBin false false .leq x1 (.p (.int .i64 0)) fun v4 =>
 (h1=h1∧Q3 v4)) fun v5 =>
 zl false v5 (fun Q6 =>
 za 1 v0 fun v7 =>
 aLoad false 1 v7 h1 fun v8 =>
 aLenS false v8 fun v9 =>
 aBin false false .gtr v9 (.p (.int .i64 20)) fun v10 =>
 (h1=h1∧Q6 v10)) fun v11 =>
 ze v11
 (K (.p (.int .i64 0)) h1)
 (aBin false false .sub x2 (.p (.int .i64 1)) fun v12 =>
 zG 2 [v12,(.p (.int .i64 0))] h1 fun xs H B1=>zje x1 v0 (xs.getD 0 Z) (xs.getD 1 Z) H B1 K)
def zhX:Nat→List Nat:=fun k=>match k with | 5=>[2,7] | _=>[]
theorem zpd (x0 x1 x2:AV) (H:List Ob) (r:AV) (Ho:List Ob):aBody Tryz.prog zhX Tryz.f122 H [x0,x1,x2] r Ho=zhH x0 x1 x2 H (fun v H'=>Gives H.length v H' r Ho):=by kernel_rfl
theorem zpI {x0 x1 x2:AV} {r:AV} {Ho:List Ob} (h:zhH x0 x1 x2 [] (fun v H'=>Gives 0 v H' r Ho)):Abs.Fn Tryz.prog zdn [] [x0,x1,x2] r Ho :=
 zh mixed zhX (fn:=Tryz.f122) (by kernel_rfl) (by kernel_rfl) (by rw [zpd]; exact h)
def zaF (q1s1 q1s2 q1s15 q1s16 y0:AV) (H:List Ob) (B1:List AV→List Ob→Prop) (K:AV→List Ob→Prop):Prop :=
 aBin false false .lss y0 q1s16 fun v4 =>
 ze v4
 (zb 2 q1s15 y0 fun v5 =>
 aLoad true 2 v5 H fun v6 =>
 zy [(.p (.int .i64 0)),(.full [])] H fun v7 h8 =>
 zj 2 v7 v6 h8 fun _ h10 =>
 zb 2 q1s1 y0 fun v11 =>
 aLoad true 2 v11 h10 fun v12 =>
 zy [(.p (.int .i64 0)),(.full [])] h10 fun v13 h14 =>
 zj 2 v13 v12 h14 fun _ h16 =>
 aLoad true 2 v7 h16 fun v17 =>
 aLoad true 2 v13 h16 fun v18 =>
 aCall Tryz.prog q1s2 [v17,v18] h16 fun v19 h20 =>
 aUn .not v19 fun v21 =>
 ze v21
 (K (.p (.bool false)) h20)
 (aBin false false .add y0 (.p (.int .i64 1)) fun v22 =>
 B1 [v22] h20))
 (K (.p (.bool true)) H)
def z6 (x0 x1 x2:AV) (H:List Ob) (K:AV→List Ob→Prop):Prop :=
 aLen false false x0 fun v0 =>
 aLen false false x1 fun v1 =>
 aBin false false .neq v0 v1 fun v2 =>
 ze v2
 (K (.p (.bool false)) H)
 (aLen false false x0 fun v3 =>
 zG 1 [(.p (.int .i64 0))] H fun xs H B1=>zaF x1 x2 x0 v3 (xs.getD 0 Z) H B1 K)
def zay:Nat→List Nat:=fun k=>match k with | 4=>[17] | _=>[]
theorem zb3 (x0 x1 x2:AV) (H:List Ob) (r:AV) (Ho:List Ob):aBody Tryz.prog zay Tryz.f137 H [x0,x1,x2] r Ho=z6 x0 x1 x2 H (fun v H'=>Gives H.length v H' r Ho):=by kernel_rfl
theorem zb5 {x0 x1 x2:AV} {r:AV} {Ho:List Ob} (h:z6 x0 x1 x2 [] (fun v H'=>Gives 0 v H' r Ho)):Abs.Fn Tryz.prog zZ [] [x0,x1,x2] r Ho :=
 zh mixed zay (fn:=Tryz.f137) (by kernel_rfl) (by kernel_rfl) (by rw [zb3]; exact h)
def zeG (x0:AV) (H:List Ob) (K:AV→List Ob→Prop):Prop :=
 aBox x0 H fun v0 h1 =>
 aLoad true 2 v0 h1 fun v2 =>
 aCall Tryz.prog (.p (.func zcr [])) [v2,(.p (.int .i64 0))] h1 fun v3 h4 =>
 K v3 h4
def zgf:Nat→List Nat:=fun _=>[]
theorem zl8 (x0:AV) (H:List Ob) (r:AV) (Ho:List Ob):aBody Tryz.prog zgf Tryz.f156 H [x0] r Ho=zeG x0 H (fun v H'=>Gives H.length v H' r Ho):=by kernel_rfl
theorem zmq {x0:AV} {r:AV} {Ho:List Ob} (h:zeG x0 [] (fun v H'=>Gives 0 v H' r Ho)):Abs.Fn Tryz.prog zaC [] [x0] r Ho :=
 zh mixed zgf (fn:=Tryz.f156) (by kernel_rfl) (by kernel_rfl) (by rw [zl8]; exact h)
def ztt (x0:AV) (H:List Ob) (K:AV→List Ob→Prop):Prop :=
 aBox x0 H fun v0 h1 =>
 aLoad true 2 v0 h1 fun v2 =>
 aCall Tryz.prog (.p (.func zls [])) [v2,(.p (.int .i64 0))] h1 fun v3 h4 =>
 K v3 h4
def zq1:Nat→List Nat:=fun _=>[]
theorem zzZ (x0:AV) (H:List Ob) (r:AV) (Ho:List Ob):aBody Tryz.prog zq1 Tryz.f167 H [x0] r Ho=ztt x0 H (fun v H'=>Gives H.length v H' r Ho):=by kernel_rfl
theorem zzr {x0:AV} {r:AV} {Ho:List Ob} (h:ztt x0 [] (fun v H'=>Gives 0 v H' r Ho)):Abs.Fn Tryz.prog zgQ [] [x0] r Ho :=
 zh mixed zq1 (fn:=Tryz.f167) (by kernel_rfl) (by kernel_rfl) (by rw [zzZ]; exact h)
def zzh (x0 x1:AV) (H:List Ob) (K:AV→List Ob→Prop):Prop :=
 aBin false false .eql x0 (.p (.int .i64 0)) fun v0 =>
 ze v0
 (K (.p (.int .i64 1)) H)
 (aBin false false .gtr x0 (.p (.int .i64 8)) fun v1 =>
 ze v1
 (K (.p (.int .i64 10)) H)
 (aBin false false .gtr x1 (.p (.int .i64 4)) fun v2 =>
 ze v2
 (K (.p (.int .i64 9)) H)
 (K (.p (.int .i64 0)) H)))
def zuK:Nat→List Nat:=fun _=>[]
theorem zB4 (x0 x1:AV) (H:List Ob) (r:AV) (Ho:List Ob):aBody Tryz.prog zuK Tryz.f169 H [x0,x1] r Ho=zzh x0 x1 H (fun v H'=>Gives H.length v H' r Ho):=by kernel_rfl
theorem zDb {x0 x1:AV} {r:AV} {Ho:List Ob} (h:zzh x0 x1 [] (fun v H'=>Gives 0 v H' r Ho)):Abs.Fn Tryz.prog zql [] [x0,x1] r Ho :=
 zh mixed zuK (fn:=Tryz.f169) (by kernel_rfl) (by kernel_rfl) (by rw [zB4]; exact h)
def zgS (q1s1 q1s2 y0:AV) (H:List Ob) (B1:List AV→List Ob→Prop) (K:AV→List Ob→Prop):Prop :=
 za 1 q1s2 fun v33 =>
 aLoad false 1 v33 H fun v34 =>
 aLen false false v34 fun v35 =>
 aBin false false .lss y0 v35 fun v36 =>
 ze v36
 (za 1 q1s2 fun v37 =>
 aLoad false 1 v37 H fun v38 =>
 zb 2 v38 y0 fun v39 =>
 aLoad true 2 v39 H fun v40 =>
 aBin false false .add q1s1 (.p (.int .i64 1)) fun v41 =>
 aCall Tryz.prog (.p (.func zcr [])) [v40,v41] H fun v42 h43 =>
 aBin false false .neq v42 (.p (.int .i64 0)) fun v44 =>
 ze v44
 (K v42 h43)
 (aBin false false .add y0 (.p (.int .i64 1)) fun v45 =>
 B1 [v45] h43))
 (K (.p (.int .i64 0)) H)
def ze7 (x0 x1:AV) (H:List Ob) (K:AV→List Ob→Prop):Prop :=
 aBox x0 H fun v0 h1 =>
 za 0 v0 fun v2 =>
 aLoad false 1 v2 h1 fun v3 =>
 aBin false false .lss v3 (.p (.int .i64 1)) fun v4 =>
 zl false v4 (fun Q5 =>
 za 0 v0 fun v6 =>
 aLoad false 1 v6 h1 fun v7 =>
 aBin false false .gtr v7 (.p (.int .i64 4)) fun v8 =>
 (h1=h1∧Q5 v8)) fun v9 =>
 zl false v9 (fun Q10 =>
 za 0 v0 fun v11 =>
 aLoad false 1 v11 h1 fun v12 =>
 aBin false false .neq v12 (.p (.int .i64 4)) fun v13 =>
 zl true v13 (fun Q14 =>
 za 1 v0 fun v15 =>
 aLoad false 1 v15 h1 fun v16 =>
 aLenS false v16 fun v17 =>
 aBin false false .gtr v17 (.p (.int .i64 0)) fun v18 =>
 (h1=h1∧Q14 v18)) fun v19 =>
 (h1=h1∧Q10 v19)) fun v20 =>
 ze v20
 (K (.p (.int .i64 5)) h1)
 (za 0 v0 fun v21 =>
 aLoad false 1 v21 h1 fun v22 =>
 aBin false false .neq v22 (.p (.int .i64 4)) fun v23 =>
 ze v23
 (K (.p (.int .i64 0)) h1)
 (za 1 v0 fun v24 =>
 aLoad false 1 v24 h1 fun v25 =>
 aLen false false v25 fun v26 =>
 aBin false false .eql v26 (.p (.int .i64 0)) fun v27 =>
 ze v27
 (K (.p (.int .i64 1)) h1)
 (za 1 v0 fun v28 =>
 aLoad false 1 v28 h1 fun v29 =>
 aLen false false v29 fun v30 =>
 aBin false false .gtr v30 (.p (.int .i64 8)) fun v31 =>
 ze v31
 (K (.p (.int .i64 10)) h1)
 (aBin false false .gtr x1 (.p (.int .i64 4)) fun v32 =>
 ze v32
 (K (.p (.int .i64 9)) h1)
 (zG 1 [(.p (.int .i64 0))] h1 fun xs H B1=>zgS x1 v0 (xs.getD 0 Z) H B1 K)))))
def zf5:Nat→List Nat:=fun k=>match k with | 12=>[5] | _=>[]
theorem zmA (x0 x1:AV) (H:List Ob) (r:AV) (Ho:List Ob):aBody Tryz.prog zf5 Tryz.f185 H [x0,x1] r Ho=ze7 x0 x1 H (fun v H'=>Gives H.length v H' r Ho):=by kernel_rfl
theorem zl9 {x0 x1:AV} {r:AV} {Ho:List Ob} (h:ze7 x0 x1 [] (fun v H'=>Gives 0 v H' r Ho)):Abs.Fn Tryz.prog zcr [] [x0,x1] r Ho :=
 zh mixed zf5 (fn:=Tryz.f185) (by kernel_rfl) (by kernel_rfl) (by rw [zmA]; exact h)
def ztF (x0 x1:AV) (H:List Ob) (K:AV→List Ob→Prop):Prop :=
 aBox x0 H fun v0 h1 =>
 aBox x1 h1 fun v2 h3 =>
 za 0 v0 fun v4 =>
 aLoad false 1 v4 h3 fun v5 =>
 aBin false false .eql v5 (.p (.int .i64 1)) fun v6 =>
 zl false v6 (fun Q7 =>
 aBin false false .eql v5 (.p (.int .i64 2)) fun v8 =>
 zl false v8 (fun Q9 =>
 aBin false false .eql v5 (.p (.int .i64 3)) fun v10 =>
 (h3=h3∧Q9 v10)) fun v11 =>
 (h3=h3∧Q7 v11)) fun v12 =>
 ze v12
 (za 1 v0 fun v13 =>
 aLoad false 1 v13 h3 fun v14 =>
 aLen false false v14 fun v15 =>
 aBin false false .gtr v15 (.p (.int .i64 0)) fun v16 =>
 ze v16
 (K (.p (.int .i64 5)) h3)
 (K (.p (.int .i64 0)) h3))
 (aBin false false .eql v5 (.p (.int .i64 4)) fun v17 =>
 ze v17
 (za 1 v0 fun v18 =>
 aLoad false 1 v18 h3 fun v19 =>
 aLen false false v19 fun v20 =>
 aLoad false 1 v2 h3 fun v21 =>
 aCall Tryz.prog (.p (.func zql [])) [v20,v21] h3 fun v22 h23 =>
 aBin false false .neq v22 (.p (.int .i64 0)) fun v24 =>
 ze v24
 (K v22 h23)
 (za 1 v0 fun v25 =>
 aLoad false 1 v25 h23 fun v26 =>
 zaA zrc [v2] h23 fun v27 h28 =>
 aCall Tryz.prog (.p (.func zfF [])) [v26,v27] h28 fun v29 h30 =>
 K v29 h30))
 (K (.p (.int .i64 5)) h3))
def zqZ:Nat→List Nat:=fun k=>match k with | 1000004=>[1] | 1000003=>[1] | _=>[]
theorem zzB (x0 x1:AV) (H:List Ob) (r:AV) (Ho:List Ob):aBody Tryz.prog zqZ Tryz.f194 H [x0,x1] r Ho=ztF x0 x1 H (fun v H'=>Gives H.length v H' r Ho):=by kernel_rfl
theorem zzW {x0 x1:AV} {r:AV} {Ho:List Ob} (h:ztF x0 x1 [] (fun v H'=>Gives 0 v H' r Ho)):Abs.Fn Tryz.prog zls [] [x0,x1] r Ho :=
 zh mixed zqZ (fn:=Tryz.f194) (by kernel_rfl) (by kernel_rfl) (by rw [zzB]; exact h)
def zbV (x0:AV) (H:List Ob) (K:AV→List Ob→Prop):Prop :=
 aLen false false x0 fun v0 =>
 aLen false false x0 fun v1 =>
 zbM false 2 x0 none (some v0) (some v1) fun v2 =>
 K v2 H
def zcS:Nat→List Nat:=fun _=>[]
theorem zg6 (x0:AV) (H:List Ob) (r:AV) (Ho:List Ob):aBody Tryz.prog zcS Tryz.f240 H [x0] r Ho=zbV x0 H (fun v H'=>Gives H.length v H' r Ho):=by kernel_rfl
theorem zhg {x0:AV} {r:AV} {Ho:List Ob} (h:zbV x0 [] (fun v H'=>Gives 0 v H' r Ho)):Abs.Fn Tryz.prog zbC [] [x0] r Ho :=
 zh mixed zcS (fn:=Tryz.f240) (by kernel_rfl) (by kernel_rfl) (by rw [zg6]; exact h)
def zjb (q1s1 q1s8 q1s9 y0:AV) (H:List Ob) (B1:List AV→List Ob→Prop) (K:AV→List Ob→Prop):Prop :=
 aBin false false .lss y0 q1s9 fun v1 =>
 ze v1
 (zb 2 q1s8 y0 fun v2 =>
 aLoad true 2 v2 H fun v3 =>
 zy [(.p (.int .i64 0)),(.full [])] H fun v4 h5 =>
 zj 2 v4 v3 h5 fun _ h7 =>
 aLoad true 2 v4 h7 fun v8 =>
 aCall Tryz.prog q1s1 [v8] h7 fun v9 h10 =>
 aBin false false .neq v9 (.p (.int .i64 0)) fun v11 =>
 ze v11
 (K v9 h10)
 (aBin false false .add y0 (.p (.int .i64 1)) fun v12 =>
 B1 [v12] h10))
 (K (.p (.int .i64 0)) H)
def zhz (x0 x1:AV) (H:List Ob) (K:AV→List Ob→Prop):Prop :=
 aLen false false x0 fun v0 =>
 zG 1 [(.p (.int .i64 0))] H fun xs H B1=>zjb x1 x0 v0 (xs.getD 0 Z) H B1 K
def zhK:Nat→List Nat:=fun k=>match k with | 2=>[10] | _=>[]
theorem zox (x0 x1:AV) (H:List Ob) (r:AV) (Ho:List Ob):aBody Tryz.prog zhK Tryz.f241 H [x0,x1] r Ho=zhz x0 x1 H (fun v H'=>Gives H.length v H' r Ho):=by kernel_rfl
theorem zo0 {x0 x1:AV} {r:AV} {Ho:List Ob} (h:zhz x0 x1 [] (fun v H'=>Gives 0 v H' r Ho)):Abs.Fn Tryz.prog zfF [] [x0,x1] r Ho :=
 zh mixed zhK (fn:=Tryz.f241) (by kernel_rfl) (by kernel_rfl) (by rw [zox]; exact h)
def zpn (x0 x1:AV) (H:List Ob) (K:AV→List Ob→Prop):Prop :=
 aBox x0 H fun v0 h1 =>
 aLoad true 2 v0 h1 fun v2 =>
 aLoad false 1 x1 h1 fun v3 =>
 aBin false false .add v3 (.p (.int .i64 1)) fun v4 =>
 aCall Tryz.prog (.p (.func zls [])) [v2,v4] h1 fun v5 h6 =>
 K v5 h6
def znZ:Nat→List Nat:=fun _=>[]
theorem zxA (x0 x1:AV) (H:List Ob) (r:AV) (Ho:List Ob):aBody Tryz.prog znZ Tryz.f242 H [x0,x1] r Ho=zpn x0 x1 H (fun v H'=>Gives H.length v H' r Ho):=by kernel_rfl
theorem zvn {x0 x1:AV} {r:AV} {Ho:List Ob} (h:zpn x0 x1 [] (fun v H'=>Gives 0 v H' r Ho)):Abs.Fn Tryz.prog zrc [] [x0,x1] r Ho :=
 zh mixed znZ (fn:=Tryz.f242) (by kernel_rfl) (by kernel_rfl) (by rw [zxA]; exact h)
end Go.Proofs.YtdmgbhamigegfaaGreatDoor
end

section
/- Made by program (Gen.lean): functions of the dump, over trees. -/
set_option maxRecDepth 4000
set_option linter.unusedVariables false
namespace Go.Proofs.YtdmgbhamigegfaaGreatDoor
open Go Go.Abs
def zzF (x0:AV) (H:List Ob) (K:AV→List Ob→Prop):Prop :=
 zy [(.p (.int .i64 0)),(.p (.int .i64 0)),(.p (.bool false)),(.p (.str [])),(.full [])] H fun v0 h1 =>
 zr [(.p (.int .i64 0)),(.p (.int .i64 0)),(.p (.bool false)),(.p (.str [])),(.full [])] [(0,1,(.p (.int .i64 1))),(1,1,x0)] fun v2 =>
 zj 5 v0 v2 h1 fun _ h4 =>
 aLoad true 5 v0 h4 fun v5 =>
 K v5 h4
def zuv:Nat→List Nat:=fun _=>[]
theorem zCK (x0:AV) (H:List Ob) (r:AV) (Ho:List Ob):aBody Tryz.prog zuv Tryz.f12 H [x0] r Ho=zzF x0 H (fun v H'=>Gives H.length v H' r Ho):=by kernel_rfl
theorem zDi {x0:AV} {r:AV} {Ho:List Ob} (h:zzF x0 [] (fun v H'=>Gives 0 v H' r Ho)):Abs.Fn Tryz.prog zfb [] [x0] r Ho :=
 zh mixed zuv (fn:=Tryz.f12) (by kernel_rfl) (by kernel_rfl) (by rw [zCK]; exact h)
def zjC (q1s0 y0 y1:AV) (H:List Ob) (B1:List AV→List Ob→Prop) (K:AV→List Ob→Prop):Prop :=
 aLen false false q1s0 fun v0 =>
 aBin false false .lss y1 v0 fun v1 =>
 ze v1
 (zb 5 q1s0 y1 fun v2 =>
 aLoad true 5 v2 H fun v3 =>
 aCall Tryz.prog (.p (.func zd7 [])) [v3] H fun v4 h5 =>
 zn 5 [v4] fun v6 =>
 zI false 5 64 y0 v6 h5 fun v7 h8 =>
 aBin false false .add y1 (.p (.int .i64 1)) fun v9 =>
 B1 [v7,v9] h8)
 (K y0 H)
def zh7 (x0:AV) (H:List Ob) (K:AV→List Ob→Prop):Prop :=
 zG 2 [(.full []),(.p (.int .i64 0))] H fun xs H B1=>zjC x0 (xs.getD 0 Z) (xs.getD 1 Z) H B1 K
def ziE:Nat→List Nat:=fun k=>match k with | 3=>[3,4] | _=>[]
theorem zqC (x0:AV) (H:List Ob) (r:AV) (Ho:List Ob):aBody Tryz.prog ziE Tryz.f21 H [x0] r Ho=zh7 x0 H (fun v H'=>Gives H.length v H' r Ho):=by kernel_rfl
theorem zqD {x0:AV} {r:AV} {Ho:List Ob} (h:zh7 x0 [] (fun v H'=>Gives 0 v H' r Ho)):Abs.Fn Tryz.prog zgB [] [x0] r Ho :=
 zh mixed ziE (fn:=Tryz.f21) (by kernel_rfl) (by kernel_rfl) (by rw [zqC]; exact h)
def zl5 (q1s1 q1s2 q1s3 y0:AV) (H:List Ob) (B1:List AV→List Ob→Prop) (K:AV→List Ob→Prop):Prop :=
 za 4 q1s1 fun v17 =>
 aLoad false 1 v17 H fun v18 =>
 aLen false false v18 fun v19 =>
 aBin false false .lss y0 v19 fun v20 =>
 ze v20
 (za 4 q1s3 fun v21 =>
 aLoad false 1 v21 H fun v22 =>
 za 4 q1s1 fun v23 =>
 aLoad false 1 v23 H fun v24 =>
 zb 5 v24 y0 fun v25 =>
 aLoad true 5 v25 H fun v26 =>
 zL Tryz.prog (.p (.func zd7 [])) [v26] fun v27 =>
 zn 5 [v27] fun v28 =>
 aCalm [v22,v28] <|
 zI false 5 64 v22 v28 H fun v29 h30 =>
 za 4 q1s3 fun v31 =>
 zj 1 v31 v29 h30 fun _ h33 =>
 aBin false false .add y0 (.p (.int .i64 1)) fun v34 =>
 B1 [v34] h33)
 (aLoad true 5 q1s3 H fun v35 =>
 zj 5 q1s2 v35 H fun _ h37 =>
 aLoad true 5 q1s2 h37 fun v38 =>
 K v38 h37)
def zlN (x0:AV) (H:List Ob) (K:AV→List Ob→Prop):Prop :=
 aBox x0 H fun v0 h1 =>
 zy [(.p (.int .i64 0)),(.p (.int .i64 0)),(.p (.bool false)),(.p (.str [])),(.full [])] h1 fun v2 h3 =>
 za 0 v0 fun v4 =>
 aLoad false 1 v4 h3 fun v5 =>
 za 1 v0 fun v6 =>
 aLoad false 1 v6 h3 fun v7 =>
 za 2 v0 fun v8 =>
 aLoad false 1 v8 h3 fun v9 =>
 za 3 v0 fun v10 =>
 aLoad false 1 v10 h3 fun v11 =>
 zr [(.p (.int .i64 0)),(.p (.int .i64 0)),(.p (.bool false)),(.p (.str [])),(.full [])] [(0,1,v5),(1,1,v7),(2,1,v9),(3,1,v11)] fun v12 =>
 zy [(.p (.int .i64 0)),(.p (.int .i64 0)),(.p (.bool false)),(.p (.str [])),(.full [])] h3 fun v13 h14 =>
 zj 5 v13 v12 h14 fun _ h16 =>
 zG 1 [(.p (.int .i64 0))] h16 fun xs H B1=>zl5 v0 v2 v13 (xs.getD 0 Z) H B1 K
def zk9:Nat→List Nat:=fun k=>match k with | 3=>[4] | _=>[]
theorem zuc (x0:AV) (H:List Ob) (r:AV) (Ho:List Ob):aBody Tryz.prog zk9 Tryz.f42 H [x0] r Ho=zlN x0 H (fun v H'=>Gives H.length v H' r Ho):=by kernel_rfl
theorem ztC {x0:AV} {r:AV} {Ho:List Ob} (h:zlN x0 [] (fun v H'=>Gives 0 v H' r Ho)):Abs.Fn Tryz.prog zd7 [] [x0] r Ho :=
 zh mixed zk9 (fn:=Tryz.f42) (by kernel_rfl) (by kernel_rfl) (by rw [zuc]; exact h)
def zkT (x0:AV) (H:List Ob) (K:AV→List Ob→Prop):Prop :=
 aBox x0 H fun v0 h1 =>
 aLoad true 5 v0 h1 fun v2 =>
 aCall Tryz.prog (.p (.func zdo [])) [v2,(.p (.int .i64 12)),(.p (.int .i64 300))] h1 fun v3 h4 =>
 aBin false false .gtr v3 (.p (.int .i64 0)) fun v5 =>
 K v5 h4
def zkH:Nat→List Nat:=fun _=>[]
theorem zsK (x0:AV) (H:List Ob) (r:AV) (Ho:List Ob):aBody Tryz.prog zkH Tryz.f45 H [x0] r Ho=zkT x0 H (fun v H'=>Gives H.length v H' r Ho):=by kernel_rfl
theorem zsk {x0:AV} {r:AV} {Ho:List Ob} (h:zkT x0 [] (fun v H'=>Gives 0 v H' r Ho)):Abs.Fn Tryz.prog zfh [] [x0] r Ho :=
 zh mixed zkH (fn:=Tryz.f45) (by kernel_rfl) (by kernel_rfl) (by rw [zsK]; exact h)
def zlQ (x0 x1:AV) (H:List Ob) (K:AV→List Ob→Prop):Prop :=
 aBox x0 H fun v0 h1 =>
 aBox x1 h1 fun v2 h3 =>
 aLoad true 5 v0 h3 fun v4 =>
 zL Tryz.prog (.p (.func zb9 [])) [v4] fun v5 =>
 aBin false false .eql v5 (.p (.int .i64 0)) fun v6 =>
 ze v6
 (aLoad true 5 v0 h3 fun v7 =>
 zL Tryz.prog (.p (.func zcj [])) [v7] fun v8 =>
 aLoad true 2 v2 h3 fun v9 =>
 zL Tryz.prog (.p (.func zac [])) [v8,v9] fun v10 =>
 K v10 h3)
 (K (.p (.bool false)) h3)
def zlj:Nat→List Nat:=fun _=>[]
theorem ztG (x0 x1:AV) (H:List Ob) (r:AV) (Ho:List Ob):aBody Tryz.prog zlj Tryz.f47 H [x0,x1] r Ho=zlQ x0 x1 H (fun v H'=>Gives H.length v H' r Ho):=by kernel_rfl
theorem ztA {x0 x1:AV} {r:AV} {Ho:List Ob} (h:zlQ x0 x1 [] (fun v H'=>Gives 0 v H' r Ho)):Abs.Fn Tryz.prog zjo [] [x0,x1] r Ho :=
 zh mixed zlj (fn:=Tryz.f47) (by kernel_rfl) (by kernel_rfl) (by rw [ztG]; exact h)
def zDg (x0 x1:AV) (H:List Ob) (K:AV→List Ob→Prop):Prop :=
 aBox x0 H fun v0 h1 =>
 aBox x1 h1 fun v2 h3 =>
 aLoad true 5 v0 h3 fun v4 =>
 zL Tryz.prog (.p (.func ziY [])) [v4] fun v5 =>
 aBin false false .eql v5 (.p (.int .i64 0)) fun v6 =>
 ze v6
 (aLoad true 5 v0 h3 fun v7 =>
 zL Tryz.prog (.p (.func zkB [])) [v7] fun v8 =>
 aLoad true 2 v2 h3 fun v9 =>
 zL Tryz.prog (.p (.func zgq [])) [v8,v9] fun v10 =>
 K v10 h3)
 (K (.p (.bool false)) h3)
def zwL:Nat→List Nat:=fun _=>[]
theorem zEC (x0 x1:AV) (H:List Ob) (r:AV) (Ho:List Ob):aBody Tryz.prog zwL Tryz.f52 H [x0,x1] r Ho=zDg x0 x1 H (fun v H'=>Gives H.length v H' r Ho):=by kernel_rfl
theorem zEb {x0 x1:AV} {r:AV} {Ho:List Ob} (h:zDg x0 x1 [] (fun v H'=>Gives 0 v H' r Ho)):Abs.Fn Tryz.prog zxK [] [x0,x1] r Ho :=
 zh mixed zwL (fn:=Tryz.f52) (by kernel_rfl) (by kernel_rfl) (by rw [zEC]; exact h)
def zej (x0:AV) (H:List Ob) (K:AV→List Ob→Prop):Prop :=
 aBox x0 H fun v0 h1 =>
 aLoad true 5 v0 h1 fun v2 =>
 aCall Tryz.prog (.p (.func zcb [])) [v2,(.p (.int .i64 0))] h1 fun v3 h4 =>
 K v3 h4
def zfs:Nat→List Nat:=fun _=>[]
theorem zlY (x0:AV) (H:List Ob) (r:AV) (Ho:List Ob):aBody Tryz.prog zfs Tryz.f53 H [x0] r Ho=zej x0 H (fun v H'=>Gives H.length v H' r Ho):=by kernel_rfl
theorem zlL {x0:AV} {r:AV} {Ho:List Ob} (h:zej x0 [] (fun v H'=>Gives 0 v H' r Ho)):Abs.Fn Tryz.prog zb9 [] [x0] r Ho :=
 zh mixed zfs (fn:=Tryz.f53) (by kernel_rfl) (by kernel_rfl) (by rw [zlY]; exact h)
def zxg (x0 x1:AV) (H:List Ob) (K:AV→List Ob→Prop):Prop :=
 aBox x0 H fun v0 h1 =>
 aBox x1 h1 fun v2 h3 =>
 aLoad true 5 v0 h3 fun v4 =>
 aLoad true 5 v2 h3 fun v5 =>
 aCall Tryz.prog (.p (.func zba [])) [v4,v5] h3 fun v6 h7 =>
 aBin false false .eql v6 (.p (.int .i64 0)) fun v8 =>
 K v8 h7
def zsn:Nat→List Nat:=fun _=>[]
theorem zBV (x0 x1:AV) (H:List Ob) (r:AV) (Ho:List Ob):aBody Tryz.prog zsn Tryz.f57 H [x0,x1] r Ho=zxg x0 x1 H (fun v H'=>Gives H.length v H' r Ho):=by kernel_rfl
theorem zA7 {x0 x1:AV} {r:AV} {Ho:List Ob} (h:zxg x0 x1 [] (fun v H'=>Gives 0 v H' r Ho)):Abs.Fn Tryz.prog zgr [] [x0,x1] r Ho :=
 zh mixed zsn (fn:=Tryz.f57) (by kernel_rfl) (by kernel_rfl) (by rw [zBV]; exact h)
def zpx (x0 x1:AV) (H:List Ob) (K:AV→List Ob→Prop):Prop :=
 aBox x0 H fun v0 h1 =>
 aBox x1 h1 fun v2 h3 =>
 za 0 v0 fun v4 =>
 aLoad false 1 v4 h3 fun v5 =>
 za 0 v2 fun v6 =>
 aLoad false 1 v6 h3 fun v7 =>
 zL Tryz.prog (.p (.func zc6 [])) [v5,v7] fun v8 =>
 za 1 v0 fun v9 =>
 aLoad false 1 v9 h3 fun v10 =>
 za 1 v2 fun v11 =>
 aLoad false 1 v11 h3 fun v12 =>
 zL Tryz.prog (.p (.func zf0 [])) [v10,v12] fun v13 =>
 za 2 v0 fun v14 =>
 aLoad false 1 v14 h3 fun v15 =>
 zL Tryz.prog (.p (.func zli [])) [v15] fun v16 =>
 za 2 v2 fun v17 =>
 aLoad false 1 v17 h3 fun v18 =>
 zL Tryz.prog (.p (.func zli [])) [v18] fun v19 =>
 zL Tryz.prog (.p (.func zc6 [])) [v16,v19] fun v20 =>
 za 3 v0 fun v21 =>
 aLoad false 1 v21 h3 fun v22 =>
 za 3 v2 fun v23 =>
 aLoad false 1 v23 h3 fun v24 =>
 zL Tryz.prog (.p (.func zhs [])) [v22,v24] fun v25 =>
 zn 1 [v8,v13,v20,v25] fun v26 =>
 zL Tryz.prog (.p (.func zjT [])) [v26] fun v27 =>
 aBin false false .neq v27 (.p (.int .i64 0)) fun v28 =>
 ze v28
 (K v27 h3)
 (za 4 v0 fun v29 =>
 aLoad false 1 v29 h3 fun v30 =>
 za 4 v2 fun v31 =>
 aLoad false 1 v31 h3 fun v32 =>
 aCall Tryz.prog (.p (.func zeN [])) [v30,v32,(.p (.func zba []))] h3 fun v33 h34 =>
 K v33 h34)
def znG:Nat→List Nat:=fun _=>[]
theorem zw2 (x0 x1:AV) (H:List Ob) (r:AV) (Ho:List Ob):aBody Tryz.prog znG Tryz.f64 H [x0,x1] r Ho=zpx x0 x1 H (fun v H'=>Gives H.length v H' r Ho):=by kernel_rfl
theorem zvH {x0 x1:AV} {r:AV} {Ho:List Ob} (h:zpx x0 x1 [] (fun v H'=>Gives 0 v H' r Ho)):Abs.Fn Tryz.prog zba [] [x0,x1] r Ho :=
 zh mixed znG (fn:=Tryz.f64) (by kernel_rfl) (by kernel_rfl) (by rw [zw2]; exact h)
def ziR (q1s1 q1s3 y0 y1:AV) (H:List Ob) (B1:List AV→List Ob→Prop) (K:AV→List Ob→Prop):Prop :=
 za 4 q1s3 fun v19 =>
 aLoad false 1 v19 H fun v20 =>
 aLen false false v20 fun v21 =>
 aBin false false .lss y1 v21 fun v22 =>
 zl true v22 (fun Q23 =>
 aBin false false .gtr y0 (.p (.int .i64 0)) fun v24 =>
 (H=H∧Q23 v24)) fun v25 =>
 ze v25
 (za 4 q1s3 fun v26 =>
 aLoad false 1 v26 H fun v27 =>
 zb 5 v27 y1 fun v28 =>
 aLoad true 5 v28 H fun v29 =>
 aBin false false .sub q1s1 (.p (.int .i64 1)) fun v30 =>
 aCall Tryz.prog (.p (.func zdo [])) [v29,v30,y0] H fun v31 h32 =>
 aBin false false .add y1 (.p (.int .i64 1)) fun v33 =>
 B1 [v31,v33] h32)
 (K y0 H)
def zg5 (x0 x1 x2:AV) (H:List Ob) (K:AV→List Ob→Prop):Prop :=
 aBox x0 H fun v0 h1 =>
 aBin false false .leq x2 (.p (.int .i64 0)) fun v2 =>
 zl false v2 (fun Q3 =>
 aBin false false .leq x1 (.p (.int .i64 0)) fun v4 =>
 (h1=h1∧Q3 v4)) fun v5 =>
 zl false v5 (fun Q6 =>
 za 4 v0 fun v7 =>
 aLoad false 1 v7 h1 fun v8 =>
 aLenS false v8 fun v9 =>
 aBin false false .gtr v9 (.p (.int .i64 20)) fun v10 =>
 (h1=h1∧Q6 v10)) fun v11 =>
 zl false v11 (fun Q12 =>
 za 3 v0 fun v13 =>
 aLoad false 1 v13 h1 fun v14 =>
 aLenS true v14 fun v15 =>
 aBin false false .gtr v15 (.p (.int .i64 300)) fun v16 =>
 (h1=h1∧Q12 v16)) fun v17 =>
 ze v17
 (K (.p (.int .i64 0)) h1)
 (aBin false false .sub x2 (.p (.int .i64 1)) fun v18 =>
 zG 2 [v18,(.p (.int .i64 0))] h1 fun xs H B1=>ziR x1 v0 (xs.getD 0 Z) (xs.getD 1 Z) H B1 K)
def zhL:Nat→List Nat:=fun k=>match k with | 5=>[2,7] | _=>[]
theorem zoA (x0 x1 x2:AV) (H:List Ob) (r:AV) (Ho:List Ob):aBody Tryz.prog zhL Tryz.f81 H [x0,x1,x2] r Ho=zg5 x0 x1 x2 H (fun v H'=>Gives H.length v H' r Ho):=by kernel_rfl
theorem zpq {x0 x1 x2:AV} {r:AV} {Ho:List Ob} (h:zg5 x0 x1 x2 [] (fun v H'=>Gives 0 v H' r Ho)):Abs.Fn Tryz.prog zdo [] [x0,x1,x2] r Ho :=
 zh mixed zhL (fn:=Tryz.f81) (by kernel_rfl) (by kernel_rfl) (by rw [zoA]; exact h)
def ziJ (q1s1 q1s2 q1s3 y0:AV) (H:List Ob) (B1:List AV→List Ob→Prop) (K:AV→List Ob→Prop):Prop :=
 za 4 q1s1 fun v11 =>
 aLoad false 1 v11 H fun v12 =>
 aLen false false v12 fun v13 =>
 aBin false false .lss y0 v13 fun v14 =>
 ze v14
 (za 1 q1s3 fun v15 =>
 aLoad false 1 v15 H fun v16 =>
 za 4 q1s1 fun v17 =>
 aLoad false 1 v17 H fun v18 =>
 zb 5 v18 y0 fun v19 =>
 aLoad true 5 v19 H fun v20 =>
 zL Tryz.prog (.p (.func zcj [])) [v20] fun v21 =>
 zn 2 [v21] fun v22 =>
 aCalm [v16,v22] <|
 zI false 2 32 v16 v22 H fun v23 h24 =>
 za 1 q1s3 fun v25 =>
 zj 1 v25 v23 h24 fun _ h27 =>
 aBin false false .add y0 (.p (.int .i64 1)) fun v28 =>
 B1 [v28] h27)
 (aLoad true 2 q1s3 H fun v29 =>
 zj 2 q1s2 v29 H fun _ h31 =>
 aLoad true 2 q1s2 h31 fun v32 =>
 K v32 h31)
def zhf (x0:AV) (H:List Ob) (K:AV→List Ob→Prop):Prop :=
 aBox x0 H fun v0 h1 =>
 zy [(.p (.int .i64 0)),(.full [])] h1 fun v2 h3 =>
 za 0 v0 fun v4 =>
 aLoad false 1 v4 h3 fun v5 =>
 zr [(.p (.int .i64 0)),(.full [])] [(0,1,v5)] fun v6 =>
 zy [(.p (.int .i64 0)),(.full [])] h3 fun v7 h8 =>
 zj 2 v7 v6 h8 fun _ h10 =>
 zG 1 [(.p (.int .i64 0))] h10 fun xs H B1=>ziJ v0 v2 v7 (xs.getD 0 Z) H B1 K
def zhM:Nat→List Nat:=fun k=>match k with | 3=>[4] | _=>[]
theorem zoo (x0:AV) (H:List Ob) (r:AV) (Ho:List Ob):aBody Tryz.prog zhM Tryz.f85 H [x0] r Ho=zhf x0 H (fun v H'=>Gives H.length v H' r Ho):=by kernel_rfl
theorem zoX {x0:AV} {r:AV} {Ho:List Ob} (h:zhf x0 [] (fun v H'=>Gives 0 v H' r Ho)):Abs.Fn Tryz.prog zcj [] [x0] r Ho :=
 zh mixed zhM (fn:=Tryz.f85) (by kernel_rfl) (by kernel_rfl) (by rw [zoo]; exact h)
def zui (x0:AV) (H:List Ob) (K:AV→List Ob→Prop):Prop :=
 aBox x0 H fun v0 h1 =>
 aLoad true 5 v0 h1 fun v2 =>
 aCall Tryz.prog (.p (.func zld [])) [v2,(.p (.int .i64 0))] h1 fun v3 h4 =>
 K v3 h4
def zrj:Nat→List Nat:=fun _=>[]
theorem zyY (x0:AV) (H:List Ob) (r:AV) (Ho:List Ob):aBody Tryz.prog zrj Tryz.f91 H [x0] r Ho=zui x0 H (fun v H'=>Gives H.length v H' r Ho):=by kernel_rfl
theorem zzv {x0:AV} {r:AV} {Ho:List Ob} (h:zui x0 [] (fun v H'=>Gives 0 v H' r Ho)):Abs.Fn Tryz.prog ziY [] [x0] r Ho :=
 zh mixed zrj (fn:=Tryz.f91) (by kernel_rfl) (by kernel_rfl) (by rw [zyY]; exact h)
def zuR (q1s2 q1s3 q1s10 q1s11 y0:AV) (H:List Ob) (B1:List AV→List Ob→Prop) (K:AV→List Ob→Prop):Prop :=
 aBin false false .lss y0 q1s11 fun v14 =>
 ze v14
 (zb 5 q1s10 y0 fun v15 =>
 aLoad true 5 v15 H fun v16 =>
 zy [(.p (.int .i64 0)),(.p (.int .i64 0)),(.p (.bool false)),(.p (.str [])),(.full [])] H fun v17 h18 =>
 zj 5 v17 v16 h18 fun _ h20 =>
 za 1 q1s3 fun v21 =>
 aLoad false 1 v21 h20 fun v22 =>
 aLoad true 5 v17 h20 fun v23 =>
 zL Tryz.prog (.p (.func zkB [])) [v23] fun v24 =>
 zn 2 [v24] fun v25 =>
 aCalm [v22,v25] <|
 zI false 2 32 v22 v25 h20 fun v26 h27 =>
 za 1 q1s3 fun v28 =>
 zj 1 v28 v26 h27 fun _ h30 =>
 aBin false false .add y0 (.p (.int .i64 1)) fun v31 =>
 B1 [v31] h30)
 (aLoad true 2 q1s3 H fun v32 =>
 zj 2 q1s2 v32 H fun _ h34 =>
 aLoad true 2 q1s2 h34 fun v35 =>
 K v35 h34)
def zxy (x0:AV) (H:List Ob) (K:AV→List Ob→Prop):Prop :=
 aBox x0 H fun v0 h1 =>
 zy [(.p (.int .i64 0)),(.full [])] h1 fun v2 h3 =>
 za 0 v0 fun v4 =>
 aLoad false 1 v4 h3 fun v5 =>
 zr [(.p (.int .i64 0)),(.full [])] [(0,1,v5)] fun v6 =>
 zy [(.p (.int .i64 0)),(.full [])] h3 fun v7 h8 =>
 zj 2 v7 v6 h8 fun _ h10 =>
 za 4 v0 fun v11 =>
 aLoad false 1 v11 h10 fun v12 =>
 aLen false false v12 fun v13 =>
 zG 1 [(.p (.int .i64 0))] h10 fun xs H B1=>zuR v2 v7 v12 v13 (xs.getD 0 Z) H B1 K
def zsx:Nat→List Nat:=fun k=>match k with | 3=>[12] | _=>[]
theorem zBp (x0:AV) (H:List Ob) (r:AV) (Ho:List Ob):aBody Tryz.prog zsx Tryz.f93 H [x0] r Ho=zxy x0 H (fun v H'=>Gives H.length v H' r Ho):=by kernel_rfl
theorem zA6 {x0:AV} {r:AV} {Ho:List Ob} (h:zxy x0 [] (fun v H'=>Gives 0 v H' r Ho)):Abs.Fn Tryz.prog zkB [] [x0] r Ho :=
 zh mixed zsx (fn:=Tryz.f93) (by kernel_rfl) (by kernel_rfl) (by rw [zBp]; exact h)
def zf2 (q1s1 q1s2 y0:AV) (H:List Ob) (B1:List AV→List Ob→Prop) (K:AV→List Ob→Prop):Prop :=
 za 4 q1s2 fun v64 =>
 aLoad false 1 v64 H fun v65 =>
 aLen false false v65 fun v66 =>
 aBin false false .lss y0 v66 fun v67 =>
 ze v67
 (za 4 q1s2 fun v68 =>
 aLoad false 1 v68 H fun v69 =>
 zb 5 v69 y0 fun v70 =>
 aLoad true 5 v70 H fun v71 =>
 aBin false false .add q1s1 (.p (.int .i64 1)) fun v72 =>
 aCall Tryz.prog (.p (.func zcb [])) [v71,v72] H fun v73 h74 =>
 aBin false false .neq v73 (.p (.int .i64 0)) fun v75 =>
 ze v75
 (K v73 h74)
 (aBin false false .add y0 (.p (.int .i64 1)) fun v76 =>
 B1 [v76] h74))
 (K (.p (.int .i64 0)) H)
def zec (x0 x1:AV) (H:List Ob) (K:AV→List Ob→Prop):Prop :=
 aBox x0 H fun v0 h1 =>
 za 0 v0 fun v2 =>
 aLoad false 1 v2 h1 fun v3 =>
 aBin false false .lss v3 (.p (.int .i64 1)) fun v4 =>
 zl false v4 (fun Q5 =>
 za 0 v0 fun v6 =>
 aLoad false 1 v6 h1 fun v7 =>
 aBin false false .gtr v7 (.p (.int .i64 4)) fun v8 =>
 (h1=h1∧Q5 v8)) fun v9 =>
 ze v9
 (K (.p (.int .i64 5)) h1)
 (za 0 v0 fun v10 =>
 aLoad false 1 v10 h1 fun v11 =>
 aBin false false .neq v11 (.p (.int .i64 1)) fun v12 =>
 zl true v12 (fun Q13 =>
 za 1 v0 fun v14 =>
 aLoad false 1 v14 h1 fun v15 =>
 aBin false false .neq v15 (.p (.int .i64 0)) fun v16 =>
 (h1=h1∧Q13 v16)) fun v17 =>
 zl false v17 (fun Q18 =>
 za 0 v0 fun v19 =>
 aLoad false 1 v19 h1 fun v20 =>
 aBin false false .neq v20 (.p (.int .i64 2)) fun v21 =>
 zl true v21 (fun Q22 =>
 za 2 v0 fun v23 =>
 aLoad false 1 v23 h1 fun v24 =>
 (h1=h1∧Q22 v24)) fun v25 =>
 (h1=h1∧Q18 v25)) fun v26 =>
 zl false v26 (fun Q27 =>
 za 0 v0 fun v28 =>
 aLoad false 1 v28 h1 fun v29 =>
 aBin false false .neq v29 (.p (.int .i64 3)) fun v30 =>
 zl true v30 (fun Q31 =>
 za 3 v0 fun v32 =>
 aLoad false 1 v32 h1 fun v33 =>
 aBin false false .neq v33 (.p (.str [])) fun v34 =>
 (h1=h1∧Q31 v34)) fun v35 =>
 (h1=h1∧Q27 v35)) fun v36 =>
 zl false v36 (fun Q37 =>
 za 0 v0 fun v38 =>
 aLoad false 1 v38 h1 fun v39 =>
 aBin false false .neq v39 (.p (.int .i64 4)) fun v40 =>
 zl true v40 (fun Q41 =>
 za 4 v0 fun v42 =>
 aLoad false 1 v42 h1 fun v43 =>
 aLenS false v43 fun v44 =>
 aBin false false .gtr v44 (.p (.int .i64 0)) fun v45 =>
 (h1=h1∧Q41 v45)) fun v46 =>
 (h1=h1∧Q37 v46)) fun v47 =>
 ze v47
 (K (.p (.int .i64 2)) h1)
 (za 3 v0 fun v48 =>
 aLoad false 1 v48 h1 fun v49 =>
 aLen false true v49 fun v50 =>
 aBin false false .gtr v50 (.p (.int .i64 255)) fun v51 =>
 ze v51
 (K (.p (.int .i64 4)) h1)
 (za 0 v0 fun v52 =>
 aLoad false 1 v52 h1 fun v53 =>
 aBin false false .neq v53 (.p (.int .i64 4)) fun v54 =>
 ze v54
 (K (.p (.int .i64 0)) h1)
 (za 4 v0 fun v55 =>
 aLoad false 1 v55 h1 fun v56 =>
 aLen false false v56 fun v57 =>
 aBin false false .eql v57 (.p (.int .i64 0)) fun v58 =>
 ze v58
 (K (.p (.int .i64 1)) h1)
 (za 4 v0 fun v59 =>
 aLoad false 1 v59 h1 fun v60 =>
 aLen false false v60 fun v61 =>
 aBin false false .gtr v61 (.p (.int .i64 8)) fun v62 =>
 ze v62
 (K (.p (.int .i64 10)) h1)
 (aBin false false .gtr x1 (.p (.int .i64 4)) fun v63 =>
 ze v63
 (K (.p (.int .i64 9)) h1)
 (zG 1 [(.p (.int .i64 0))] h1 fun xs H B1=>zf2 x1 v0 (xs.getD 0 Z) H B1 K)))))))
def zfv:Nat→List Nat:=fun k=>match k with | 16=>[5] | _=>[]
theorem zl3 (x0 x1:AV) (H:List Ob) (r:AV) (Ho:List Ob):aBody Tryz.prog zfv Tryz.f94 H [x0,x1] r Ho=zec x0 x1 H (fun v H'=>Gives H.length v H' r Ho):=by kernel_rfl
theorem zlT {x0 x1:AV} {r:AV} {Ho:List Ob} (h:zec x0 x1 [] (fun v H'=>Gives 0 v H' r Ho)):Abs.Fn Tryz.prog zcb [] [x0,x1] r Ho :=
 zh mixed zfv (fn:=Tryz.f94) (by kernel_rfl) (by kernel_rfl) (by rw [zl3]; exact h)
def zq7 (q1s3 q1s6 q1s7 y0:AV) (H:List Ob) (B1:List AV→List Ob→Prop) (K:AV→List Ob→Prop):Prop :=
 aBin false false .lss y0 q1s7 fun v1 =>
 ze v1
 (zb 1 q1s6 y0 fun v2 =>
 aLoad false 1 v2 H fun v3 =>
 aBin false false .neq v3 q1s3 fun v4 =>
 ze v4
 (K v3 H)
 (aBin false false .add y0 (.p (.int .i64 1)) fun v5 =>
 B1 [v5] H))
 (K q1s3 H)
def zrx (x0:AV) (H:List Ob) (K:AV→List Ob→Prop):Prop :=
 aLen false false x0 fun v0 =>
 zG 1 [(.p (.int .i64 0))] H fun xs H B1=>zq7 (.p (.int .i64 0)) x0 v0 (xs.getD 0 Z) H B1 K
def zpM:Nat→List Nat:=fun k=>match k with | 3=>[8] | _=>[]
theorem zx6 (x0:AV) (H:List Ob) (r:AV) (Ho:List Ob):aBody Tryz.prog zpM Tryz.f95 H [x0] r Ho=zrx x0 H (fun v H'=>Gives H.length v H' r Ho):=by kernel_rfl
theorem zx1 {x0:AV} {r:AV} {Ho:List Ob} (h:zrx x0 [] (fun v H'=>Gives 0 v H' r Ho)):Abs.Fn Tryz.prog zjT [] [x0] r Ho :=
 zh mixed zpM (fn:=Tryz.f95) (by kernel_rfl) (by kernel_rfl) (by rw [zx6]; exact h)
def zjl (x0 x1:AV) (H:List Ob) (K:AV→List Ob→Prop):Prop :=
 aCall Tryz.prog (.p (.func zgm [])) [x0] H fun v0 h1 =>
 aCall Tryz.prog (.p (.func zgm [])) [x1] h1 fun v2 h3 =>
 ze v0
 (ze v2
 (K (.p (.int .i64 0)) h3)
 (K (.p (.int .i64 (-1))) h3))
 (ze v2
 (K (.p (.int .i64 1)) h3)
 (aBin false false .lss x0 x1 fun v4 =>
 ze v4
 (K (.p (.int .i64 (-1))) h3)
 (aBin false false .gtr x0 x1 fun v5 =>
 ze v5
 (K (.p (.int .i64 1)) h3)
 (K (.p (.int .i64 0)) h3))))
def zjF:Nat→List Nat:=fun _=>[]
theorem zse (x0 x1:AV) (H:List Ob) (r:AV) (Ho:List Ob):aBody Tryz.prog zjF Tryz.f96 H [x0,x1] r Ho=zjl x0 x1 H (fun v H'=>Gives H.length v H' r Ho):=by kernel_rfl
theorem zrp {x0 x1:AV} {r:AV} {Ho:List Ob} (h:zjl x0 x1 [] (fun v H'=>Gives 0 v H' r Ho)):Abs.Fn Tryz.prog zc6 [] [x0,x1] r Ho :=
 zh mixed zjF (fn:=Tryz.f96) (by kernel_rfl) (by kernel_rfl) (by rw [zse]; exact h)
def zhI (x0 x1:AV) (H:List Ob) (K:AV→List Ob→Prop):Prop :=
 aCall Tryz.prog (.p (.func zeq [])) [x0] H fun v0 h1 =>
 aCall Tryz.prog (.p (.func zeq [])) [x1] h1 fun v2 h3 =>
 ze v0
 (ze v2
 (K (.p (.int .i64 0)) h3)
 (K (.p (.int .i64 (-1))) h3))
 (ze v2
 (K (.p (.int .i64 1)) h3)
 (aBin false false .lss x0 x1 fun v4 =>
 ze v4
 (K (.p (.int .i64 (-1))) h3)
 (aBin false false .gtr x0 x1 fun v5 =>
 ze v5
 (K (.p (.int .i64 1)) h3)
 (K (.p (.int .i64 0)) h3))))
def zhP:Nat→List Nat:=fun _=>[]
theorem zoL (x0 x1:AV) (H:List Ob) (r:AV) (Ho:List Ob):aBody Tryz.prog zhP Tryz.f99 H [x0,x1] r Ho=zhI x0 x1 H (fun v H'=>Gives H.length v H' r Ho):=by kernel_rfl
theorem zon {x0 x1:AV} {r:AV} {Ho:List Ob} (h:zhI x0 x1 [] (fun v H'=>Gives 0 v H' r Ho)):Abs.Fn Tryz.prog zf0 [] [x0,x1] r Ho :=
 zh mixed zhP (fn:=Tryz.f99) (by kernel_rfl) (by kernel_rfl) (by rw [zoL]; exact h)
def ztB (x0:AV) (H:List Ob) (K:AV→List Ob→Prop):Prop :=
 ze x0
 (K (.p (.int .i64 1)) H)
 (K (.p (.int .i64 0)) H)
def zqX:Nat→List Nat:=fun _=>[]
theorem zzR (x0:AV) (H:List Ob) (r:AV) (Ho:List Ob):aBody Tryz.prog zqX Tryz.f100 H [x0] r Ho=ztB x0 H (fun v H'=>Gives H.length v H' r Ho):=by kernel_rfl
theorem zzQ {x0:AV} {r:AV} {Ho:List Ob} (h:ztB x0 [] (fun v H'=>Gives 0 v H' r Ho)):Abs.Fn Tryz.prog zli [] [x0] r Ho :=
 zh mixed zqX (fn:=Tryz.f100) (by kernel_rfl) (by kernel_rfl) (by rw [zzR]; exact h)
def zju (x0 x1:AV) (H:List Ob) (K:AV→List Ob→Prop):Prop :=
 aCall Tryz.prog (.p (.func zc5 [])) [x0,x1] H fun v0 h1 =>
 K v0 h1
def zjz:Nat→List Nat:=fun _=>[]
theorem zrM (x0 x1:AV) (H:List Ob) (r:AV) (Ho:List Ob):aBody Tryz.prog zjz Tryz.f101 H [x0,x1] r Ho=zju x0 x1 H (fun v H'=>Gives H.length v H' r Ho):=by kernel_rfl
theorem zrJ {x0 x1:AV} {r:AV} {Ho:List Ob} (h:zju x0 x1 [] (fun v H'=>Gives 0 v H' r Ho)):Abs.Fn Tryz.prog zhs [] [x0,x1] r Ho :=
 zh mixed zjz (fn:=Tryz.f101) (by kernel_rfl) (by kernel_rfl) (by rw [zrM]; exact h)
def zgG (x0 x1 x2:AV) (H:List Ob) (K:AV→List Ob→Prop):Prop :=
 aCall Tryz.prog (.p (.func zP [])) [x0,x1,x2] H fun v0 h1 =>
 K v0 h1
def zhh:Nat→List Nat:=fun _=>[]
theorem zol (x0 x1 x2:AV) (H:List Ob) (r:AV) (Ho:List Ob):aBody Tryz.prog zhh Tryz.f102 H [x0,x1,x2] r Ho=zgG x0 x1 x2 H (fun v H'=>Gives H.length v H' r Ho):=by kernel_rfl
theorem zoj {x0 x1 x2:AV} {r:AV} {Ho:List Ob} (h:zgG x0 x1 x2 [] (fun v H'=>Gives 0 v H' r Ho)):Abs.Fn Tryz.prog zeN [] [x0,x1,x2] r Ho :=
 zh mixed zhh (fn:=Tryz.f102) (by kernel_rfl) (by kernel_rfl) (by rw [zol]; exact h)
def zzN (x0:AV) (H:List Ob) (K:AV→List Ob→Prop):Prop :=
 zy [(.p (.int .i64 0)),(.p (.int .i64 0)),(.p (.bool false)),(.p (.str [])),(.full [])] H fun v0 h1 =>
 aCall Tryz.prog (.p (.func zbh [])) [x0] h1 fun v2 h3 =>
 aCall Tryz.prog (.p (.func zaK [])) [v2] h3 fun v4 h5 =>
 zr [(.p (.int .i64 0)),(.p (.int .i64 0)),(.p (.bool false)),(.p (.str [])),(.full [])] [(0,1,(.p (.int .i64 4))),(4,1,v4)] fun v6 =>
 zj 5 v0 v6 h5 fun _ h8 =>
 aLoad true 5 v0 h8 fun v9 =>
 K v9 h8
def zuE:Nat→List Nat:=fun _=>[]
theorem zCz (x0:AV) (H:List Ob) (r:AV) (Ho:List Ob):aBody Tryz.prog zuE Tryz.f113 H [x0] r Ho=zzN x0 H (fun v H'=>Gives H.length v H' r Ho):=by kernel_rfl
theorem zB0 {x0:AV} {r:AV} {Ho:List Ob} (h:zzN x0 [] (fun v H'=>Gives 0 v H' r Ho)):Abs.Fn Tryz.prog ztZ [] [x0] r Ho :=
 zh mixed zuE (fn:=Tryz.f113) (by kernel_rfl) (by kernel_rfl) (by rw [zCz]; exact h)
def zbA (x0:AV) (H:List Ob) (K:AV→List Ob→Prop):Prop :=
 aLen false false x0 fun v0 =>
 aLen false false x0 fun v1 =>
 zbM false 5 x0 none (some v0) (some v1) fun v2 =>
 K v2 H
def zcv:Nat→List Nat:=fun _=>[]
theorem zgv (x0:AV) (H:List Ob) (r:AV) (Ho:List Ob):aBody Tryz.prog zcv Tryz.f115 H [x0] r Ho=zbA x0 H (fun v H'=>Gives H.length v H' r Ho):=by kernel_rfl
theorem zgx {x0:AV} {r:AV} {Ho:List Ob} (h:zbA x0 [] (fun v H'=>Gives 0 v H' r Ho)):Abs.Fn Tryz.prog zaK [] [x0] r Ho :=
 zh mixed zcv (fn:=Tryz.f115) (by kernel_rfl) (by kernel_rfl) (by rw [zgv]; exact h)
def zsu (q1s1 q1s2 y0 y1:AV) (H:List Ob) (B1:List AV→List Ob→Prop) (K:AV→List Ob→Prop):Prop :=
 za 4 q1s2 fun v25 =>
 aLoad false 1 v25 H fun v26 =>
 aLen false false v26 fun v27 =>
 aBin false false .lss y1 v27 fun v28 =>
 zl true v28 (fun Q29 =>
 aBin false false .eql y0 (.p (.int .i64 0)) fun v30 =>
 (H=H∧Q29 v30)) fun v31 =>
 ze v31
 (za 4 q1s2 fun v32 =>
 aLoad false 1 v32 H fun v33 =>
 zb 5 v33 y1 fun v34 =>
 aLoad true 5 v34 H fun v35 =>
 aBin false false .add q1s1 (.p (.int .i64 1)) fun v36 =>
 aCall Tryz.prog (.p (.func zld [])) [v35,v36] H fun v37 h38 =>
 aBin false false .add y1 (.p (.int .i64 1)) fun v39 =>
 B1 [v37,v39] h38)
 (K y0 H)
def ztp (x0 x1:AV) (H:List Ob) (K:AV→List Ob→Prop):Prop :=
 aBox x0 H fun v0 h1 =>
 za 0 v0 fun v2 =>
 aLoad false 1 v2 h1 fun v3 =>
 aBin false false .lss v3 (.p (.int .i64 1)) fun v4 =>
 zl false v4 (fun Q5 =>
 za 0 v0 fun v6 =>
 aLoad false 1 v6 h1 fun v7 =>
 aBin false false .gtr v7 (.p (.int .i64 4)) fun v8 =>
 (h1=h1∧Q5 v8)) fun v9 =>
 ze v9
 (K (.p (.int .i64 5)) h1)
 (aLoad true 5 v0 h1 fun v10 =>
 aCall Tryz.prog (.p (.func zpN [])) [v10] h1 fun v11 h12 =>
 ze v11
 (K (.p (.int .i64 2)) h12)
 (za 3 v0 fun v13 =>
 aLoad false 1 v13 h12 fun v14 =>
 aLen false true v14 fun v15 =>
 aBin false false .gtr v15 (.p (.int .i64 255)) fun v16 =>
 ze v16
 (K (.p (.int .i64 4)) h12)
 (za 0 v0 fun v17 =>
 aLoad false 1 v17 h12 fun v18 =>
 aBin false false .neq v18 (.p (.int .i64 4)) fun v19 =>
 ze v19
 (K (.p (.int .i64 0)) h12)
 (za 4 v0 fun v20 =>
 aLoad false 1 v20 h12 fun v21 =>
 aLen false false v21 fun v22 =>
 aCall Tryz.prog (.p (.func zql [])) [v22,x1] h12 fun v23 h24 =>
 zG 2 [v23,(.p (.int .i64 0))] h24 fun xs H B1=>zsu x1 v0 (xs.getD 0 Z) (xs.getD 1 Z) H B1 K))))
def zq0:Nat→List Nat:=fun k=>match k with | 11=>[5,6] | _=>[]
theorem zzA (x0 x1:AV) (H:List Ob) (r:AV) (Ho:List Ob):aBody Tryz.prog zq0 Tryz.f136 H [x0,x1] r Ho=ztp x0 x1 H (fun v H'=>Gives H.length v H' r Ho):=by kernel_rfl
theorem zz4 {x0 x1:AV} {r:AV} {Ho:List Ob} (h:ztp x0 x1 [] (fun v H'=>Gives 0 v H' r Ho)):Abs.Fn Tryz.prog zld [] [x0,x1] r Ho :=
 zh mixed zq0 (fn:=Tryz.f136) (by kernel_rfl) (by kernel_rfl) (by rw [zzA]; exact h)
def zl2 (x0:AV) (H:List Ob) (K:AV→List Ob→Prop):Prop :=
 aBin false false .neq x0 x0 fun v0 =>
 K v0 H
def zle:Nat→List Nat:=fun _=>[]
theorem zuj (x0:AV) (H:List Ob) (r:AV) (Ho:List Ob):aBody Tryz.prog zle Tryz.f138 H [x0] r Ho=zl2 x0 H (fun v H'=>Gives H.length v H' r Ho):=by kernel_rfl
theorem zt8 {x0:AV} {r:AV} {Ho:List Ob} (h:zl2 x0 [] (fun v H'=>Gives 0 v H' r Ho)):Abs.Fn Tryz.prog zgm [] [x0] r Ho :=
 zh mixed zle (fn:=Tryz.f138) (by kernel_rfl) (by kernel_rfl) (by rw [zuj]; exact h)
def zji (x0:AV) (H:List Ob) (K:AV→List Ob→Prop):Prop :=
 aBin false false .neq x0 x0 fun v0 =>
 K v0 H
def zjB:Nat→List Nat:=fun _=>[]
theorem zrS (x0:AV) (H:List Ob) (r:AV) (Ho:List Ob):aBody Tryz.prog zjB Tryz.f142 H [x0] r Ho=zji x0 H (fun v H'=>Gives H.length v H' r Ho):=by kernel_rfl
theorem zrX {x0:AV} {r:AV} {Ho:List Ob} (h:zji x0 [] (fun v H'=>Gives 0 v H' r Ho)):Abs.Fn Tryz.prog zeq [] [x0] r Ho :=
 zh mixed zjB (fn:=Tryz.f142) (by kernel_rfl) (by kernel_rfl) (by rw [zrS]; exact h)
def zak (q1s0 q1s1 q1s2 q1s11 q1s12 y0:AV) (H:List Ob) (B1:List AV→List Ob→Prop) (K:AV→List Ob→Prop):Prop :=
 aBin false false .lss y0 q1s12 fun v1 =>
 ze v1
 (zb 5 q1s11 y0 fun v2 =>
 aLoad true 5 v2 H fun v3 =>
 zy [(.p (.int .i64 0)),(.p (.int .i64 0)),(.p (.bool false)),(.p (.str [])),(.full [])] H fun v4 h5 =>
 zj 5 v4 v3 h5 fun _ h7 =>
 aLen false false q1s1 fun v8 =>
 aBin false false .geq y0 v8 fun v9 =>
 ze v9
 (K (.p (.int .i64 1)) h7)
 (zb 5 q1s1 y0 fun v10 =>
 aLoad true 5 v10 h7 fun v11 =>
 zy [(.p (.int .i64 0)),(.p (.int .i64 0)),(.p (.bool false)),(.p (.str [])),(.full [])] h7 fun v12 h13 =>
 zj 5 v12 v11 h13 fun _ h15 =>
 aLoad true 5 v4 h15 fun v16 =>
 aLoad true 5 v12 h15 fun v17 =>
 aCall Tryz.prog q1s2 [v16,v17] h15 fun v18 h19 =>
 aBin false false .neq v18 (.p (.int .i64 0)) fun v20 =>
 ze v20
 (K v18 h19)
 (aBin false false .add y0 (.p (.int .i64 1)) fun v21 =>
 B1 [v21] h19)))
 (aLen false false q1s0 fun v22 =>
 aLen false false q1s1 fun v23 =>
 aBin false false .lss v22 v23 fun v24 =>
 ze v24
 (K (.p (.int .i64 (-1))) H)
 (K (.p (.int .i64 0)) H))
def zT (x0 x1 x2:AV) (H:List Ob) (K:AV→List Ob→Prop):Prop :=
 aLen false false x0 fun v0 =>
 zG 1 [(.p (.int .i64 0))] H fun xs H B1=>zak x0 x1 x2 x0 v0 (xs.getD 0 Z) H B1 K
def zaj:Nat→List Nat:=fun k=>match k with | 2=>[13] | _=>[]
theorem zbx (x0 x1 x2:AV) (H:List Ob) (r:AV) (Ho:List Ob):aBody Tryz.prog zaj Tryz.f144 H [x0,x1,x2] r Ho=zT x0 x1 x2 H (fun v H'=>Gives H.length v H' r Ho):=by kernel_rfl
theorem zby {x0 x1 x2:AV} {r:AV} {Ho:List Ob} (h:zT x0 x1 x2 [] (fun v H'=>Gives 0 v H' r Ho)):Abs.Fn Tryz.prog zP [] [x0,x1,x2] r Ho :=
 zh mixed zaj (fn:=Tryz.f144) (by kernel_rfl) (by kernel_rfl) (by rw [zbx]; exact h)
def zaN (x0:AV) (H:List Ob) (K:AV→List Ob→Prop):Prop :=
 aNil true .eql x0 fun v0 =>
 ze v0
 (K (.full []) H)
 (zn 5 [] fun v1 =>
 zI false 5 64 v1 x0 H fun v2 h3 =>
 K v2 h3)
def zck:Nat→List Nat:=fun _=>[]
theorem zgh (x0:AV) (H:List Ob) (r:AV) (Ho:List Ob):aBody Tryz.prog zck Tryz.f153 H [x0] r Ho=zaN x0 H (fun v H'=>Gives H.length v H' r Ho):=by kernel_rfl
theorem zcu {x0:AV} {r:AV} {Ho:List Ob} (h:zaN x0 [] (fun v H'=>Gives 0 v H' r Ho)):Abs.Fn Tryz.prog zbh [] [x0] r Ho :=
 zh mixed zck (fn:=Tryz.f153) (by kernel_rfl) (by kernel_rfl) (by rw [zgh]; exact h)
def zto (x0:AV) (H:List Ob) (K:AV→List Ob→Prop):Prop :=
 aBox x0 H fun v0 h1 =>
 za 0 v0 fun v2 =>
 aLoad false 1 v2 h1 fun v3 =>
 aBin false false .neq v3 (.p (.int .i64 1)) fun v4 =>
 zl true v4 (fun Q5 =>
 za 1 v0 fun v6 =>
 aLoad false 1 v6 h1 fun v7 =>
 aBin false false .neq v7 (.p (.int .i64 0)) fun v8 =>
 (h1=h1∧Q5 v8)) fun v9 =>
 zl false v9 (fun Q10 =>
 za 0 v0 fun v11 =>
 aLoad false 1 v11 h1 fun v12 =>
 aBin false false .neq v12 (.p (.int .i64 2)) fun v13 =>
 zl true v13 (fun Q14 =>
 za 2 v0 fun v15 =>
 aLoad false 1 v15 h1 fun v16 =>
 (h1=h1∧Q14 v16)) fun v17 =>
 (h1=h1∧Q10 v17)) fun v18 =>
 zl false v18 (fun Q19 =>
 za 0 v0 fun v20 =>
 aLoad false 1 v20 h1 fun v21 =>
 aBin false false .neq v21 (.p (.int .i64 3)) fun v22 =>
 zl true v22 (fun Q23 =>
 za 3 v0 fun v24 =>
 aLoad false 1 v24 h1 fun v25 =>
 aBin false false .neq v25 (.p (.str [])) fun v26 =>
 (h1=h1∧Q23 v26)) fun v27 =>
 (h1=h1∧Q19 v27)) fun v28 =>
 zl false v28 (fun Q29 =>
 za 0 v0 fun v30 =>
 aLoad false 1 v30 h1 fun v31 =>
 aBin false false .neq v31 (.p (.int .i64 4)) fun v32 =>
 zl true v32 (fun Q33 =>
 za 4 v0 fun v34 =>
 aLoad false 1 v34 h1 fun v35 =>
 aLenS false v35 fun v36 =>
 aBin false false .gtr v36 (.p (.int .i64 0)) fun v37 =>
 (h1=h1∧Q33 v37)) fun v38 =>
 (h1=h1∧Q29 v38)) fun v39 =>
 K v39 h1
def zqW:Nat→List Nat:=fun _=>[]
theorem zzy (x0:AV) (H:List Ob) (r:AV) (Ho:List Ob):aBody Tryz.prog zqW Tryz.f168 H [x0] r Ho=zto x0 H (fun v H'=>Gives H.length v H' r Ho):=by kernel_rfl
theorem zzt {x0:AV} {r:AV} {Ho:List Ob} (h:zto x0 [] (fun v H'=>Gives 0 v H' r Ho)):Abs.Fn Tryz.prog zpN [] [x0] r Ho :=
 zh mixed zqW (fn:=Tryz.f168) (by kernel_rfl) (by kernel_rfl) (by rw [zzy]; exact h)
def zw0 (x0:AV) (H:List Ob) (K:AV→List Ob→Prop):Prop :=
 zy [(.p (.int .i64 0)),(.p (.int .i64 0)),(.p (.bool false)),(.p (.str [])),(.full [])] H fun v0 h1 =>
 zr [(.p (.int .i64 0)),(.p (.int .i64 0)),(.p (.bool false)),(.p (.str [])),(.full [])] [(0,1,(.p (.int .i64 2))),(2,1,x0)] fun v2 =>
 zj 5 v0 v2 h1 fun _ h4 =>
 aLoad true 5 v0 h4 fun v5 =>
 K v5 h4
def ztf:Nat→List Nat:=fun _=>[]
theorem zBj (x0:AV) (H:List Ob) (r:AV) (Ho:List Ob):aBody Tryz.prog ztf Tryz.f215 H [x0] r Ho=zw0 x0 H (fun v H'=>Gives H.length v H' r Ho):=by kernel_rfl
theorem zBT {x0:AV} {r:AV} {Ho:List Ob} (h:zw0 x0 [] (fun v H'=>Gives 0 v H' r Ho)):Abs.Fn Tryz.prog zkD [] [x0] r Ho :=
 zh mixed ztf (fn:=Tryz.f215) (by kernel_rfl) (by kernel_rfl) (by rw [zBj]; exact h)
def zy8 (x0:AV) (H:List Ob) (K:AV→List Ob→Prop):Prop :=
 zy [(.p (.int .i64 0)),(.p (.int .i64 0)),(.p (.bool false)),(.p (.str [])),(.full [])] H fun v0 h1 =>
 zr [(.p (.int .i64 0)),(.p (.int .i64 0)),(.p (.bool false)),(.p (.str [])),(.full [])] [(0,1,(.p (.int .i64 3))),(3,1,x0)] fun v2 =>
 zj 5 v0 v2 h1 fun _ h4 =>
 aLoad true 5 v0 h4 fun v5 =>
 K v5 h4
def zuQ:Nat→List Nat:=fun _=>[]
theorem zBW (x0:AV) (H:List Ob) (r:AV) (Ho:List Ob):aBody Tryz.prog zuQ Tryz.f253 H [x0] r Ho=zy8 x0 H (fun v H'=>Gives H.length v H' r Ho):=by kernel_rfl
theorem zCV {x0:AV} {r:AV} {Ho:List Ob} (h:zy8 x0 [] (fun v H'=>Gives 0 v H' r Ho)):Abs.Fn Tryz.prog ztM [] [x0] r Ho :=
 zh mixed zuQ (fn:=Tryz.f253) (by kernel_rfl) (by kernel_rfl) (by rw [zBW]; exact h)
def zrU (x0:AV) (H:List Ob) (K:AV→List Ob→Prop):Prop :=
 aBox x0 H fun v0 h1 =>
 zy [(.p (.int .i64 0)),(.full [])] h1 fun v2 h3 =>
 aLoad true 5 v0 h3 fun v4 =>
 aCall Tryz.prog (.p (.func ziY [])) [v4] h3 fun v5 h6 =>
 aBin false false .neq v5 (.p (.int .i64 0)) fun v7 =>
 ze v7
 (zr [(.p (.int .i64 0)),(.full [])] [] fun v8 =>
 zj 2 v2 v8 h6 fun _ h10 =>
 aLoad true 2 v2 h10 fun v11 =>
 K v11 h10)
 (aLoad true 5 v0 h6 fun v12 =>
 aCall Tryz.prog (.p (.func zkB [])) [v12] h6 fun v13 h14 =>
 zj 2 v2 v13 h14 fun _ h16 =>
 aLoad true 2 v2 h16 fun v17 =>
 K v17 h16)
def zpu:Nat→List Nat:=fun _=>[]
theorem zx9 (x0:AV) (H:List Ob) (r:AV) (Ho:List Ob):aBody Tryz.prog zpu Tryz.f261 H [x0] r Ho=zrU x0 H (fun v H'=>Gives H.length v H' r Ho):=by kernel_rfl
theorem zx7 {x0:AV} {r:AV} {Ho:List Ob} (h:zrU x0 [] (fun v H'=>Gives 0 v H' r Ho)):Abs.Fn Tryz.prog znz [] [x0] r Ho :=
 zh mixed zpu (fn:=Tryz.f261) (by kernel_rfl) (by kernel_rfl) (by rw [zx9]; exact h)
end Go.Proofs.YtdmgbhamigegfaaGreatDoor
end

section
/- Made by program (Gen.lean): functions of the dump, over trees. -/
set_option maxRecDepth 4000
set_option linter.unusedVariables false
namespace Go.Proofs.YtdmgbhamigegfaaGreatDoor
open Go Go.Abs
def zlF (x0 x1:AV) (H:List Ob) (K:AV→List Ob→Prop):Prop :=
 zy [(.p (.str [])),(.p (.int .i64 0)),(.p (.int .i64 0)),(.p (.bool false)),(.p (.str [])),(.full []),(.p (.int .i64 0)),(.full [])] H fun v0 h1 =>
 zr [(.p (.str [])),(.p (.int .i64 0)),(.p (.int .i64 0)),(.p (.bool false)),(.p (.str [])),(.full []),(.p (.int .i64 0)),(.full [])] [(0,1,x0),(7,1,x1)] fun v2 =>
 zj 8 v0 v2 h1 fun _ h4 =>
 aLoad true 8 v0 h4 fun v5 =>
 K v5 h4
def zlp:Nat→List Nat:=fun _=>[]
theorem ztX (x0 x1:AV) (H:List Ob) (r:AV) (Ho:List Ob):aBody Tryz.prog zlp Tryz.f10 H [x0,x1] r Ho=zlF x0 x1 H (fun v H'=>Gives H.length v H' r Ho):=by kernel_rfl
theorem zty {x0 x1:AV} {r:AV} {Ho:List Ob} (h:zlF x0 x1 [] (fun v H'=>Gives 0 v H' r Ho)):Abs.Fn Tryz.prog zjr [] [x0,x1] r Ho :=
 zh mixed zlp (fn:=Tryz.f10) (by kernel_rfl) (by kernel_rfl) (by rw [ztX]; exact h)
def zkb (x0:AV) (H:List Ob) (K:AV→List Ob→Prop):Prop :=
 aBox x0 H fun v0 h1 =>
 zy [(.p (.str [])),(.p (.int .i64 0)),(.p (.int .i64 0)),(.p (.bool false)),(.p (.str [])),(.full []),(.p (.int .i64 0)),(.full [])] h1 fun v2 h3 =>
 aLoad true 5 v0 h3 fun v4 =>
 zr [(.p (.str [])),(.p (.int .i64 0)),(.p (.int .i64 0)),(.p (.bool false)),(.p (.str [])),(.full []),(.p (.int .i64 0)),(.full [])] [(0,1,(.p (.str [108,105,116]))),(1,5,v4)] fun v5 =>
 zj 8 v2 v5 h3 fun _ h7 =>
 aLoad true 8 v2 h7 fun v8 =>
 K v8 h7
def zkz:Nat→List Nat:=fun _=>[]
theorem zs1 (x0:AV) (H:List Ob) (r:AV) (Ho:List Ob):aBody Tryz.prog zkz Tryz.f11 H [x0] r Ho=zkb x0 H (fun v H'=>Gives H.length v H' r Ho):=by kernel_rfl
theorem zs9 {x0:AV} {r:AV} {Ho:List Ob} (h:zkb x0 [] (fun v H'=>Gives 0 v H' r Ho)):Abs.Fn Tryz.prog zii [] [x0] r Ho :=
 zh mixed zkz (fn:=Tryz.f11) (by kernel_rfl) (by kernel_rfl) (by rw [zs1]; exact h)
def zns (H:List Ob) (K:AV→List Ob→Prop):Prop :=
 zy [(.p (.str [])),(.p (.int .i64 0)),(.p (.int .i64 0)),(.p (.bool false)),(.p (.str [])),(.full []),(.p (.int .i64 0)),(.full [])] H fun v0 h1 =>
 zr [(.p (.str [])),(.p (.int .i64 0)),(.p (.int .i64 0)),(.p (.bool false)),(.p (.str [])),(.full []),(.p (.int .i64 0)),(.full [])] [(0,1,(.p (.str [120])))] fun v2 =>
 zj 8 v0 v2 h1 fun _ h4 =>
 aLoad true 8 v0 h4 fun v5 =>
 K v5 h4
def zmj:Nat→List Nat:=fun _=>[]
theorem zu2 (H:List Ob) (r:AV) (Ho:List Ob):aBody Tryz.prog zmj Tryz.f13 H [] r Ho=zns H (fun v H'=>Gives H.length v H' r Ho):=by kernel_rfl
theorem zvd {r:AV} {Ho:List Ob} (h:zns [] (fun v H'=>Gives 0 v H' r Ho)):Abs.Fn Tryz.prog zkd [] [] r Ho :=
 zh mixed zmj (fn:=Tryz.f13) (by kernel_rfl) (by kernel_rfl) (by rw [zu2]; exact h)
def zk2 (x0:AV) (H:List Ob) (K:AV→List Ob→Prop):Prop :=
 aBox x0 H fun v0 h1 =>
 aLoad true 8 v0 h1 fun v2 =>
 aCall Tryz.prog (.p (.func zdl [])) [v2,(.p (.int .i64 20)),(.p (.int .i64 400))] h1 fun v3 h4 =>
 aBin false false .gtr v3 (.p (.int .i64 0)) fun v5 =>
 K v5 h4
def zkM:Nat→List Nat:=fun _=>[]
theorem zsT (x0:AV) (H:List Ob) (r:AV) (Ho:List Ob):aBody Tryz.prog zkM Tryz.f80 H [x0] r Ho=zk2 x0 H (fun v H'=>Gives H.length v H' r Ho):=by kernel_rfl
theorem ztc {x0:AV} {r:AV} {Ho:List Ob} (h:zk2 x0 [] (fun v H'=>Gives 0 v H' r Ho)):Abs.Fn Tryz.prog zfa [] [x0] r Ho :=
 zh mixed zkM (fn:=Tryz.f80) (by kernel_rfl) (by kernel_rfl) (by rw [zsT]; exact h)
def zme (q1s1 q1s2 q1s3 y0:AV) (H:List Ob) (B1:List AV→List Ob→Prop) (K:AV→List Ob→Prop):Prop :=
 za 7 q1s1 fun v16 =>
 aLoad false 1 v16 H fun v17 =>
 aLen false false v17 fun v18 =>
 aBin false false .lss y0 v18 fun v19 =>
 ze v19
 (za 7 q1s3 fun v20 =>
 aLoad false 1 v20 H fun v21 =>
 za 7 q1s1 fun v22 =>
 aLoad false 1 v22 H fun v23 =>
 zb 8 v23 y0 fun v24 =>
 aLoad true 8 v24 H fun v25 =>
 zL Tryz.prog (.p (.func zd5 [])) [v25] fun v26 =>
 zn 8 [v26] fun v27 =>
 aCalm [v21,v27] <|
 zI false 8 112 v21 v27 H fun v28 h29 =>
 za 7 q1s3 fun v30 =>
 zj 1 v30 v28 h29 fun _ h32 =>
 aBin false false .add y0 (.p (.int .i64 1)) fun v33 =>
 B1 [v33] h32)
 (aLoad true 8 q1s3 H fun v34 =>
 zj 8 q1s2 v34 H fun _ h36 =>
 aLoad true 8 q1s2 h36 fun v37 =>
 K v37 h36)
def zlx (x0:AV) (H:List Ob) (K:AV→List Ob→Prop):Prop :=
 aBox x0 H fun v0 h1 =>
 zy [(.p (.str [])),(.p (.int .i64 0)),(.p (.int .i64 0)),(.p (.bool false)),(.p (.str [])),(.full []),(.p (.int .i64 0)),(.full [])] h1 fun v2 h3 =>
 zy [(.p (.str [])),(.p (.int .i64 0)),(.p (.int .i64 0)),(.p (.bool false)),(.p (.str [])),(.full []),(.p (.int .i64 0)),(.full [])] h3 fun v4 h5 =>
 za 0 v0 fun v6 =>
 aLoad false 1 v6 h5 fun v7 =>
 za 1 v0 fun v8 =>
 aLoad true 5 v8 h5 fun v9 =>
 zL Tryz.prog (.p (.func zd7 [])) [v9] fun v10 =>
 za 6 v0 fun v11 =>
 aLoad false 1 v11 h5 fun v12 =>
 zr [(.p (.str [])),(.p (.int .i64 0)),(.p (.int .i64 0)),(.p (.bool false)),(.p (.str [])),(.full []),(.p (.int .i64 0)),(.full [])] [(0,1,v7),(1,5,v10),(6,1,v12)] fun v13 =>
 zj 8 v4 v13 h5 fun _ h15 =>
 zG 1 [(.p (.int .i64 0))] h15 fun xs H B1=>zme v0 v2 v4 (xs.getD 0 Z) H B1 K
def zlm:Nat→List Nat:=fun k=>match k with | 3=>[4] | _=>[]
theorem ztu (x0:AV) (H:List Ob) (r:AV) (Ho:List Ob):aBody Tryz.prog zlm Tryz.f83 H [x0] r Ho=zlx x0 H (fun v H'=>Gives H.length v H' r Ho):=by kernel_rfl
theorem zuf {x0:AV} {r:AV} {Ho:List Ob} (h:zlx x0 [] (fun v H'=>Gives 0 v H' r Ho)):Abs.Fn Tryz.prog zd5 [] [x0] r Ho :=
 zh mixed zlm (fn:=Tryz.f83) (by kernel_rfl) (by kernel_rfl) (by rw [ztu]; exact h)
def ziP (q1s1 q1s3 y0 y1:AV) (H:List Ob) (B1:List AV→List Ob→Prop) (K:AV→List Ob→Prop):Prop :=
 za 7 q1s3 fun v26 =>
 aLoad false 1 v26 H fun v27 =>
 aLen false false v27 fun v28 =>
 aBin false false .lss y1 v28 fun v29 =>
 zl true v29 (fun Q30 =>
 aBin false false .gtr y0 (.p (.int .i64 0)) fun v31 =>
 (H=H∧Q30 v31)) fun v32 =>
 ze v32
 (za 7 q1s3 fun v33 =>
 aLoad false 1 v33 H fun v34 =>
 zb 8 v34 y1 fun v35 =>
 aLoad true 8 v35 H fun v36 =>
 aBin false false .sub q1s1 (.p (.int .i64 1)) fun v37 =>
 aCall Tryz.prog (.p (.func zdl [])) [v36,v37,y0] H fun v38 h39 =>
 aBin false false .add y1 (.p (.int .i64 1)) fun v40 =>
 B1 [v38,v40] h39)
 (K y0 H)
def zhq (x0 x1 x2:AV) (H:List Ob) (K:AV→List Ob→Prop):Prop :=
 aBox x0 H fun v0 h1 =>
 aBin false false .leq x2 (.p (.int .i64 0)) fun v2 =>
 zl false v2 (fun Q3 =>
 aBin false false .leq x1 (.p (.int .i64 0)) fun v4 =>
 (h1=h1∧Q3 v4)) fun v5 =>
 zl false v5 (fun Q6 =>
 za 7 v0 fun v7 =>
 aLoad false 1 v7 h1 fun v8 =>
 aLenS false v8 fun v9 =>
 aBin false false .gtr v9 (.p (.int .i64 12)) fun v10 =>
 (h1=h1∧Q6 v10)) fun v11 =>
 zl false v11 (fun Q12 =>
 za 0 v0 fun v13 =>
 aLoad false 1 v13 h1 fun v14 =>
 aLenS true v14 fun v15 =>
 aBin false false .gtr v15 (.p (.int .i64 20)) fun v16 =>
 (h1=h1∧Q12 v16)) fun v17 =>
 zl false v17 (fun Q18 =>
 za 1 v0 fun v19 =>
 aLoad true 5 v19 h1 fun v20 =>
 aCall Tryz.prog (.p (.func zfh [])) [v20] h1 fun v21 h22 =>
 aUn .not v21 fun v23 =>
 (h22=h1∧Q18 v23)) fun v24 =>
 ze v24
 (K (.p (.int .i64 0)) h1)
 (aBin false false .sub x2 (.p (.int .i64 1)) fun v25 =>
 zG 2 [v25,(.p (.int .i64 0))] h1 fun xs H B1=>ziP x1 v0 (xs.getD 0 Z) (xs.getD 1 Z) H B1 K)
def zhR:Nat→List Nat:=fun k=>match k with | 5=>[2,7] | _=>[]
theorem zpf (x0 x1 x2:AV) (H:List Ob) (r:AV) (Ho:List Ob):aBody Tryz.prog zhR Tryz.f123 H [x0,x1,x2] r Ho=zhq x0 x1 x2 H (fun v H'=>Gives H.length v H' r Ho):=by kernel_rfl
theorem zpP {x0 x1 x2:AV} {r:AV} {Ho:List Ob} (h:zhq x0 x1 x2 [] (fun v H'=>Gives 0 v H' r Ho)):Abs.Fn Tryz.prog zdl [] [x0,x1,x2] r Ho :=
 zh mixed zhR (fn:=Tryz.f123) (by kernel_rfl) (by kernel_rfl) (by rw [zpf]; exact h)
def ze0 (x0 x1:AV) (H:List Ob) (K:AV→List Ob→Prop):Prop :=
 aBox x0 H fun v0 h1 =>
 aBox x1 h1 fun v2 h3 =>
 zy [(.p (.int .i64 0)),(.full [])] h3 fun v4 h5 =>
 aLoad true 2 v2 h5 fun v6 =>
 aCall Tryz.prog (.p (.func zaC [])) [v6] h5 fun v7 h8 =>
 aBin false false .neq v7 (.p (.int .i64 0)) fun v9 =>
 ze v9
 (zr [(.p (.int .i64 0)),(.full [])] [] fun v10 =>
 zj 2 v4 v10 h8 fun _ h12 =>
 aLoad true 2 v4 h12 fun v13 =>
 K (.tup [v13,(.p (.int .i64 5))]) h12)
 (aLoad true 8 v0 h8 fun v14 =>
 aCall Tryz.prog (.p (.func zet [])) [v14] h8 fun v15 h16 =>
 aBin false false .gtr v15 (.p (.int .i64 256)) fun v17 =>
 ze v17
 (zr [(.p (.int .i64 0)),(.full [])] [] fun v18 =>
 zj 2 v4 v18 h16 fun _ h20 =>
 aLoad true 2 v4 h20 fun v21 =>
 K (.tup [v21,(.p (.int .i64 10))]) h20)
 (aLoad true 8 v0 h16 fun v22 =>
 aLoad true 2 v2 h16 fun v23 =>
 aCall Tryz.prog (.p (.func zdR [])) [v22,v23,(.p (.int .i64 0))] h16 fun v24 h25 =>
 zB v24 0 fun v26 =>
 zB v24 1 fun v27 =>
 zj 2 v4 v26 h25 fun _ h29 =>
 aLoad true 2 v4 h29 fun v30 =>
 K (.tup [v30,v27]) h29))
def zf8:Nat→List Nat:=fun _=>[]
theorem zmh (x0 x1:AV) (H:List Ob) (r:AV) (Ho:List Ob):aBody Tryz.prog zf8 Tryz.f158 H [x0,x1] r Ho=ze0 x0 x1 H (fun v H'=>Gives H.length v H' r Ho):=by kernel_rfl
theorem zmE {x0 x1:AV} {r:AV} {Ho:List Ob} (h:ze0 x0 x1 [] (fun v H'=>Gives 0 v H' r Ho)):Abs.Fn Tryz.prog zcm [] [x0,x1] r Ho :=
 zh mixed zf8 (fn:=Tryz.f158) (by kernel_rfl) (by kernel_rfl) (by rw [zmh]; exact h)
def zrD (x0 x1:AV) (H:List Ob) (K:AV→List Ob→Prop):Prop :=
 aBox x0 H fun v0 h1 =>
 aBox x1 h1 fun v2 h3 =>
 zy [(.p (.int .i64 0)),(.full [])] h3 fun v4 h5 =>
 aLoad true 2 v2 h5 fun v6 =>
 aCall Tryz.prog (.p (.func zgQ [])) [v6] h5 fun v7 h8 =>
 aBin false false .neq v7 (.p (.int .i64 0)) fun v9 =>
 ze v9
 (zr [(.p (.int .i64 0)),(.full [])] [] fun v10 =>
 zj 2 v4 v10 h8 fun _ h12 =>
 aLoad true 2 v4 h12 fun v13 =>
 K (.tup [v13,(.p (.int .i64 5))]) h12)
 (aLoad true 8 v0 h8 fun v14 =>
 aCall Tryz.prog (.p (.func zk8 [])) [v14] h8 fun v15 h16 =>
 aBin false false .gtr v15 (.p (.int .i64 256)) fun v17 =>
 ze v17
 (zr [(.p (.int .i64 0)),(.full [])] [] fun v18 =>
 zj 2 v4 v18 h16 fun _ h20 =>
 aLoad true 2 v4 h20 fun v21 =>
 K (.tup [v21,(.p (.int .i64 10))]) h20)
 (aLoad true 8 v0 h16 fun v22 =>
 aLoad true 2 v2 h16 fun v23 =>
 aCall Tryz.prog (.p (.func zj0 [])) [v22,v23,(.p (.int .i64 0))] h16 fun v24 h25 =>
 zB v24 0 fun v26 =>
 zB v24 1 fun v27 =>
 zj 2 v4 v26 h25 fun _ h29 =>
 aLoad true 2 v4 h29 fun v30 =>
 K (.tup [v30,v27]) h29))
def zoB:Nat→List Nat:=fun _=>[]
theorem zxR (x0 x1:AV) (H:List Ob) (r:AV) (Ho:List Ob):aBody Tryz.prog zoB Tryz.f163 H [x0,x1] r Ho=zrD x0 x1 H (fun v H'=>Gives H.length v H' r Ho):=by kernel_rfl
theorem zyb {x0 x1:AV} {r:AV} {Ho:List Ob} (h:zrD x0 x1 [] (fun v H'=>Gives 0 v H' r Ho)):Abs.Fn Tryz.prog zjU [] [x0,x1] r Ho :=
 zh mixed zoB (fn:=Tryz.f163) (by kernel_rfl) (by kernel_rfl) (by rw [zxR]; exact h)
def zkg (q1s1 y0 y1:AV) (H:List Ob) (B1:List AV→List Ob→Prop) (K:AV→List Ob→Prop):Prop :=
 za 7 q1s1 fun v2 =>
 aLoad false 1 v2 H fun v3 =>
 aLen false false v3 fun v4 =>
 aBin false false .lss y1 v4 fun v5 =>
 ze v5
 (za 7 q1s1 fun v6 =>
 aLoad false 1 v6 H fun v7 =>
 zb 8 v7 y1 fun v8 =>
 aLoad true 8 v8 H fun v9 =>
 aCall Tryz.prog (.p (.func zet [])) [v9] H fun v10 h11 =>
 aBin false false .add y0 v10 fun v12 =>
 aBin false false .add y1 (.p (.int .i64 1)) fun v13 =>
 B1 [v12,v13] h11)
 (K y0 H)
def zjs (x0:AV) (H:List Ob) (K:AV→List Ob→Prop):Prop :=
 aBox x0 H fun v0 h1 =>
 zG 2 [(.p (.int .i64 1)),(.p (.int .i64 0))] h1 fun xs H B1=>zkg v0 (xs.getD 0 Z) (xs.getD 1 Z) H B1 K
def zjD:Nat→List Nat:=fun k=>match k with | 3=>[3,4] | _=>[]
theorem zr0 (x0:AV) (H:List Ob) (r:AV) (Ho:List Ob):aBody Tryz.prog zjD Tryz.f186 H [x0] r Ho=zjs x0 H (fun v H'=>Gives H.length v H' r Ho):=by kernel_rfl
theorem zsd {x0:AV} {r:AV} {Ho:List Ob} (h:zjs x0 [] (fun v H'=>Gives 0 v H' r Ho)):Abs.Fn Tryz.prog zet [] [x0] r Ho :=
 zh mixed zjD (fn:=Tryz.f186) (by kernel_rfl) (by kernel_rfl) (by rw [zr0]; exact h)
def zjP (q1s2 q1s3 q1s4 q1s6 y0 y1:AV) (H:List Ob) (B1:List AV→List Ob→Prop) (K:AV→List Ob→Prop):Prop :=
 za 7 q1s3 fun v96 =>
 aLoad false 1 v96 H fun v97 =>
 aLen false false v97 fun v98 =>
 aBin false false .lss y1 v98 fun v99 =>
 ze v99
 (zy [(.p (.int .i64 0)),(.full [])] H fun v100 h101 =>
 za 7 q1s3 fun v102 =>
 aLoad false 1 v102 h101 fun v103 =>
 zb 8 v103 y1 fun v104 =>
 aLoad true 8 v104 h101 fun v105 =>
 aLoad true 2 q1s4 h101 fun v106 =>
 aBin false false .add q1s2 (.p (.int .i64 1)) fun v107 =>
 zL Tryz.prog (.p (.func zdR [])) [v105,v106,v107] fun v108 =>
 zB v108 0 fun v109 =>
 zB v108 1 fun v110 =>
 zj 2 v100 v109 h101 fun _ h112 =>
 aBin false false .neq v110 (.p (.int .i64 0)) fun v113 =>
 ze v113
 (zr [(.p (.int .i64 0)),(.full [])] [] fun v114 =>
 zj 2 q1s6 v114 h112 fun _ h116 =>
 aLoad true 2 q1s6 h116 fun v117 =>
 K (.tup [v117,v110]) h116)
 (aLoad true 2 v100 h112 fun v118 =>
 zn 2 [v118] fun v119 =>
 zI false 2 32 y0 v119 h112 fun v120 h121 =>
 aBin false false .add y1 (.p (.int .i64 1)) fun v122 =>
 B1 [v120,v122] h121))
 (za 0 q1s3 fun v123 =>
 aLoad false 1 v123 H fun v124 =>
 za 6 q1s3 fun v125 =>
 aLoad false 1 v125 H fun v126 =>
 aCall Tryz.prog (.p (.func zfB [])) [v124,v126,y0] H fun v127 h128 =>
 zB v127 0 fun v129 =>
 zB v127 1 fun v130 =>
 zj 2 q1s6 v129 h128 fun _ h132 =>
 aLoad true 2 q1s6 h132 fun v133 =>
 K (.tup [v133,v130]) h132)
def zh6 (x0 x1 x2:AV) (H:List Ob) (K:AV→List Ob→Prop):Prop :=
 aBox x0 H fun v0 h1 =>
 aBox x1 h1 fun v2 h3 =>
 zy [(.p (.int .i64 0)),(.full [])] h3 fun v4 h5 =>
 za 0 v0 fun v6 =>
 aLoad false 1 v6 h5 fun v7 =>
 aCall Tryz.prog (.p (.func zgs [])) [v7] h5 fun v8 h9 =>
 aBin false false .eql v8 (.p (.int .i64 (-2))) fun v10 =>
 ze v10
 (zr [(.p (.int .i64 0)),(.full [])] [] fun v11 =>
 zj 2 v4 v11 h9 fun _ h13 =>
 aLoad true 2 v4 h13 fun v14 =>
 K (.tup [v14,(.p (.int .i64 6))]) h13)
 (aBin false false .gtr x2 (.p (.int .i64 12)) fun v15 =>
 ze v15
 (zr [(.p (.int .i64 0)),(.full [])] [] fun v16 =>
 zj 2 v4 v16 h9 fun _ h18 =>
 aLoad true 2 v4 h18 fun v19 =>
 K (.tup [v19,(.p (.int .i64 9))]) h18)
 (aBin false false .geq v8 (.p (.int .i64 0)) fun v20 =>
 zl true v20 (fun Q21 =>
 za 7 v0 fun v22 =>
 aLoad false 1 v22 h9 fun v23 =>
 aLenS false v23 fun v24 =>
 aBin false false .neq v24 v8 fun v25 =>
 (h9=h9∧Q21 v25)) fun v26 =>
 zl false v26 (fun Q27 =>
 aBin false false .lss v8 (.p (.int .i64 0)) fun v28 =>
 zl true v28 (fun Q29 =>
 za 7 v0 fun v30 =>
 aLoad false 1 v30 h9 fun v31 =>
 aLenS false v31 fun v32 =>
 aBin false false .lss v32 (.p (.int .i64 1)) fun v33 =>
 zl false v33 (fun Q34 =>
 za 7 v0 fun v35 =>
 aLoad false 1 v35 h9 fun v36 =>
 aLenS false v36 fun v37 =>
 aBin false false .gtr v37 (.p (.int .i64 8)) fun v38 =>
 (h9=h9∧Q34 v38)) fun v39 =>
 (h9=h9∧Q29 v39)) fun v40 =>
 (h9=h9∧Q27 v40)) fun v41 =>
 ze v41
 (zr [(.p (.int .i64 0)),(.full [])] [] fun v42 =>
 zj 2 v4 v42 h9 fun _ h44 =>
 aLoad true 2 v4 h44 fun v45 =>
 K (.tup [v45,(.p (.int .i64 1))]) h44)
 (za 0 v0 fun v46 =>
 aLoad false 1 v46 h9 fun v47 =>
 aBin false false .neq v47 (.p (.str [97,116])) fun v48 =>
 zl true v48 (fun Q49 =>
 za 6 v0 fun v50 =>
 aLoad false 1 v50 h9 fun v51 =>
 aBin false false .neq v51 (.p (.int .i64 0)) fun v52 =>
 (h9=h9∧Q49 v52)) fun v53 =>
 zl false v53 (fun Q54 =>
 za 0 v0 fun v55 =>
 aLoad false 1 v55 h9 fun v56 =>
 aBin false false .neq v56 (.p (.str [108,105,116])) fun v57 =>
 zl true v57 (fun Q58 =>
 za 1 v0 fun v59 =>
 aLoad true 5 v59 h9 fun v60 =>
 aCall Tryz.prog (.p (.func zfO [])) [v60] h9 fun v61 h62 =>
 aUn .not v61 fun v63 =>
 (h62=h9∧Q58 v63)) fun v64 =>
 (h9=h9∧Q54 v64)) fun v65 =>
 ze v65
 (zr [(.p (.int .i64 0)),(.full [])] [] fun v66 =>
 zj 2 v4 v66 h9 fun _ h68 =>
 aLoad true 2 v4 h68 fun v69 =>
 K (.tup [v69,(.p (.int .i64 1))]) h68)
 (za 0 v0 fun v70 =>
 aLoad false 1 v70 h9 fun v71 =>
 aBin false false .eql v71 (.p (.str [108,105,116])) fun v72 =>
 ze v72
 (za 1 v0 fun v73 =>
 aLoad true 5 v73 h9 fun v74 =>
 aCall Tryz.prog (.p (.func zb9 [])) [v74] h9 fun v75 h76 =>
 aBin false false .neq v75 (.p (.int .i64 0)) fun v77 =>
 ze v77
 (zr [(.p (.int .i64 0)),(.full [])] [] fun v78 =>
 zj 2 v4 v78 h76 fun _ h80 =>
 aLoad true 2 v4 h80 fun v81 =>
 K (.tup [v81,v75]) h80)
 (za 1 v0 fun v82 =>
 aLoad true 5 v82 h76 fun v83 =>
 aCall Tryz.prog (.p (.func zcj [])) [v83] h76 fun v84 h85 =>
 zj 2 v4 v84 h85 fun _ h87 =>
 aLoad true 2 v4 h87 fun v88 =>
 K (.tup [v88,(.p (.int .i64 0))]) h87))
 (za 0 v0 fun v89 =>
 aLoad false 1 v89 h9 fun v90 =>
 aBin false false .eql v90 (.p (.str [120])) fun v91 =>
 ze v91
 (aLoad true 2 v2 h9 fun v92 =>
 zj 2 v4 v92 h9 fun _ h94 =>
 aLoad true 2 v4 h94 fun v95 =>
 K (.tup [v95,(.p (.int .i64 0))]) h94)
 (zG 2 [(.full []),(.p (.int .i64 0))] h9 fun xs H B1=>zjP x2 v0 v2 v4 (xs.getD 0 Z) (xs.getD 1 Z) H B1 K))))))
def ziI:Nat→List Nat:=fun k=>match k with | 19=>[10,11] | _=>[]
theorem zqF (x0 x1 x2:AV) (H:List Ob) (r:AV) (Ho:List Ob):aBody Tryz.prog ziI Tryz.f187 H [x0,x1,x2] r Ho=zh6 x0 x1 x2 H (fun v H'=>Gives H.length v H' r Ho):=by kernel_rfl
theorem zqA {x0 x1 x2:AV} {r:AV} {Ho:List Ob} (h:zh6 x0 x1 x2 [] (fun v H'=>Gives 0 v H' r Ho)):Abs.Fn Tryz.prog zdR [] [x0,x1,x2] r Ho :=
 zh mixed ziI (fn:=Tryz.f187) (by kernel_rfl) (by kernel_rfl) (by rw [zqF]; exact h)
def zib (x0:AV) (H:List Ob) (K:AV→List Ob→Prop):Prop :=
 zy [(.p (.int .i64 0)),(.full [])] H fun v0 h1 =>
 zr [(.p (.int .i64 0)),(.full [])] [(0,1,x0)] fun v2 =>
 zj 2 v0 v2 h1 fun _ h4 =>
 aLoad true 2 v0 h4 fun v5 =>
 K v5 h4
def ziW:Nat→List Nat:=fun _=>[]
theorem zqE (x0:AV) (H:List Ob) (r:AV) (Ho:List Ob):aBody Tryz.prog ziW Tryz.f188 H [x0] r Ho=zib x0 H (fun v H'=>Gives H.length v H' r Ho):=by kernel_rfl
theorem zqu {x0:AV} {r:AV} {Ho:List Ob} (h:zib x0 [] (fun v H'=>Gives 0 v H' r Ho)):Abs.Fn Tryz.prog zcL [] [x0] r Ho :=
 zh mixed ziW (fn:=Tryz.f188) (by kernel_rfl) (by kernel_rfl) (by rw [zqE]; exact h)
def ztb (q1s7 q1s8 y0 y1:AV) (H:List Ob) (B1:List AV→List Ob→Prop) (K:AV→List Ob→Prop):Prop :=
 aBin false false .lss y1 q1s8 fun v5 =>
 ze v5
 (zb 8 q1s7 y1 fun v6 =>
 aLoad true 8 v6 H fun v7 =>
 zy [(.p (.str [])),(.p (.int .i64 0)),(.p (.int .i64 0)),(.p (.bool false)),(.p (.str [])),(.full []),(.p (.int .i64 0)),(.full [])] H fun v8 h9 =>
 zj 8 v8 v7 h9 fun _ h11 =>
 aLoad true 8 v8 h11 fun v12 =>
 aCall Tryz.prog (.p (.func zk8 [])) [v12] h11 fun v13 h14 =>
 aBin false false .add y0 v13 fun v15 =>
 aBin false false .add y1 (.p (.int .i64 1)) fun v16 =>
 B1 [v15,v16] h14)
 (K y0 H)
def ztr (x0:AV) (H:List Ob) (K:AV→List Ob→Prop):Prop :=
 aBox x0 H fun v0 h1 =>
 za 7 v0 fun v2 =>
 aLoad false 1 v2 h1 fun v3 =>
 aLen false false v3 fun v4 =>
 zG 2 [(.p (.int .i64 1)),(.p (.int .i64 0))] h1 fun xs H B1=>ztb v3 v4 (xs.getD 0 Z) (xs.getD 1 Z) H B1 K
def zqT:Nat→List Nat:=fun k=>match k with | 3=>[3,9] | _=>[]
theorem zy6 (x0:AV) (H:List Ob) (r:AV) (Ho:List Ob):aBody Tryz.prog zqT Tryz.f191 H [x0] r Ho=ztr x0 H (fun v H'=>Gives H.length v H' r Ho):=by kernel_rfl
theorem zzD {x0:AV} {r:AV} {Ho:List Ob} (h:ztr x0 [] (fun v H'=>Gives 0 v H' r Ho)):Abs.Fn Tryz.prog zk8 [] [x0] r Ho :=
 zh mixed zqT (fn:=Tryz.f191) (by kernel_rfl) (by kernel_rfl) (by rw [zy6]; exact h)
def zqY (q1s2 q1s3 q1s4 q1s6 q1s8 q1s49 q1s50 y0 y1:AV) (H:List Ob) (B1:List AV→List Ob→Prop) (K:AV→List Ob→Prop):Prop :=
 aBin false false .lss y1 q1s50 fun v19 =>
 ze v19
 (zb 8 q1s49 y1 fun v20 =>
 aLoad true 8 v20 H fun v21 =>
 zy [(.p (.str [])),(.p (.int .i64 0)),(.p (.int .i64 0)),(.p (.bool false)),(.p (.str [])),(.full []),(.p (.int .i64 0)),(.full [])] H fun v22 h23 =>
 zj 8 v22 v21 h23 fun _ h25 =>
 aLoad true 8 v22 h25 fun v26 =>
 aLoad true 2 q1s4 h25 fun v27 =>
 aBin false false .add q1s2 (.p (.int .i64 1)) fun v28 =>
 aCall Tryz.prog (.p (.func zj0 [])) [v26,v27,v28] h25 fun v29 h30 =>
 zB v29 0 fun v31 =>
 zB v29 1 fun v32 =>
 zy [(.p (.int .i64 0)),(.full [])] h30 fun v33 h34 =>
 zj 2 v33 v31 h34 fun _ h36 =>
 aBin false false .neq v32 (.p (.int .i64 0)) fun v37 =>
 ze v37
 (zr [(.p (.int .i64 0)),(.full [])] [] fun v38 =>
 zj 2 q1s6 v38 h36 fun _ h40 =>
 aLoad true 2 q1s6 h40 fun v41 =>
 K (.tup [v41,v32]) h40)
 (aLoad true 2 v33 h36 fun v42 =>
 zn 2 [v42] fun v43 =>
 zI false 2 32 y0 v43 h36 fun v44 h45 =>
 aBin false false .add y1 (.p (.int .i64 1)) fun v46 =>
 B1 [v44,v46] h45))
 (aLoad true 5 q1s8 H fun v47 =>
 aCall Tryz.prog (.p (.func zop [])) [v47,y0] H fun v48 h49 =>
 aUn .not v48 fun v50 =>
 ze v50
 (zr [(.p (.int .i64 0)),(.full [])] [] fun v51 =>
 zj 2 q1s6 v51 h49 fun _ h53 =>
 aLoad true 2 q1s6 h53 fun v54 =>
 K (.tup [v54,(.p (.int .i64 5))]) h53)
 (aLoad true 8 q1s3 h49 fun v55 =>
 aLoad true 5 q1s8 h49 fun v56 =>
 zL Tryz.prog (.p (.func zbC [])) [y0] fun v57 =>
 aLoad true 2 q1s4 h49 fun v58 =>
 zL Tryz.prog (.p (.func zhi [])) [v55,v56,v57,v58] fun v59 =>
 zB v59 0 fun v60 =>
 zB v59 1 fun v61 =>
 zj 2 q1s6 v60 h49 fun _ h63 =>
 aLoad true 2 q1s6 h63 fun v64 =>
 K (.tup [v64,v61]) h63))
def ziu (j1s2 j1s3 j1s4 j1s6 j1s8:AV) (H:List Ob) (K:AV→List Ob→Prop):Prop :=
 za 7 j1s3 fun v16 =>
 aLoad false 1 v16 H fun v17 =>
 aLen false false v17 fun v18 =>
 zG 2 [(.full []),(.p (.int .i64 0))] H fun xs H B1=>zqY j1s2 j1s3 j1s4 j1s6 j1s8 v17 v18 (xs.getD 0 Z) (xs.getD 1 Z) H B1 K
def zrH (x0 x1 x2:AV) (H:List Ob) (K:AV→List Ob→Prop):Prop :=
 aBox x0 H fun v0 h1 =>
 aBox x1 h1 fun v2 h3 =>
 zy [(.p (.int .i64 0)),(.full [])] h3 fun v4 h5 =>
 zy [(.p (.int .i64 0)),(.p (.int .i64 0)),(.full []),(.p (.bool false)),(.p (.int .i64 0))] h5 fun v6 h7 =>
 zL Tryz.prog (.p (.func zlS [])) [] fun v8 =>
 za 0 v0 fun v9 =>
 aLoad false 1 v9 h7 fun v10 =>
 zL Tryz.prog (.p (.func zbW [])) [v8,v10] fun v11 =>
 zB v11 0 fun v12 =>
 zB v11 1 fun v13 =>
 zj 5 v6 v12 h7 fun _ h15 =>
 aUn .not v13 fun v65 =>
 ze v65
 (zr [(.p (.int .i64 0)),(.full [])] [] fun v66 =>
 zj 2 v4 v66 h15 fun _ h68 =>
 aLoad true 2 v4 h68 fun v69 =>
 K (.tup [v69,(.p (.int .i64 6))]) h68)
 (aBin false false .gtr x2 (.p (.int .i64 12)) fun v70 =>
 ze v70
 (zr [(.p (.int .i64 0)),(.full [])] [] fun v71 =>
 zj 2 v4 v71 h15 fun _ h73 =>
 aLoad true 2 v4 h73 fun v74 =>
 K (.tup [v74,(.p (.int .i64 9))]) h73)
 (aLoad true 8 v0 h15 fun v75 =>
 aLoad true 5 v6 h15 fun v76 =>
 aCall Tryz.prog (.p (.func zgt [])) [v75,v76] h15 fun v77 h78 =>
 aUn .not v77 fun v79 =>
 ze v79
 (zr [(.p (.int .i64 0)),(.full [])] [] fun v80 =>
 zj 2 v4 v80 h78 fun _ h82 =>
 aLoad true 2 v4 h82 fun v83 =>
 K (.tup [v83,(.p (.int .i64 1))]) h82)
 (za 0 v0 fun v84 =>
 aLoad false 1 v84 h78 fun v85 =>
 aBin false false .eql v85 (.p (.str [108,105,116])) fun v86 =>
 ze v86
 (za 1 v0 fun v87 =>
 aLoad true 5 v87 h78 fun v88 =>
 aCall Tryz.prog (.p (.func ziY [])) [v88] h78 fun v89 h90 =>
 aBin false false .neq v89 (.p (.int .i64 0)) fun v91 =>
 ze v91
 (zr [(.p (.int .i64 0)),(.full [])] [] fun v92 =>
 zj 2 v4 v92 h90 fun _ h94 =>
 aLoad true 2 v4 h94 fun v95 =>
 K (.tup [v95,v89]) h94)
 (ziu x2 v0 v2 v4 v6 h90 K))
 (ziu x2 v0 v2 v4 v6 h78 K))))
def zo8:Nat→List Nat:=fun k=>match k with | 14=>[11,51] | _=>[]
theorem zyc (x0 x1 x2:AV) (H:List Ob) (r:AV) (Ho:List Ob):aBody Tryz.prog zo8 Tryz.f192 H [x0,x1,x2] r Ho=zrH x0 x1 x2 H (fun v H'=>Gives H.length v H' r Ho):=by kernel_rfl
theorem zxT {x0 x1 x2:AV} {r:AV} {Ho:List Ob} (h:zrH x0 x1 x2 [] (fun v H'=>Gives 0 v H' r Ho)):Abs.Fn Tryz.prog zj0 [] [x0,x1,x2] r Ho :=
 zh mixed zo8 (fn:=Tryz.f192) (by kernel_rfl) (by kernel_rfl) (by rw [zyc]; exact h)
def ziq (x0:AV) (H:List Ob) (K:AV→List Ob→Prop):Prop :=
 aBin false false .eql x0 (.p (.str [108,105,116])) fun v0 =>
 zl false v0 (fun Q1 =>
 aBin false false .eql x0 (.p (.str [120])) fun v2 =>
 (H=H∧Q1 v2)) fun v3 =>
 ze v3
 (K (.p (.int .i64 0)) H)
 (aBin false false .eql x0 (.p (.str [97,116])) fun v4 =>
 zl false v4 (fun Q5 =>
 aBin false false .eql x0 (.p (.str [110,101,103])) fun v6 =>
 zl false v6 (fun Q7 =>
 aBin false false .eql x0 (.p (.str [110,111,116])) fun v8 =>
 zl false v8 (fun Q9 =>
 aBin false false .eql x0 (.p (.str [108,101,110])) fun v10 =>
 (H=H∧Q9 v10)) fun v11 =>
 (H=H∧Q7 v11)) fun v12 =>
 (H=H∧Q5 v12)) fun v13 =>
 ze v13
 (K (.p (.int .i64 1)) H)
 (aBin false false .eql x0 (.p (.str [97,100,100])) fun v14 =>
 zl false v14 (fun Q15 =>
 aBin false false .eql x0 (.p (.str [115,117,98])) fun v16 =>
 zl false v16 (fun Q17 =>
 aBin false false .eql x0 (.p (.str [109,117,108])) fun v18 =>
 zl false v18 (fun Q19 =>
 aBin false false .eql x0 (.p (.str [100,105,118])) fun v20 =>
 zl false v20 (fun Q21 =>
 aBin false false .eql x0 (.p (.str [114,101,109])) fun v22 =>
 zl false v22 (fun Q23 =>
 aBin false false .eql x0 (.p (.str [101,113])) fun v24 =>
 zl false v24 (fun Q25 =>
 aBin false false .eql x0 (.p (.str [108,116])) fun v26 =>
 zl false v26 (fun Q27 =>
 aBin false false .eql x0 (.p (.str [97,110,100])) fun v28 =>
 zl false v28 (fun Q29 =>
 aBin false false .eql x0 (.p (.str [111,114])) fun v30 =>
 zl false v30 (fun Q31 =>
 aBin false false .eql x0 (.p (.str [99,97,116])) fun v32 =>
 (H=H∧Q31 v32)) fun v33 =>
 (H=H∧Q29 v33)) fun v34 =>
 (H=H∧Q27 v34)) fun v35 =>
 (H=H∧Q25 v35)) fun v36 =>
 (H=H∧Q23 v36)) fun v37 =>
 (H=H∧Q21 v37)) fun v38 =>
 (H=H∧Q19 v38)) fun v39 =>
 (H=H∧Q17 v39)) fun v40 =>
 (H=H∧Q15 v40)) fun v41 =>
 ze v41
 (K (.p (.int .i64 2)) H)
 (aBin false false .eql x0 (.p (.str [105,102])) fun v42 =>
 ze v42
 (K (.p (.int .i64 3)) H)
 (aBin false false .eql x0 (.p (.str [116,117,112])) fun v43 =>
 ze v43
 (K (.p (.int .i64 (-1))) H)
 (K (.p (.int .i64 (-2))) H)))))
def zi0:Nat→List Nat:=fun k=>match k with | 1000003=>[1] | 1000008=>[1] | 1000007=>[1] | 1000006=>[1] | 1000019=>[1] | 1000018=>[1] | 1000017=>[1] | 1000016=>[1] | 1000015=>[1] | 1000014=>[1] | 1000013=>[1] | 1000012=>[1] | 1000011=>[1] | _=>[]
theorem zqr (x0:AV) (H:List Ob) (r:AV) (Ho:List Ob):aBody Tryz.prog zi0 Tryz.f232 H [x0] r Ho=ziq x0 H (fun v H'=>Gives H.length v H' r Ho):=by kernel_rfl
theorem zqI {x0:AV} {r:AV} {Ho:List Ob} (h:ziq x0 [] (fun v H'=>Gives 0 v H' r Ho)):Abs.Fn Tryz.prog zgs [] [x0] r Ho :=
 zh mixed zi0 (fn:=Tryz.f232) (by kernel_rfl) (by kernel_rfl) (by rw [zqr]; exact h)
def zhu (x0:AV) (H:List Ob) (K:AV→List Ob→Prop):Prop :=
 aBox x0 H fun v0 h1 =>
 za 0 v0 fun v2 =>
 aLoad false 1 v2 h1 fun v3 =>
 aBin false false .eql v3 (.p (.int .i64 0)) fun v4 =>
 zl true v4 (fun Q5 =>
 za 1 v0 fun v6 =>
 aLoad false 1 v6 h1 fun v7 =>
 aBin false false .eql v7 (.p (.int .i64 0)) fun v8 =>
 (h1=h1∧Q5 v8)) fun v9 =>
 zl true v9 (fun Q10 =>
 za 2 v0 fun v11 =>
 aLoad false 1 v11 h1 fun v12 =>
 aUn .not v12 fun v13 =>
 (h1=h1∧Q10 v13)) fun v14 =>
 zl true v14 (fun Q15 =>
 za 3 v0 fun v16 =>
 aLoad false 1 v16 h1 fun v17 =>
 aBin false false .eql v17 (.p (.str [])) fun v18 =>
 (h1=h1∧Q15 v18)) fun v19 =>
 zl true v19 (fun Q20 =>
 za 4 v0 fun v21 =>
 aLoad false 1 v21 h1 fun v22 =>
 aLenS false v22 fun v23 =>
 aBin false false .eql v23 (.p (.int .i64 0)) fun v24 =>
 (h1=h1∧Q20 v24)) fun v25 =>
 K v25 h1
def zhQ:Nat→List Nat:=fun _=>[]
theorem zpv (x0:AV) (H:List Ob) (r:AV) (Ho:List Ob):aBody Tryz.prog zhQ Tryz.f233 H [x0] r Ho=zhu x0 H (fun v H'=>Gives H.length v H' r Ho):=by kernel_rfl
theorem zoN {x0:AV} {r:AV} {Ho:List Ob} (h:zhu x0 [] (fun v H'=>Gives 0 v H' r Ho)):Abs.Fn Tryz.prog zfO [] [x0] r Ho :=
 zh mixed zhQ (fn:=Tryz.f233) (by kernel_rfl) (by kernel_rfl) (by rw [zpv]; exact h)
def zi1 (q1s2 q1s6 q1s8 q1s9 y0:AV) (H:List Ob) (B1:List AV→List Ob→Prop) (K:AV→List Ob→Prop):Prop :=
 aLen false false q1s2 fun v2 =>
 aBin false false .lss y0 v2 fun v3 =>
 ze v3
 (zb 2 q1s2 y0 fun v4 =>
 za 0 v4 fun v5 =>
 aLoad false 1 v5 H fun v6 =>
 aBin false false .neq v6 q1s8 fun v7 =>
 ze v7
 (zr [(.p (.int .i64 0)),(.full [])] [] fun v8 =>
 zj 2 q1s6 v8 H fun _ h10 =>
 aLoad true 2 q1s6 h10 fun v11 =>
 K (.tup [v11,(.p (.int .i64 5))]) h10)
 (aBin false false .add y0 (.p (.int .i64 1)) fun v12 =>
 B1 [v12] H))
 (aCall Tryz.prog (.p (.func zcL [])) [q1s9] H fun v13 h14 =>
 zj 2 q1s6 v13 h14 fun _ h16 =>
 aLoad true 2 q1s6 h16 fun v17 =>
 K (.tup [v17,(.p (.int .i64 0))]) h16)
def zaY (j1s2 j1s6 j1s8 j1s9:AV) (H:List Ob) (K:AV→List Ob→Prop):Prop :=
 zG 1 [(.p (.int .i64 0))] H fun xs H B1=>zi1 j1s2 j1s6 j1s8 j1s9 (xs.getD 0 Z) H B1 K
def zht (x0 x1 x2:AV) (H:List Ob) (K:AV→List Ob→Prop):Prop :=
 zy [(.p (.int .i64 0)),(.full [])] H fun v0 h1 =>
 aBin false false .eql x0 (.p (.str [97,116])) fun v18 =>
 ze v18
 (zb 2 x2 (.p (.int .i64 0)) fun v19 =>
 za 0 v19 fun v20 =>
 aLoad false 1 v20 h1 fun v21 =>
 aBin false false .neq v21 (.p (.int .i64 4)) fun v22 =>
 ze v22
 (zr [(.p (.int .i64 0)),(.full [])] [] fun v23 =>
 zj 2 v0 v23 h1 fun _ h25 =>
 aLoad true 2 v0 h25 fun v26 =>
 K (.tup [v26,(.p (.int .i64 5))]) h25)
 (aBin false false .lss x1 (.p (.int .i64 0)) fun v27 =>
 zl false v27 (fun Q28 =>
 zb 2 x2 (.p (.int .i64 0)) fun v29 =>
 za 1 v29 fun v30 =>
 aLoad false 1 v30 h1 fun v31 =>
 aLenS false v31 fun v32 =>
 aBin false false .geq x1 v32 fun v33 =>
 (h1=h1∧Q28 v33)) fun v34 =>
 ze v34
 (zr [(.p (.int .i64 0)),(.full [])] [] fun v35 =>
 zj 2 v0 v35 h1 fun _ h37 =>
 aLoad true 2 v0 h37 fun v38 =>
 K (.tup [v38,(.p (.int .i64 1))]) h37)
 (zb 2 x2 (.p (.int .i64 0)) fun v39 =>
 za 1 v39 fun v40 =>
 aLoad false 1 v40 h1 fun v41 =>
 zb 2 v41 x1 fun v42 =>
 aLoad true 2 v42 h1 fun v43 =>
 zj 2 v0 v43 h1 fun _ h45 =>
 aLoad true 2 v0 h45 fun v46 =>
 K (.tup [v46,(.p (.int .i64 0))]) h45)))
 (aBin false false .eql x0 (.p (.str [116,117,112])) fun v47 =>
 ze v47
 (zr [(.p (.int .i64 0)),(.full [])] [(0,1,(.p (.int .i64 4))),(1,1,x2)] fun v48 =>
 zy [(.p (.int .i64 0)),(.full [])] h1 fun v49 h50 =>
 zj 2 v49 v48 h50 fun _ h52 =>
 aLoad true 2 v49 h52 fun v53 =>
 aCall Tryz.prog (.p (.func zaC [])) [v53] h52 fun v54 h55 =>
 aBin false false .neq v54 (.p (.int .i64 0)) fun v56 =>
 ze v56
 (zr [(.p (.int .i64 0)),(.full [])] [] fun v57 =>
 zj 2 v0 v57 h55 fun _ h59 =>
 aLoad true 2 v0 h59 fun v60 =>
 K (.tup [v60,(.p (.int .i64 9))]) h59)
 (aLoad true 2 v49 h55 fun v61 =>
 zj 2 v0 v61 h55 fun _ h63 =>
 aLoad true 2 v0 h63 fun v64 =>
 K (.tup [v64,(.p (.int .i64 0))]) h63))
 (aBin false false .eql x0 (.p (.str [101,113])) fun v65 =>
 zl false v65 (fun Q66 =>
 aBin false false .eql x0 (.p (.str [108,116])) fun v67 =>
 (h1=h1∧Q66 v67)) fun v68 =>
 ze v68
 (zb 2 x2 (.p (.int .i64 0)) fun v69 =>
 aLoad true 2 v69 h1 fun v70 =>
 zb 2 x2 (.p (.int .i64 1)) fun v71 =>
 aLoad true 2 v71 h1 fun v72 =>
 zL Tryz.prog (.p (.func zac [])) [v70,v72] fun v73 =>
 aUn .not v73 fun v74 =>
 ze v74
 (zr [(.p (.int .i64 0)),(.full [])] [] fun v75 =>
 zj 2 v0 v75 h1 fun _ h77 =>
 aLoad true 2 v0 h77 fun v78 =>
 K (.tup [v78,(.p (.int .i64 5))]) h77)
 (aCall Tryz.prog (.p (.func zcL [])) [(.p (.int .i64 2))] h1 fun v79 h80 =>
 zj 2 v0 v79 h80 fun _ h82 =>
 aLoad true 2 v0 h82 fun v83 =>
 K (.tup [v83,(.p (.int .i64 0))]) h82))
 (aBin false false .eql x0 (.p (.str [105,102])) fun v84 =>
 ze v84
 (zb 2 x2 (.p (.int .i64 0)) fun v85 =>
 za 0 v85 fun v86 =>
 aLoad false 1 v86 h1 fun v87 =>
 aBin false false .neq v87 (.p (.int .i64 2)) fun v88 =>
 ze v88
 (zr [(.p (.int .i64 0)),(.full [])] [] fun v89 =>
 zj 2 v0 v89 h1 fun _ h91 =>
 aLoad true 2 v0 h91 fun v92 =>
 K (.tup [v92,(.p (.int .i64 5))]) h91)
 (zb 2 x2 (.p (.int .i64 1)) fun v93 =>
 aLoad true 2 v93 h1 fun v94 =>
 zb 2 x2 (.p (.int .i64 2)) fun v95 =>
 aLoad true 2 v95 h1 fun v96 =>
 zL Tryz.prog (.p (.func zac [])) [v94,v96] fun v97 =>
 aUn .not v97 fun v98 =>
 ze v98
 (zr [(.p (.int .i64 0)),(.full [])] [] fun v99 =>
 zj 2 v0 v99 h1 fun _ h101 =>
 aLoad true 2 v0 h101 fun v102 =>
 K (.tup [v102,(.p (.int .i64 5))]) h101)
 (zb 2 x2 (.p (.int .i64 1)) fun v103 =>
 aLoad true 2 v103 h1 fun v104 =>
 zj 2 v0 v104 h1 fun _ h106 =>
 aLoad true 2 v0 h106 fun v107 =>
 K (.tup [v107,(.p (.int .i64 0))]) h106)))
 (aBin false false .eql x0 (.p (.str [110,101,103])) fun v108 =>
 zl false v108 (fun Q109 =>
 aBin false false .eql x0 (.p (.str [97,100,100])) fun v110 =>
 zl false v110 (fun Q111 =>
 aBin false false .eql x0 (.p (.str [115,117,98])) fun v112 =>
 zl false v112 (fun Q113 =>
 aBin false false .eql x0 (.p (.str [109,117,108])) fun v114 =>
 zl false v114 (fun Q115 =>
 aBin false false .eql x0 (.p (.str [100,105,118])) fun v116 =>
 zl false v116 (fun Q117 =>
 aBin false false .eql x0 (.p (.str [114,101,109])) fun v118 =>
 (h1=h1∧Q117 v118)) fun v119 =>
 (h1=h1∧Q115 v119)) fun v120 =>
 (h1=h1∧Q113 v120)) fun v121 =>
 (h1=h1∧Q111 v121)) fun v122 =>
 (h1=h1∧Q109 v122)) fun v123 =>
 ze v123
 (zaY x2 v0 (.p (.int .i64 1)) (.p (.int .i64 1)) h1 K)
 (aBin false false .eql x0 (.p (.str [110,111,116])) fun v124 =>
 zl false v124 (fun Q125 =>
 aBin false false .eql x0 (.p (.str [97,110,100])) fun v126 =>
 zl false v126 (fun Q127 =>
 aBin false false .eql x0 (.p (.str [111,114])) fun v128 =>
 (h1=h1∧Q127 v128)) fun v129 =>
 (h1=h1∧Q125 v129)) fun v130 =>
 ze v130
 (zaY x2 v0 (.p (.int .i64 2)) (.p (.int .i64 2)) h1 K)
 (aBin false false .eql x0 (.p (.str [99,97,116])) fun v131 =>
 ze v131
 (zaY x2 v0 (.p (.int .i64 3)) (.p (.int .i64 3)) h1 K)
 (aBin false false .eql x0 (.p (.str [108,101,110])) fun v132 =>
 ze v132
 (zaY x2 v0 (.p (.int .i64 3)) (.p (.int .i64 1)) h1 K)
 (zaY x2 v0 (.p (.int .i64 0)) (.p (.int .i64 0)) h1 K))))))))
def zhJ:Nat→List Nat:=fun k=>match k with | 44=>[11] | 1000016=>[1] | 1000029=>[1] | 1000028=>[1] | 1000027=>[1] | 1000026=>[1] | 1000025=>[1] | 1000034=>[1] | 1000033=>[1] | _=>[]
theorem zpC (x0 x1 x2:AV) (H:List Ob) (r:AV) (Ho:List Ob):aBody Tryz.prog zhJ Tryz.f234 H [x0,x1,x2] r Ho=zht x0 x1 x2 H (fun v H'=>Gives H.length v H' r Ho):=by kernel_rfl
theorem zo7 {x0 x1 x2:AV} {r:AV} {Ho:List Ob} (h:zht x0 x1 x2 [] (fun v H'=>Gives 0 v H' r Ho)):Abs.Fn Tryz.prog zfB [] [x0,x1,x2] r Ho :=
 zh mixed zhJ (fn:=Tryz.f234) (by kernel_rfl) (by kernel_rfl) (by rw [zpC]; exact h)
def zdu (q1s1 q1s4 q1s9 q1s10 y0:AV) (H:List Ob) (B1:List AV→List Ob→Prop) (K:AV→List Ob→Prop):Prop :=
 aBin false false .lss y0 q1s10 fun v3 =>
 ze v3
 (zb 6 q1s9 y0 fun v4 =>
 aLoad true 6 v4 H fun v5 =>
 zy [(.p (.str [])),(.p (.int .i64 0)),(.p (.int .i64 0)),(.full []),(.p (.bool false)),(.p (.int .i64 0))] H fun v6 h7 =>
 zj 6 v6 v5 h7 fun _ h9 =>
 za 0 v6 fun v10 =>
 aLoad false 1 v10 h9 fun v11 =>
 aBin false false .eql v11 q1s1 fun v12 =>
 ze v12
 (za 1 v6 fun v13 =>
 aLoad true 5 v13 h9 fun v14 =>
 zj 5 q1s4 v14 h9 fun _ h16 =>
 aLoad true 5 q1s4 h16 fun v17 =>
 K (.tup [v17,(.p (.bool true))]) h16)
 (aBin false false .add y0 (.p (.int .i64 1)) fun v18 =>
 B1 [v18] h9))
 (zy [(.p (.int .i64 0)),(.p (.int .i64 0)),(.full []),(.p (.bool false)),(.p (.int .i64 0))] H fun v19 h20 =>
 aLoad true 5 v19 h20 fun v21 =>
 zj 5 q1s4 v21 h20 fun _ h23 =>
 aLoad true 5 q1s4 h23 fun v24 =>
 K (.tup [v24,(.p (.bool false))]) h23)
def zcn (x0 x1:AV) (H:List Ob) (K:AV→List Ob→Prop):Prop :=
 zy [(.p (.int .i64 0)),(.p (.int .i64 0)),(.full []),(.p (.bool false)),(.p (.int .i64 0))] H fun v0 h1 =>
 aLen false false x0 fun v2 =>
 zG 1 [(.p (.int .i64 0))] h1 fun xs H B1=>zdu x1 v0 x0 v2 (xs.getD 0 Z) H B1 K
def zdd:Nat→List Nat:=fun k=>match k with | 2=>[11] | _=>[]
theorem zh9 (x0 x1:AV) (H:List Ob) (r:AV) (Ho:List Ob):aBody Tryz.prog zdd Tryz.f235 H [x0,x1] r Ho=zcn x0 x1 H (fun v H'=>Gives H.length v H' r Ho):=by kernel_rfl
theorem zio {x0 x1:AV} {r:AV} {Ho:List Ob} (h:zcn x0 x1 [] (fun v H'=>Gives 0 v H' r Ho)):Abs.Fn Tryz.prog zbW [] [x0,x1] r Ho :=
 zh mixed zdd (fn:=Tryz.f235) (by kernel_rfl) (by kernel_rfl) (by rw [zh9]; exact h)
def zoK (H:List Ob) (K:AV→List Ob→Prop):Prop :=
 zn 1 [(.p (.int .i64 1)),(.p (.int .i64 1))] fun v0 =>
 zr [(.p (.int .i64 0)),(.p (.int .i64 0)),(.full []),(.p (.bool false)),(.p (.int .i64 0))] [(0,1,(.p (.int .i64 2))),(1,1,(.p (.int .i64 2))),(2,1,v0),(3,1,(.p (.bool false))),(4,1,(.p (.int .i64 1)))] fun v1 =>
 zy [(.p (.int .i64 0)),(.p (.int .i64 0)),(.full []),(.p (.bool false)),(.p (.int .i64 0))] H fun v2 h3 =>
 zj 5 v2 v1 h3 fun _ h5 =>
 zn 1 [(.p (.int .i64 0)),(.p (.int .i64 0))] fun v6 =>
 zr [(.p (.int .i64 0)),(.p (.int .i64 0)),(.full []),(.p (.bool false)),(.p (.int .i64 0))] [(0,1,(.p (.int .i64 2))),(1,1,(.p (.int .i64 2))),(2,1,v6),(3,1,(.p (.bool true))),(4,1,(.p (.int .i64 2)))] fun v7 =>
 zy [(.p (.int .i64 0)),(.p (.int .i64 0)),(.full []),(.p (.bool false)),(.p (.int .i64 0))] h5 fun v8 h9 =>
 zj 5 v8 v7 h9 fun _ h11 =>
 zn 1 [(.p (.int .i64 2)),(.p (.int .i64 2))] fun v12 =>
 zr [(.p (.int .i64 0)),(.p (.int .i64 0)),(.full []),(.p (.bool false)),(.p (.int .i64 0))] [(0,1,(.p (.int .i64 2))),(1,1,(.p (.int .i64 2))),(2,1,v12),(3,1,(.p (.bool false))),(4,1,(.p (.int .i64 2)))] fun v13 =>
 zy [(.p (.int .i64 0)),(.p (.int .i64 0)),(.full []),(.p (.bool false)),(.p (.int .i64 0))] h11 fun v14 h15 =>
 zj 5 v14 v13 h15 fun _ h17 =>
 zr [(.p (.int .i64 0)),(.p (.int .i64 0)),(.full []),(.p (.bool false)),(.p (.int .i64 0))] [] fun v18 =>
 zr [(.p (.str [])),(.p (.int .i64 0)),(.p (.int .i64 0)),(.full []),(.p (.bool false)),(.p (.int .i64 0))] [(0,1,(.p (.str [108,105,116]))),(1,5,v18)] fun v19 =>
 zr [(.p (.int .i64 0)),(.p (.int .i64 0)),(.full []),(.p (.bool false)),(.p (.int .i64 0))] [] fun v20 =>
 zr [(.p (.str [])),(.p (.int .i64 0)),(.p (.int .i64 0)),(.full []),(.p (.bool false)),(.p (.int .i64 0))] [(0,1,(.p (.str [120]))),(1,5,v20)] fun v21 =>
 zn 1 [(.p (.int .i64 4))] fun v22 =>
 zr [(.p (.int .i64 0)),(.p (.int .i64 0)),(.full []),(.p (.bool false)),(.p (.int .i64 0))] [(0,1,(.p (.int .i64 1))),(1,1,(.p (.int .i64 1))),(2,1,v22),(3,1,(.p (.bool false))),(4,1,(.p (.int .i64 0)))] fun v23 =>
 zr [(.p (.str [])),(.p (.int .i64 0)),(.p (.int .i64 0)),(.full []),(.p (.bool false)),(.p (.int .i64 0))] [(0,1,(.p (.str [97,116]))),(1,5,v23)] fun v24 =>
 zr [(.p (.int .i64 0)),(.p (.int .i64 0)),(.full []),(.p (.bool false)),(.p (.int .i64 0))] [(0,1,(.p (.int .i64 1))),(1,1,(.p (.int .i64 8))),(2,1,(.full [])),(3,1,(.p (.bool false))),(4,1,(.p (.int .i64 4)))] fun v25 =>
 zr [(.p (.str [])),(.p (.int .i64 0)),(.p (.int .i64 0)),(.full []),(.p (.bool false)),(.p (.int .i64 0))] [(0,1,(.p (.str [116,117,112]))),(1,5,v25)] fun v26 =>
 zn 1 [(.p (.int .i64 1))] fun v27 =>
 zr [(.p (.int .i64 0)),(.p (.int .i64 0)),(.full []),(.p (.bool false)),(.p (.int .i64 0))] [(0,1,(.p (.int .i64 1))),(1,1,(.p (.int .i64 1))),(2,1,v27),(3,1,(.p (.bool false))),(4,1,(.p (.int .i64 1)))] fun v28 =>
 zr [(.p (.str [])),(.p (.int .i64 0)),(.p (.int .i64 0)),(.full []),(.p (.bool false)),(.p (.int .i64 0))] [(0,1,(.p (.str [110,101,103]))),(1,5,v28)] fun v29 =>
 zn 1 [(.p (.int .i64 2))] fun v30 =>
 zr [(.p (.int .i64 0)),(.p (.int .i64 0)),(.full []),(.p (.bool false)),(.p (.int .i64 0))] [(0,1,(.p (.int .i64 1))),(1,1,(.p (.int .i64 1))),(2,1,v30),(3,1,(.p (.bool false))),(4,1,(.p (.int .i64 2)))] fun v31 =>
 zr [(.p (.str [])),(.p (.int .i64 0)),(.p (.int .i64 0)),(.full []),(.p (.bool false)),(.p (.int .i64 0))] [(0,1,(.p (.str [110,111,116]))),(1,5,v31)] fun v32 =>
 zn 1 [(.p (.int .i64 3))] fun v33 =>
 zr [(.p (.int .i64 0)),(.p (.int .i64 0)),(.full []),(.p (.bool false)),(.p (.int .i64 0))] [(0,1,(.p (.int .i64 1))),(1,1,(.p (.int .i64 1))),(2,1,v33),(3,1,(.p (.bool false))),(4,1,(.p (.int .i64 1)))] fun v34 =>
 zr [(.p (.str [])),(.p (.int .i64 0)),(.p (.int .i64 0)),(.full []),(.p (.bool false)),(.p (.int .i64 0))] [(0,1,(.p (.str [108,101,110]))),(1,5,v34)] fun v35 =>
 aLoad true 5 v2 h17 fun v36 =>
 zr [(.p (.str [])),(.p (.int .i64 0)),(.p (.int .i64 0)),(.full []),(.p (.bool false)),(.p (.int .i64 0))] [(0,1,(.p (.str [97,100,100]))),(1,5,v36)] fun v37 =>
 aLoad true 5 v2 h17 fun v38 =>
 zr [(.p (.str [])),(.p (.int .i64 0)),(.p (.int .i64 0)),(.full []),(.p (.bool false)),(.p (.int .i64 0))] [(0,1,(.p (.str [115,117,98]))),(1,5,v38)] fun v39 =>
 aLoad true 5 v2 h17 fun v40 =>
 zr [(.p (.str [])),(.p (.int .i64 0)),(.p (.int .i64 0)),(.full []),(.p (.bool false)),(.p (.int .i64 0))] [(0,1,(.p (.str [109,117,108]))),(1,5,v40)] fun v41 =>
 aLoad true 5 v2 h17 fun v42 =>
 zr [(.p (.str [])),(.p (.int .i64 0)),(.p (.int .i64 0)),(.full []),(.p (.bool false)),(.p (.int .i64 0))] [(0,1,(.p (.str [100,105,118]))),(1,5,v42)] fun v43 =>
 aLoad true 5 v2 h17 fun v44 =>
 zr [(.p (.str [])),(.p (.int .i64 0)),(.p (.int .i64 0)),(.full []),(.p (.bool false)),(.p (.int .i64 0))] [(0,1,(.p (.str [114,101,109]))),(1,5,v44)] fun v45 =>
 aLoad true 5 v8 h17 fun v46 =>
 zr [(.p (.str [])),(.p (.int .i64 0)),(.p (.int .i64 0)),(.full []),(.p (.bool false)),(.p (.int .i64 0))] [(0,1,(.p (.str [101,113]))),(1,5,v46)] fun v47 =>
 aLoad true 5 v8 h17 fun v48 =>
 zr [(.p (.str [])),(.p (.int .i64 0)),(.p (.int .i64 0)),(.full []),(.p (.bool false)),(.p (.int .i64 0))] [(0,1,(.p (.str [108,116]))),(1,5,v48)] fun v49 =>
 aLoad true 5 v14 h17 fun v50 =>
 zr [(.p (.str [])),(.p (.int .i64 0)),(.p (.int .i64 0)),(.full []),(.p (.bool false)),(.p (.int .i64 0))] [(0,1,(.p (.str [97,110,100]))),(1,5,v50)] fun v51 =>
 aLoad true 5 v14 h17 fun v52 =>
 zr [(.p (.str [])),(.p (.int .i64 0)),(.p (.int .i64 0)),(.full []),(.p (.bool false)),(.p (.int .i64 0))] [(0,1,(.p (.str [111,114]))),(1,5,v52)] fun v53 =>
 zn 1 [(.p (.int .i64 3)),(.p (.int .i64 3))] fun v54 =>
 zr [(.p (.int .i64 0)),(.p (.int .i64 0)),(.full []),(.p (.bool false)),(.p (.int .i64 0))] [(0,1,(.p (.int .i64 2))),(1,1,(.p (.int .i64 2))),(2,1,v54),(3,1,(.p (.bool false))),(4,1,(.p (.int .i64 3)))] fun v55 =>
 zr [(.p (.str [])),(.p (.int .i64 0)),(.p (.int .i64 0)),(.full []),(.p (.bool false)),(.p (.int .i64 0))] [(0,1,(.p (.str [99,97,116]))),(1,5,v55)] fun v56 =>
 zn 1 [(.p (.int .i64 2)),(.p (.int .i64 0)),(.p (.int .i64 0))] fun v57 =>
 zr [(.p (.int .i64 0)),(.p (.int .i64 0)),(.full []),(.p (.bool false)),(.p (.int .i64 0))] [(0,1,(.p (.int .i64 3))),(1,1,(.p (.int .i64 3))),(2,1,v57),(3,1,(.p (.bool true))),(4,1,(.p (.int .i64 0)))] fun v58 =>
 zr [(.p (.str [])),(.p (.int .i64 0)),(.p (.int .i64 0)),(.full []),(.p (.bool false)),(.p (.int .i64 0))] [(0,1,(.p (.str [105,102]))),(1,5,v58)] fun v59 =>
 zn 6 [v19,v21,v24,v26,v29,v32,v35,v37,v39,v41,v43,v45,v47,v49,v51,v53,v56,v59] fun v60 =>
 K v60 h17
def znP:Nat→List Nat:=fun _=>[]
theorem zvD (H:List Ob) (r:AV) (Ho:List Ob):aBody Tryz.prog znP Tryz.f236 H [] r Ho=zoK H (fun v H'=>Gives H.length v H' r Ho):=by kernel_rfl
theorem zwc {r:AV} {Ho:List Ob} (h:zoK [] (fun v H'=>Gives 0 v H' r Ho)):Abs.Fn Tryz.prog zlS [] [] r Ho :=
 zh mixed znP (fn:=Tryz.f236) (by kernel_rfl) (by kernel_rfl) (by rw [zvD]; exact h)
def zie (x0 x1:AV) (H:List Ob) (K:AV→List Ob→Prop):Prop :=
 aBox x0 H fun v0 h1 =>
 aBox x1 h1 fun v2 h3 =>
 za 7 v0 fun v4 =>
 aLoad false 1 v4 h3 fun v5 =>
 aLen false false v5 fun v6 =>
 za 0 v2 fun v7 =>
 aLoad false 1 v7 h3 fun v8 =>
 aBin false false .geq v6 v8 fun v9 =>
 zl true v9 (fun Q10 =>
 za 7 v0 fun v11 =>
 aLoad false 1 v11 h3 fun v12 =>
 aLenS false v12 fun v13 =>
 za 1 v2 fun v14 =>
 aLoad false 1 v14 h3 fun v15 =>
 aBin false false .leq v13 v15 fun v16 =>
 (h3=h3∧Q10 v16)) fun v17 =>
 zl true v17 (fun Q18 =>
 za 0 v0 fun v19 =>
 aLoad false 1 v19 h3 fun v20 =>
 aBin false false .eql v20 (.p (.str [108,105,116])) fun v21 =>
 zl false v21 (fun Q22 =>
 za 1 v0 fun v23 =>
 aLoad true 5 v23 h3 fun v24 =>
 aCall Tryz.prog (.p (.func zpT [])) [v24] h3 fun v25 h26 =>
 (h26=h3∧Q22 v25)) fun v27 =>
 (h3=h3∧Q18 v27)) fun v28 =>
 zl true v28 (fun Q29 =>
 za 0 v0 fun v30 =>
 aLoad false 1 v30 h3 fun v31 =>
 aBin false false .eql v31 (.p (.str [97,116])) fun v32 =>
 zl false v32 (fun Q33 =>
 za 6 v0 fun v34 =>
 aLoad false 1 v34 h3 fun v35 =>
 aBin false false .eql v35 (.p (.int .i64 0)) fun v36 =>
 (h3=h3∧Q33 v36)) fun v37 =>
 (h3=h3∧Q29 v37)) fun v38 =>
 K v38 h3
def ziG:Nat→List Nat:=fun _=>[]
theorem zqJ (x0 x1:AV) (H:List Ob) (r:AV) (Ho:List Ob):aBody Tryz.prog ziG Tryz.f237 H [x0,x1] r Ho=zie x0 x1 H (fun v H'=>Gives H.length v H' r Ho):=by kernel_rfl
theorem zqK {x0 x1:AV} {r:AV} {Ho:List Ob} (h:zie x0 x1 [] (fun v H'=>Gives 0 v H' r Ho)):Abs.Fn Tryz.prog zgt [] [x0,x1] r Ho :=
 zh mixed ziG (fn:=Tryz.f237) (by kernel_rfl) (by kernel_rfl) (by rw [zqJ]; exact h)
def zsi (q1s1 q1s2 q1s8 q1s9 y0:AV) (H:List Ob) (B1:List AV→List Ob→Prop) (K:AV→List Ob→Prop):Prop :=
 aBin false false .lss y0 q1s9 fun v5 =>
 ze v5
 (zb 1 q1s8 y0 fun v6 =>
 aLoad false 1 v6 H fun v7 =>
 aBin false false .neq v7 (.p (.int .i64 0)) fun v8 =>
 zl true v8 (fun Q9 =>
 zb 2 q1s1 y0 fun v10 =>
 za 0 v10 fun v11 =>
 aLoad false 1 v11 H fun v12 =>
 aBin false false .neq v12 v7 fun v13 =>
 (H=H∧Q9 v13)) fun v14 =>
 ze v14
 (K (.p (.bool false)) H)
 (aBin false false .add y0 (.p (.int .i64 1)) fun v15 =>
 B1 [v15] H))
 (za 3 q1s2 fun v16 =>
 aLoad false 1 v16 H fun v17 =>
 aUn .not v17 fun v18 =>
 ze v18
 (K (.p (.bool true)) H)
 (aLen true false q1s1 fun v19 =>
 aBin false false .sub v19 (.p (.int .i64 1)) fun v20 =>
 zb 2 q1s1 v20 fun v21 =>
 aLoad true 2 v21 H fun v22 =>
 aLen true false q1s1 fun v23 =>
 aBin false false .sub v23 (.p (.int .i64 2)) fun v24 =>
 zb 2 q1s1 v24 fun v25 =>
 aLoad true 2 v25 H fun v26 =>
 zL Tryz.prog (.p (.func zgq [])) [v22,v26] fun v27 =>
 K v27 H))
def zud (x0 x1:AV) (H:List Ob) (K:AV→List Ob→Prop):Prop :=
 aBox x0 H fun v0 h1 =>
 za 2 v0 fun v2 =>
 aLoad false 1 v2 h1 fun v3 =>
 aLen false false v3 fun v4 =>
 zG 1 [(.p (.int .i64 0))] h1 fun xs H B1=>zsi x1 v0 v3 v4 (xs.getD 0 Z) H B1 K
def zqS:Nat→List Nat:=fun k=>match k with | 2=>[10] | _=>[]
theorem zz5 (x0 x1:AV) (H:List Ob) (r:AV) (Ho:List Ob):aBody Tryz.prog zqS Tryz.f238 H [x0,x1] r Ho=zud x0 x1 H (fun v H'=>Gives H.length v H' r Ho):=by kernel_rfl
theorem zAh {x0 x1:AV} {r:AV} {Ho:List Ob} (h:zud x0 x1 [] (fun v H'=>Gives 0 v H' r Ho)):Abs.Fn Tryz.prog zop [] [x0,x1] r Ho :=
 zh mixed zqS (fn:=Tryz.f238) (by kernel_rfl) (by kernel_rfl) (by rw [zz5]; exact h)
def zjn (x0 x1 x2 x3:AV) (H:List Ob) (K:AV→List Ob→Prop):Prop :=
 aBox x0 H fun v0 h1 =>
 aBox x1 h1 fun v2 h3 =>
 aBox x3 h3 fun v4 h5 =>
 zy [(.p (.int .i64 0)),(.full [])] h5 fun v6 h7 =>
 za 0 v0 fun v8 =>
 aLoad false 1 v8 h7 fun v9 =>
 aBin false false .eql v9 (.p (.str [108,105,116])) fun v10 =>
 ze v10
 (za 1 v0 fun v11 =>
 aLoad true 5 v11 h7 fun v12 =>
 aCall Tryz.prog (.p (.func znz [])) [v12] h7 fun v13 h14 =>
 zj 2 v6 v13 h14 fun _ h16 =>
 aLoad true 2 v6 h16 fun v17 =>
 K (.tup [v17,(.p (.int .i64 0))]) h16)
 (aBin false false .eql v9 (.p (.str [120])) fun v18 =>
 ze v18
 (aLoad true 2 v4 h7 fun v19 =>
 zj 2 v6 v19 h7 fun _ h21 =>
 aLoad true 2 v6 h21 fun v22 =>
 K (.tup [v22,(.p (.int .i64 0))]) h21)
 (aBin false false .eql v9 (.p (.str [97,116])) fun v23 =>
 ze v23
 (za 6 v0 fun v24 =>
 aLoad false 1 v24 h7 fun v25 =>
 aBin false false .lss v25 (.p (.int .i64 0)) fun v26 =>
 ze v26
 (zr [(.p (.int .i64 0)),(.full [])] [] fun v27 =>
 zj 2 v6 v27 h7 fun _ h29 =>
 aLoad true 2 v6 h29 fun v30 =>
 K (.tup [v30,(.p (.int .i64 1))]) h29)
 (za 6 v0 fun v31 =>
 aLoad false 1 v31 h7 fun v32 =>
 zb 2 x2 (.p (.int .i64 0)) fun v33 =>
 za 1 v33 fun v34 =>
 aLoad false 1 v34 h7 fun v35 =>
 aLen true false v35 fun v36 =>
 aBin false false .geq v32 v36 fun v37 =>
 ze v37
 (zr [(.p (.int .i64 0)),(.full [])] [] fun v38 =>
 zj 2 v6 v38 h7 fun _ h40 =>
 aLoad true 2 v6 h40 fun v41 =>
 K (.tup [v41,(.p (.int .i64 1))]) h40)
 (zb 2 x2 (.p (.int .i64 0)) fun v42 =>
 za 1 v42 fun v43 =>
 aLoad false 1 v43 h7 fun v44 =>
 za 6 v0 fun v45 =>
 aLoad false 1 v45 h7 fun v46 =>
 zb 2 v44 v46 fun v47 =>
 aLoad true 2 v47 h7 fun v48 =>
 zj 2 v6 v48 h7 fun _ h50 =>
 aLoad true 2 v6 h50 fun v51 =>
 K (.tup [v51,(.p (.int .i64 0))]) h50)))
 (aBin false false .eql v9 (.p (.str [116,117,112])) fun v52 =>
 ze v52
 (zr [(.p (.int .i64 0)),(.full [])] [(0,1,(.p (.int .i64 4))),(1,1,x2)] fun v53 =>
 zy [(.p (.int .i64 0)),(.full [])] h7 fun v54 h55 =>
 zj 2 v54 v53 h55 fun _ h57 =>
 aLoad true 2 v54 h57 fun v58 =>
 aCall Tryz.prog (.p (.func zgQ [])) [v58] h57 fun v59 h60 =>
 aBin false false .neq v59 (.p (.int .i64 0)) fun v61 =>
 ze v61
 (zr [(.p (.int .i64 0)),(.full [])] [] fun v62 =>
 zj 2 v6 v62 h60 fun _ h64 =>
 aLoad true 2 v6 h64 fun v65 =>
 K (.tup [v65,v59]) h64)
 (aLoad true 2 v54 h60 fun v66 =>
 zj 2 v6 v66 h60 fun _ h68 =>
 aLoad true 2 v6 h68 fun v69 =>
 K (.tup [v69,(.p (.int .i64 0))]) h68))
 (aBin false false .eql v9 (.p (.str [105,102])) fun v70 =>
 ze v70
 (zb 2 x2 (.p (.int .i64 1)) fun v71 =>
 aLoad true 2 v71 h7 fun v72 =>
 zj 2 v6 v72 h7 fun _ h74 =>
 aLoad true 2 v6 h74 fun v75 =>
 K (.tup [v75,(.p (.int .i64 0))]) h74)
 (za 4 v2 fun v76 =>
 aLoad false 1 v76 h7 fun v77 =>
 zr [(.p (.int .i64 0)),(.full [])] [(0,1,v77)] fun v78 =>
 zj 2 v6 v78 h7 fun _ h80 =>
 aLoad true 2 v6 h80 fun v81 =>
 K (.tup [v81,(.p (.int .i64 0))]) h80)))))
def zjA:Nat→List Nat:=fun _=>[]
theorem zrr (x0 x1 x2 x3:AV) (H:List Ob) (r:AV) (Ho:List Ob):aBody Tryz.prog zjA Tryz.f239 H [x0,x1,x2,x3] r Ho=zjn x0 x1 x2 x3 H (fun v H'=>Gives H.length v H' r Ho):=by kernel_rfl
theorem zrF {x0 x1 x2 x3:AV} {r:AV} {Ho:List Ob} (h:zjn x0 x1 x2 x3 [] (fun v H'=>Gives 0 v H' r Ho)):Abs.Fn Tryz.prog zhi [] [x0,x1,x2,x3] r Ho :=
 zh mixed zjA (fn:=Tryz.f239) (by kernel_rfl) (by kernel_rfl) (by rw [zrr]; exact h)
def ztL (x0:AV) (H:List Ob) (K:AV→List Ob→Prop):Prop :=
 aBox x0 H fun v0 h1 =>
 aLoad true 5 v0 h1 fun v2 =>
 zr [(.p (.int .i64 0)),(.p (.int .i64 0)),(.p (.bool false)),(.p (.str [])),(.full [])] [] fun v3 =>
 aCall Tryz.prog (.p (.func zgr [])) [v2,v3] h1 fun v4 h5 =>
 K v4 h5
def zri:Nat→List Nat:=fun _=>[]
theorem zz7 (x0:AV) (H:List Ob) (r:AV) (Ho:List Ob):aBody Tryz.prog zri Tryz.f260 H [x0] r Ho=ztL x0 H (fun v H'=>Gives H.length v H' r Ho):=by kernel_rfl
theorem zzq {x0:AV} {r:AV} {Ho:List Ob} (h:ztL x0 [] (fun v H'=>Gives 0 v H' r Ho)):Abs.Fn Tryz.prog zpT [] [x0] r Ho :=
 zh mixed zri (fn:=Tryz.f260) (by kernel_rfl) (by kernel_rfl) (by rw [zz7]; exact h)
end Go.Proofs.YtdmgbhamigegfaaGreatDoor
end

section
/- Made by program (Gen.lean): functions of the dump, over trees. -/
set_option maxRecDepth 4000
set_option linter.unusedVariables false
namespace Go.Proofs.YtdmgbhamigegfaaGreatDoor
open Go Go.Abs
def zt0 (x0 x1:AV) (H:List Ob) (K:AV→List Ob→Prop):Prop :=
 aBox x0 H fun v0 h1 =>
 aBox x1 h1 fun v2 h3 =>
 zy [(.p (.int .i64 0)),(.p (.int .i64 0)),(.p (.bool false)),(.p (.str [])),(.full [])] h3 fun v4 h5 =>
 za 0 v0 fun v6 =>
 aLoad false 1 v6 h5 fun v7 =>
 aBin false false .eql v7 (.p (.str [108,105,116])) fun v8 =>
 ze v8
 (za 1 v0 fun v9 =>
 aLoad true 5 v9 h5 fun v10 =>
 zj 5 v4 v10 h5 fun _ h12 =>
 aLoad true 5 v4 h12 fun v13 =>
 K (.tup [v13,(.p (.int .i64 0))]) h12)
 (aBin false false .eql v7 (.p (.str [120])) fun v14 =>
 ze v14
 (aLoad true 5 v2 h5 fun v15 =>
 zj 5 v4 v15 h5 fun _ h17 =>
 aLoad true 5 v4 h17 fun v18 =>
 K (.tup [v18,(.p (.int .i64 0))]) h17)
 (aBin false false .eql v7 (.p (.str [97,110,100])) fun v19 =>
 zl false v19 (fun Q20 =>
 aBin false false .eql v7 (.p (.str [111,114])) fun v21 =>
 zl false v21 (fun Q22 =>
 aBin false false .eql v7 (.p (.str [105,102])) fun v23 =>
 (h5=h5∧Q22 v23)) fun v24 =>
 (h5=h5∧Q20 v24)) fun v25 =>
 ze v25
 (zy [(.p (.int .i64 0)),(.p (.int .i64 0)),(.p (.bool false)),(.p (.str [])),(.full [])] h5 fun v26 h27 =>
 za 7 v0 fun v28 =>
 aLoad false 1 v28 h27 fun v29 =>
 zb 8 v29 (.p (.int .i64 0)) fun v30 =>
 aLoad true 8 v30 h27 fun v31 =>
 aLoad true 5 v2 h27 fun v32 =>
 zL Tryz.prog (.p (.func zgR [])) [v31,v32] fun v33 =>
 zB v33 0 fun v34 =>
 zB v33 1 fun v35 =>
 zj 5 v26 v34 h27 fun _ h37 =>
 aLoad true 8 v0 h37 fun v38 =>
 aLoad true 5 v26 h37 fun v39 =>
 aCall Tryz.prog (.p (.func zlI [])) [v38,v39] h37 fun v40 h41 =>
 aBin false false .eql v35 (.p (.int .i64 0)) fun v42 =>
 zl true v42 (fun Q43 =>
 aBin false false .gtr v40 (.p (.int .i64 0)) fun v44 =>
 (h41=h41∧Q43 v44)) fun v45 =>
 ze v45
 (za 7 v0 fun v46 =>
 aLoad false 1 v46 h41 fun v47 =>
 zb 8 v47 v40 fun v48 =>
 aLoad true 8 v48 h41 fun v49 =>
 aLoad true 5 v2 h41 fun v50 =>
 zL Tryz.prog (.p (.func zgR [])) [v49,v50] fun v51 =>
 zB v51 0 fun v52 =>
 zB v51 1 fun v53 =>
 zj 5 v4 v52 h41 fun _ h55 =>
 aLoad true 5 v4 h55 fun v56 =>
 K (.tup [v56,v53]) h55)
 (aLoad true 5 v26 h41 fun v57 =>
 zj 5 v4 v57 h41 fun _ h59 =>
 aLoad true 5 v4 h59 fun v60 =>
 K (.tup [v60,v35]) h59))
 (za 7 v0 fun v61 =>
 aLoad false 1 v61 h5 fun v62 =>
 aLoad true 5 v2 h5 fun v63 =>
 aCall Tryz.prog (.p (.func zsa [])) [v62,v63] h5 fun v64 h65 =>
 zB v64 0 fun v66 =>
 zB v64 1 fun v67 =>
 aBin false false .neq v67 (.p (.int .i64 0)) fun v68 =>
 ze v68
 (zr [(.p (.int .i64 0)),(.p (.int .i64 0)),(.p (.bool false)),(.p (.str [])),(.full [])] [] fun v69 =>
 zj 5 v4 v69 h65 fun _ h71 =>
 aLoad true 5 v4 h71 fun v72 =>
 K (.tup [v72,v67]) h71)
 (za 0 v0 fun v73 =>
 aLoad false 1 v73 h65 fun v74 =>
 aBin false false .eql v74 (.p (.str [97,116])) fun v75 =>
 ze v75
 (zb 5 v66 (.p (.int .i64 0)) fun v76 =>
 za 4 v76 fun v77 =>
 aLoad false 1 v77 h65 fun v78 =>
 za 6 v0 fun v79 =>
 aLoad false 1 v79 h65 fun v80 =>
 zb 5 v78 v80 fun v81 =>
 aLoad true 5 v81 h65 fun v82 =>
 zj 5 v4 v82 h65 fun _ h84 =>
 aLoad true 5 v4 h84 fun v85 =>
 K (.tup [v85,(.p (.int .i64 0))]) h84)
 (za 0 v0 fun v86 =>
 aLoad false 1 v86 h65 fun v87 =>
 aBin false false .eql v87 (.p (.str [116,117,112])) fun v88 =>
 ze v88
 (aCall Tryz.prog (.p (.func ztZ [])) [v66] h65 fun v89 h90 =>
 zj 5 v4 v89 h90 fun _ h92 =>
 aLoad true 5 v4 h92 fun v93 =>
 K (.tup [v93,(.p (.int .i64 0))]) h92)
 (aLen false false v66 fun v94 =>
 aBin false false .eql v94 (.p (.int .i64 1)) fun v95 =>
 ze v95
 (zy [(.p (.int .i64 0)),(.p (.int .i64 0)),(.p (.bool false)),(.p (.str [])),(.full [])] h65 fun v96 h97 =>
 za 0 v0 fun v98 =>
 aLoad false 1 v98 h97 fun v99 =>
 zb 5 v66 (.p (.int .i64 0)) fun v100 =>
 aLoad true 5 v100 h97 fun v101 =>
 zL Tryz.prog (.p (.func zr5 [])) [v99,v101] fun v102 =>
 zB v102 0 fun v103 =>
 zB v102 1 fun _ =>
 zj 5 v96 v103 h97 fun _ h106 =>
 aLoad true 5 v96 h106 fun v107 =>
 zj 5 v4 v107 h106 fun _ h109 =>
 aLoad true 5 v4 h109 fun v110 =>
 K (.tup [v110,(.p (.int .i64 0))]) h109)
 (zy [(.p (.int .i64 0)),(.p (.int .i64 0)),(.p (.bool false)),(.p (.str [])),(.full [])] h65 fun v111 h112 =>
 za 0 v0 fun v113 =>
 aLoad false 1 v113 h112 fun v114 =>
 zb 5 v66 (.p (.int .i64 0)) fun v115 =>
 aLoad true 5 v115 h112 fun v116 =>
 zb 5 v66 (.p (.int .i64 1)) fun v117 =>
 aLoad true 5 v117 h112 fun v118 =>
 zL Tryz.prog (.p (.func zlh [])) [v114,v116,v118] fun v119 =>
 zB v119 0 fun v120 =>
 zB v119 1 fun v121 =>
 zB v119 2 fun _ =>
 zj 5 v111 v120 h112 fun _ h124 =>
 aLoad true 5 v111 h124 fun v125 =>
 zj 5 v4 v125 h124 fun _ h127 =>
 aLoad true 5 v4 h127 fun v128 =>
 K (.tup [v128,v121]) h127)))))))
def zra:Nat→List Nat:=fun k=>match k with | 1000008=>[1] | 1000007=>[1] | _=>[]
theorem zze (x0 x1:AV) (H:List Ob) (r:AV) (Ho:List Ob):aBody Tryz.prog zra Tryz.f110 H [x0,x1] r Ho=zt0 x0 x1 H (fun v H'=>Gives H.length v H' r Ho):=by kernel_rfl
theorem zzK {x0 x1:AV} {r:AV} {Ho:List Ob} (h:zt0 x0 x1 [] (fun v H'=>Gives 0 v H' r Ho)):Abs.Fn Tryz.prog zgR [] [x0,x1] r Ho :=
 zh mixed zra (fn:=Tryz.f110) (by kernel_rfl) (by kernel_rfl) (by rw [zze]; exact h)
def zpk (x0 x1:AV) (H:List Ob) (K:AV→List Ob→Prop):Prop :=
 aBox x0 H fun v0 h1 =>
 aBox x1 h1 fun v2 h3 =>
 za 0 v0 fun v4 =>
 aLoad false 1 v4 h3 fun v5 =>
 aBin false false .eql v5 (.p (.str [105,102])) fun v6 =>
 zl true v6 (fun Q7 =>
 za 2 v2 fun v8 =>
 aLoad false 1 v8 h3 fun v9 =>
 (h3=h3∧Q7 v9)) fun v10 =>
 ze v10
 (K (.p (.int .i64 1)) h3)
 (za 0 v0 fun v11 =>
 aLoad false 1 v11 h3 fun v12 =>
 aBin false false .eql v12 (.p (.str [105,102])) fun v13 =>
 ze v13
 (K (.p (.int .i64 2)) h3)
 (za 0 v0 fun v14 =>
 aLoad false 1 v14 h3 fun v15 =>
 aBin false false .eql v15 (.p (.str [97,110,100])) fun v16 =>
 za 2 v2 fun v17 =>
 aLoad false 1 v17 h3 fun v18 =>
 aBin true false .eql v16 v18 fun v19 =>
 ze v19
 (K (.p (.int .i64 1)) h3)
 (K (.p (.int .i64 0)) h3)))
def znV:Nat→List Nat:=fun _=>[]
theorem zwD (x0 x1:AV) (H:List Ob) (r:AV) (Ho:List Ob):aBody Tryz.prog znV Tryz.f148 H [x0,x1] r Ho=zpk x0 x1 H (fun v H'=>Gives H.length v H' r Ho):=by kernel_rfl
theorem zwX {x0 x1:AV} {r:AV} {Ho:List Ob} (h:zpk x0 x1 [] (fun v H'=>Gives 0 v H' r Ho)):Abs.Fn Tryz.prog zlI [] [x0,x1] r Ho :=
 zh mixed znV (fn:=Tryz.f148) (by kernel_rfl) (by kernel_rfl) (by rw [zwD]; exact h)
def zuS (q1s3 q1s11 q1s12 y0 y1:AV) (H:List Ob) (B1:List AV→List Ob→Prop) (K:AV→List Ob→Prop):Prop :=
 aBin false false .lss y1 q1s12 fun v3 =>
 ze v3
 (zb 8 q1s11 y1 fun v4 =>
 aLoad true 8 v4 H fun v5 =>
 zy [(.p (.str [])),(.p (.int .i64 0)),(.p (.int .i64 0)),(.p (.bool false)),(.p (.str [])),(.full []),(.p (.int .i64 0)),(.full [])] H fun v6 h7 =>
 zj 8 v6 v5 h7 fun _ h9 =>
 aLoad true 8 v6 h9 fun v10 =>
 aLoad true 5 q1s3 h9 fun v11 =>
 aCall Tryz.prog (.p (.func zgR [])) [v10,v11] h9 fun v12 h13 =>
 zB v12 0 fun v14 =>
 zB v12 1 fun v15 =>
 zy [(.p (.int .i64 0)),(.p (.int .i64 0)),(.p (.bool false)),(.p (.str [])),(.full [])] h13 fun v16 h17 =>
 zj 5 v16 v14 h17 fun _ h19 =>
 aBin false false .neq v15 (.p (.int .i64 0)) fun v20 =>
 ze v20
 (K (.tup [(.full []),v15]) h19)
 (aLoad true 5 v16 h19 fun v21 =>
 zn 5 [v21] fun v22 =>
 zI false 5 64 y0 v22 h19 fun v23 h24 =>
 aBin false false .add y1 (.p (.int .i64 1)) fun v25 =>
 B1 [v23,v25] h24))
 (K (.tup [y0,(.p (.int .i64 0))]) H)
def zwN (x0 x1:AV) (H:List Ob) (K:AV→List Ob→Prop):Prop :=
 aBox x1 H fun v0 h1 =>
 aLen false false x0 fun v2 =>
 zG 2 [(.full []),(.p (.int .i64 0))] h1 fun xs H B1=>zuS v0 x0 v2 (xs.getD 0 Z) (xs.getD 1 Z) H B1 K
def zsH:Nat→List Nat:=fun k=>match k with | 3=>[6,13] | _=>[]
theorem zAw (x0 x1:AV) (H:List Ob) (r:AV) (Ho:List Ob):aBody Tryz.prog zsH Tryz.f149 H [x0,x1] r Ho=zwN x0 x1 H (fun v H'=>Gives H.length v H' r Ho):=by kernel_rfl
theorem zBb {x0 x1:AV} {r:AV} {Ho:List Ob} (h:zwN x0 x1 [] (fun v H'=>Gives 0 v H' r Ho)):Abs.Fn Tryz.prog zsa [] [x0,x1] r Ho :=
 zh mixed zsH (fn:=Tryz.f149) (by kernel_rfl) (by kernel_rfl) (by rw [zAw]; exact h)
def zwH (x0 x1:AV) (H:List Ob) (K:AV→List Ob→Prop):Prop :=
 aBox x1 H fun v0 h1 =>
 zy [(.p (.int .i64 0)),(.p (.int .i64 0)),(.p (.bool false)),(.p (.str [])),(.full [])] h1 fun v2 h3 =>
 aCall Tryz.prog (.p (.func zo4 [])) [] h3 fun v4 h5 =>
 aCall Tryz.prog (.p (.func zav [])) [v4,x0] h5 fun v6 h7 =>
 zB v6 0 fun v8 =>
 zB v6 1 fun v9 =>
 aUn .not v9 fun v10 =>
 ze v10
 (zr [(.p (.int .i64 0)),(.p (.int .i64 0)),(.p (.bool false)),(.p (.str [])),(.full [])] [] fun v11 =>
 zj 5 v2 v11 h7 fun _ h13 =>
 aLoad true 5 v2 h13 fun v14 =>
 K (.tup [v14,(.p (.bool false))]) h13)
 (aLoad true 5 v0 h7 fun v15 =>
 aCall Tryz.prog v8 [v15] h7 fun v16 h17 =>
 zj 5 v2 v16 h17 fun _ h19 =>
 aLoad true 5 v2 h19 fun v20 =>
 K (.tup [v20,(.p (.bool true))]) h19)
def zs7:Nat→List Nat:=fun _=>[]
theorem zAB (x0 x1:AV) (H:List Ob) (r:AV) (Ho:List Ob):aBody Tryz.prog zs7 Tryz.f150 H [x0,x1] r Ho=zwH x0 x1 H (fun v H'=>Gives H.length v H' r Ho):=by kernel_rfl
theorem zBL {x0 x1:AV} {r:AV} {Ho:List Ob} (h:zwH x0 x1 [] (fun v H'=>Gives 0 v H' r Ho)):Abs.Fn Tryz.prog zr5 [] [x0,x1] r Ho :=
 zh mixed zs7 (fn:=Tryz.f150) (by kernel_rfl) (by kernel_rfl) (by rw [zAB]; exact h)
def ztI (x0 x1 x2:AV) (H:List Ob) (K:AV→List Ob→Prop):Prop :=
 aBox x1 H fun v0 h1 =>
 aBox x2 h1 fun v2 h3 =>
 zy [(.p (.int .i64 0)),(.p (.int .i64 0)),(.p (.bool false)),(.p (.str [])),(.full [])] h3 fun v4 h5 =>
 aCall Tryz.prog (.p (.func zoP [])) [] h5 fun v6 h7 =>
 aCall Tryz.prog (.p (.func zcG [])) [v6,x0] h7 fun v8 h9 =>
 zB v8 0 fun v10 =>
 zB v8 1 fun v11 =>
 aUn .not v11 fun v12 =>
 ze v12
 (zr [(.p (.int .i64 0)),(.p (.int .i64 0)),(.p (.bool false)),(.p (.str [])),(.full [])] [] fun v13 =>
 zj 5 v4 v13 h9 fun _ h15 =>
 aLoad true 5 v4 h15 fun v16 =>
 K (.tup [v16,(.p (.int .i64 0)),(.p (.bool false))]) h15)
 (aLoad true 5 v0 h9 fun v17 =>
 aLoad true 5 v2 h9 fun v18 =>
 aCall Tryz.prog v10 [v17,v18] h9 fun v19 h20 =>
 zB v19 0 fun v21 =>
 zB v19 1 fun v22 =>
 zy [(.p (.int .i64 0)),(.p (.int .i64 0)),(.p (.bool false)),(.p (.str [])),(.full [])] h20 fun v23 h24 =>
 zj 5 v23 v21 h24 fun _ h26 =>
 aLoad true 5 v23 h26 fun v27 =>
 zj 5 v4 v27 h26 fun _ h29 =>
 aLoad true 5 v4 h29 fun v30 =>
 K (.tup [v30,v22,(.p (.bool true))]) h29)
def zq9:Nat→List Nat:=fun _=>[]
theorem zzf (x0 x1 x2:AV) (H:List Ob) (r:AV) (Ho:List Ob):aBody Tryz.prog zq9 Tryz.f151 H [x0,x1,x2] r Ho=ztI x0 x1 x2 H (fun v H'=>Gives H.length v H' r Ho):=by kernel_rfl
theorem zz6 {x0 x1 x2:AV} {r:AV} {Ho:List Ob} (h:ztI x0 x1 x2 [] (fun v H'=>Gives 0 v H' r Ho)):Abs.Fn Tryz.prog zlh [] [x0,x1,x2] r Ho :=
 zh mixed zq9 (fn:=Tryz.f151) (by kernel_rfl) (by kernel_rfl) (by rw [zzf]; exact h)
def ztO (H:List Ob) (K:AV→List Ob→Prop):Prop :=
 zr [(.p (.str [])),(.p (.raw .nilFunc))] [(0,1,(.p (.str [110,101,103]))),(1,1,(.p (.func ziv [])))] fun v0 =>
 zr [(.p (.str [])),(.p (.raw .nilFunc))] [(0,1,(.p (.str [110,111,116]))),(1,1,(.p (.func zis [])))] fun v1 =>
 zr [(.p (.str [])),(.p (.raw .nilFunc))] [(0,1,(.p (.str [108,101,110]))),(1,1,(.p (.func ziw [])))] fun v2 =>
 zn 2 [v0,v1,v2] fun v3 =>
 K v3 H
def zrn:Nat→List Nat:=fun _=>[]
theorem zz3 (H:List Ob) (r:AV) (Ho:List Ob):aBody Tryz.prog zrn Tryz.f176 H [] r Ho=ztO H (fun v H'=>Gives H.length v H' r Ho):=by kernel_rfl
theorem zAi {r:AV} {Ho:List Ob} (h:ztO [] (fun v H'=>Gives 0 v H' r Ho)):Abs.Fn Tryz.prog zo4 [] [] r Ho :=
 zh mixed zrn (fn:=Tryz.f176) (by kernel_rfl) (by kernel_rfl) (by rw [zz3]; exact h)
def zbf (q1s1 q1s9 q1s10 y0:AV) (H:List Ob) (B1:List AV→List Ob→Prop) (K:AV→List Ob→Prop):Prop :=
 aBin false false .lss y0 q1s10 fun v1 =>
 ze v1
 (zb 2 q1s9 y0 fun v2 =>
 aLoad true 2 v2 H fun v3 =>
 zy [(.p (.str [])),(.p (.raw .nilFunc))] H fun v4 h5 =>
 zj 2 v4 v3 h5 fun _ h7 =>
 za 0 v4 fun v8 =>
 aLoad false 1 v8 h7 fun v9 =>
 aBin false false .eql v9 q1s1 fun v10 =>
 ze v10
 (za 1 v4 fun v11 =>
 aLoad false 1 v11 h7 fun v12 =>
 K (.tup [v12,(.p (.bool true))]) h7)
 (aBin false false .add y0 (.p (.int .i64 1)) fun v13 =>
 B1 [v13] h7))
 (K (.tup [(.p (.raw .nilFunc)),(.p (.bool false))]) H)
def zaD (x0 x1:AV) (H:List Ob) (K:AV→List Ob→Prop):Prop :=
 aLen false false x0 fun v0 =>
 zG 1 [(.p (.int .i64 0))] H fun xs H B1=>zbf x1 x0 v0 (xs.getD 0 Z) H B1 K
def zbc:Nat→List Nat:=fun k=>match k with | 2=>[11] | _=>[]
theorem zdj (x0 x1:AV) (H:List Ob) (r:AV) (Ho:List Ob):aBody Tryz.prog zbc Tryz.f177 H [x0,x1] r Ho=zaD x0 x1 H (fun v H'=>Gives H.length v H' r Ho):=by kernel_rfl
theorem zdk {x0 x1:AV} {r:AV} {Ho:List Ob} (h:zaD x0 x1 [] (fun v H'=>Gives 0 v H' r Ho)):Abs.Fn Tryz.prog zav [] [x0,x1] r Ho :=
 zh mixed zbc (fn:=Tryz.f177) (by kernel_rfl) (by kernel_rfl) (by rw [zdj]; exact h)
def ztw (H:List Ob) (K:AV→List Ob→Prop):Prop :=
 aCall Tryz.prog (.p (.func zgd [])) [(.p (.func ziA []))] H fun v0 h1 =>
 zr [(.p (.str [])),(.p (.raw .nilFunc))] [(0,1,(.p (.str [97,100,100]))),(1,1,v0)] fun v2 =>
 aCall Tryz.prog (.p (.func zgd [])) [(.p (.func ziB []))] h1 fun v3 h4 =>
 zr [(.p (.str [])),(.p (.raw .nilFunc))] [(0,1,(.p (.str [115,117,98]))),(1,1,v3)] fun v5 =>
 aCall Tryz.prog (.p (.func zgd [])) [(.p (.func ziz []))] h4 fun v6 h7 =>
 zr [(.p (.str [])),(.p (.raw .nilFunc))] [(0,1,(.p (.str [109,117,108]))),(1,1,v6)] fun v8 =>
 aCall Tryz.prog (.p (.func zhm [])) [(.p (.func zit []))] h7 fun v9 h10 =>
 zr [(.p (.str [])),(.p (.raw .nilFunc))] [(0,1,(.p (.str [100,105,118]))),(1,1,v9)] fun v11 =>
 aCall Tryz.prog (.p (.func zhm [])) [(.p (.func ziC []))] h10 fun v12 h13 =>
 zr [(.p (.str [])),(.p (.raw .nilFunc))] [(0,1,(.p (.str [114,101,109]))),(1,1,v12)] fun v14 =>
 zr [(.p (.str [])),(.p (.raw .nilFunc))] [(0,1,(.p (.str [101,113]))),(1,1,(.p (.func zf6 [])))] fun v15 =>
 zr [(.p (.str [])),(.p (.raw .nilFunc))] [(0,1,(.p (.str [108,116]))),(1,1,(.p (.func zgb [])))] fun v16 =>
 zr [(.p (.str [])),(.p (.raw .nilFunc))] [(0,1,(.p (.str [99,97,116]))),(1,1,(.p (.func zkI [])))] fun v17 =>
 zn 2 [v2,v5,v8,v11,v14,v15,v16,v17] fun v18 =>
 K v18 h13
def zq6:Nat→List Nat:=fun _=>[]
theorem zzU (H:List Ob) (r:AV) (Ho:List Ob):aBody Tryz.prog zq6 Tryz.f178 H [] r Ho=ztw H (fun v H'=>Gives H.length v H' r Ho):=by kernel_rfl
theorem zzd {r:AV} {Ho:List Ob} (h:ztw [] (fun v H'=>Gives 0 v H' r Ho)):Abs.Fn Tryz.prog zoP [] [] r Ho :=
 zh mixed zq6 (fn:=Tryz.f178) (by kernel_rfl) (by kernel_rfl) (by rw [zzU]; exact h)
def zeu (q1s1 q1s9 q1s10 y0:AV) (H:List Ob) (B1:List AV→List Ob→Prop) (K:AV→List Ob→Prop):Prop :=
 aBin false false .lss y0 q1s10 fun v1 =>
 ze v1
 (zb 2 q1s9 y0 fun v2 =>
 aLoad true 2 v2 H fun v3 =>
 zy [(.p (.str [])),(.p (.raw .nilFunc))] H fun v4 h5 =>
 zj 2 v4 v3 h5 fun _ h7 =>
 za 0 v4 fun v8 =>
 aLoad false 1 v8 h7 fun v9 =>
 aBin false false .eql v9 q1s1 fun v10 =>
 ze v10
 (za 1 v4 fun v11 =>
 aLoad false 1 v11 h7 fun v12 =>
 K (.tup [v12,(.p (.bool true))]) h7)
 (aBin false false .add y0 (.p (.int .i64 1)) fun v13 =>
 B1 [v13] h7))
 (K (.tup [(.p (.raw .nilFunc)),(.p (.bool false))]) H)
def zdb (x0 x1:AV) (H:List Ob) (K:AV→List Ob→Prop):Prop :=
 aLen false false x0 fun v0 =>
 zG 1 [(.p (.int .i64 0))] H fun xs H B1=>zeu x1 x0 v0 (xs.getD 0 Z) H B1 K
def zd0:Nat→List Nat:=fun k=>match k with | 2=>[11] | _=>[]
theorem zjX (x0 x1:AV) (H:List Ob) (r:AV) (Ho:List Ob):aBody Tryz.prog zd0 Tryz.f179 H [x0,x1] r Ho=zdb x0 x1 H (fun v H'=>Gives H.length v H' r Ho):=by kernel_rfl
theorem zj2 {x0 x1:AV} {r:AV} {Ho:List Ob} (h:zdb x0 x1 [] (fun v H'=>Gives 0 v H' r Ho)):Abs.Fn Tryz.prog zcG [] [x0,x1] r Ho :=
 zh mixed zd0 (fn:=Tryz.f179) (by kernel_rfl) (by kernel_rfl) (by rw [zjX]; exact h)
def zpY (x0:AV) (H:List Ob) (K:AV→List Ob→Prop):Prop :=
 aBox x0 H fun v0 h1 =>
 zy [(.p (.int .i64 0)),(.p (.int .i64 0)),(.p (.bool false)),(.p (.str [])),(.full [])] h1 fun v2 h3 =>
 za 1 v0 fun v4 =>
 aLoad false 1 v4 h3 fun v5 =>
 aUn .neg v5 fun v6 =>
 aCall Tryz.prog (.p (.func zfb [])) [v6] h3 fun v7 h8 =>
 zj 5 v2 v7 h8 fun _ h10 =>
 aLoad true 5 v2 h10 fun v11 =>
 K v11 h10
def znT:Nat→List Nat:=fun _=>[]
theorem zwM (x0:AV) (H:List Ob) (r:AV) (Ho:List Ob):aBody Tryz.prog znT Tryz.f213 H [x0] r Ho=zpY x0 H (fun v H'=>Gives H.length v H' r Ho):=by kernel_rfl
theorem zvN {x0:AV} {r:AV} {Ho:List Ob} (h:zpY x0 [] (fun v H'=>Gives 0 v H' r Ho)):Abs.Fn Tryz.prog ziv [] [x0] r Ho :=
 zh mixed znT (fn:=Tryz.f213) (by kernel_rfl) (by kernel_rfl) (by rw [zwM]; exact h)
def zpV (x0:AV) (H:List Ob) (K:AV→List Ob→Prop):Prop :=
 aBox x0 H fun v0 h1 =>
 zy [(.p (.int .i64 0)),(.p (.int .i64 0)),(.p (.bool false)),(.p (.str [])),(.full [])] h1 fun v2 h3 =>
 za 2 v0 fun v4 =>
 aLoad false 1 v4 h3 fun v5 =>
 aUn .not v5 fun v6 =>
 aCall Tryz.prog (.p (.func zkD [])) [v6] h3 fun v7 h8 =>
 zj 5 v2 v7 h8 fun _ h10 =>
 aLoad true 5 v2 h10 fun v11 =>
 K v11 h10
def znE:Nat→List Nat:=fun _=>[]
theorem zvE (x0:AV) (H:List Ob) (r:AV) (Ho:List Ob):aBody Tryz.prog znE Tryz.f214 H [x0] r Ho=zpV x0 H (fun v H'=>Gives H.length v H' r Ho):=by kernel_rfl
theorem zvq {x0:AV} {r:AV} {Ho:List Ob} (h:zpV x0 [] (fun v H'=>Gives 0 v H' r Ho)):Abs.Fn Tryz.prog zis [] [x0] r Ho :=
 zh mixed znE (fn:=Tryz.f214) (by kernel_rfl) (by kernel_rfl) (by rw [zvE]; exact h)
def zoY (x0:AV) (H:List Ob) (K:AV→List Ob→Prop):Prop :=
 aBox x0 H fun v0 h1 =>
 zy [(.p (.int .i64 0)),(.p (.int .i64 0)),(.p (.bool false)),(.p (.str [])),(.full [])] h1 fun v2 h3 =>
 za 3 v0 fun v4 =>
 aLoad false 1 v4 h3 fun v5 =>
 aLen false true v5 fun v6 =>
 aCall Tryz.prog (.p (.func zfb [])) [v6] h3 fun v7 h8 =>
 zj 5 v2 v7 h8 fun _ h10 =>
 aLoad true 5 v2 h10 fun v11 =>
 K v11 h10
def znD:Nat→List Nat:=fun _=>[]
theorem zxp (x0:AV) (H:List Ob) (r:AV) (Ho:List Ob):aBody Tryz.prog znD Tryz.f216 H [x0] r Ho=zoY x0 H (fun v H'=>Gives H.length v H' r Ho):=by kernel_rfl
theorem zxc {x0:AV} {r:AV} {Ho:List Ob} (h:zoY x0 [] (fun v H'=>Gives 0 v H' r Ho)):Abs.Fn Tryz.prog ziw [] [x0] r Ho :=
 zh mixed znD (fn:=Tryz.f216) (by kernel_rfl) (by kernel_rfl) (by rw [zxp]; exact h)
def zoH (x0:AV) (H:List Ob) (K:AV→List Ob→Prop):Prop :=
 aBox x0 H fun v0 h1 =>
 zaA zce [v0] h1 fun v2 h3 =>
 K v2 h3
def znM:Nat→List Nat:=fun _=>[]
theorem zxj (x0:AV) (H:List Ob) (r:AV) (Ho:List Ob):aBody Tryz.prog znM Tryz.f217 H [x0] r Ho=zoH x0 H (fun v H'=>Gives H.length v H' r Ho):=by kernel_rfl
theorem zxh {x0:AV} {r:AV} {Ho:List Ob} (h:zoH x0 [] (fun v H'=>Gives 0 v H' r Ho)):Abs.Fn Tryz.prog zgd [] [x0] r Ho :=
 zh mixed znM (fn:=Tryz.f217) (by kernel_rfl) (by kernel_rfl) (by rw [zxj]; exact h)
def zoG (x0 x1:AV) (H:List Ob) (K:AV→List Ob→Prop):Prop :=
 aBin false false .add x0 x1 fun v0 =>
 K v0 H
def znF:Nat→List Nat:=fun _=>[]
theorem zxv (x0 x1:AV) (H:List Ob) (r:AV) (Ho:List Ob):aBody Tryz.prog znF Tryz.f218 H [x0,x1] r Ho=zoG x0 x1 H (fun v H'=>Gives H.length v H' r Ho):=by kernel_rfl
theorem zwE {x0 x1:AV} {r:AV} {Ho:List Ob} (h:zoG x0 x1 [] (fun v H'=>Gives 0 v H' r Ho)):Abs.Fn Tryz.prog ziA [] [x0,x1] r Ho :=
 zh mixed znF (fn:=Tryz.f218) (by kernel_rfl) (by kernel_rfl) (by rw [zxv]; exact h)
def zpB (x0 x1:AV) (H:List Ob) (K:AV→List Ob→Prop):Prop :=
 aBin false false .sub x0 x1 fun v0 =>
 K v0 H
def znK:Nat→List Nat:=fun _=>[]
theorem zwU (x0 x1:AV) (H:List Ob) (r:AV) (Ho:List Ob):aBody Tryz.prog znK Tryz.f219 H [x0,x1] r Ho=zpB x0 x1 H (fun v H'=>Gives H.length v H' r Ho):=by kernel_rfl
theorem zxa {x0 x1:AV} {r:AV} {Ho:List Ob} (h:zpB x0 x1 [] (fun v H'=>Gives 0 v H' r Ho)):Abs.Fn Tryz.prog ziB [] [x0,x1] r Ho :=
 zh mixed znK (fn:=Tryz.f219) (by kernel_rfl) (by kernel_rfl) (by rw [zwU]; exact h)
def zoV (x0 x1:AV) (H:List Ob) (K:AV→List Ob→Prop):Prop :=
 aBin false false .mul x0 x1 fun v0 =>
 K v0 H
def znU:Nat→List Nat:=fun _=>[]
theorem zvu (x0 x1:AV) (H:List Ob) (r:AV) (Ho:List Ob):aBody Tryz.prog znU Tryz.f220 H [x0,x1] r Ho=zoV x0 x1 H (fun v H'=>Gives H.length v H' r Ho):=by kernel_rfl
theorem zwd {x0 x1:AV} {r:AV} {Ho:List Ob} (h:zoV x0 x1 [] (fun v H'=>Gives 0 v H' r Ho)):Abs.Fn Tryz.prog ziz [] [x0,x1] r Ho :=
 zh mixed znU (fn:=Tryz.f220) (by kernel_rfl) (by kernel_rfl) (by rw [zvu]; exact h)
def zmN (x0:AV) (H:List Ob) (K:AV→List Ob→Prop):Prop :=
 aBox x0 H fun v0 h1 =>
 zaA zcz [v0] h1 fun v2 h3 =>
 K v2 h3
def zmc:Nat→List Nat:=fun _=>[]
theorem zu0 (x0:AV) (H:List Ob) (r:AV) (Ho:List Ob):aBody Tryz.prog zmc Tryz.f221 H [x0] r Ho=zmN x0 H (fun v H'=>Gives H.length v H' r Ho):=by kernel_rfl
theorem zu8 {x0:AV} {r:AV} {Ho:List Ob} (h:zmN x0 [] (fun v H'=>Gives 0 v H' r Ho)):Abs.Fn Tryz.prog zhm [] [x0] r Ho :=
 zh mixed zmc (fn:=Tryz.f221) (by kernel_rfl) (by kernel_rfl) (by rw [zu0]; exact h)
def zos (x0 x1:AV) (H:List Ob) (K:AV→List Ob→Prop):Prop :=
 aBin false false .quo x0 x1 fun v0 =>
 K v0 H
def znO:Nat→List Nat:=fun _=>[]
theorem zwt (x0 x1:AV) (H:List Ob) (r:AV) (Ho:List Ob):aBody Tryz.prog znO Tryz.f222 H [x0,x1] r Ho=zos x0 x1 H (fun v H'=>Gives H.length v H' r Ho):=by kernel_rfl
theorem zwB {x0 x1:AV} {r:AV} {Ho:List Ob} (h:zos x0 x1 [] (fun v H'=>Gives 0 v H' r Ho)):Abs.Fn Tryz.prog zit [] [x0,x1] r Ho :=
 zh mixed znO (fn:=Tryz.f222) (by kernel_rfl) (by kernel_rfl) (by rw [zwt]; exact h)
def zpE (x0 x1:AV) (H:List Ob) (K:AV→List Ob→Prop):Prop :=
 aBin false false .rem x0 x1 fun v0 =>
 K v0 H
def znQ:Nat→List Nat:=fun _=>[]
theorem zwr (x0 x1:AV) (H:List Ob) (r:AV) (Ho:List Ob):aBody Tryz.prog znQ Tryz.f223 H [x0,x1] r Ho=zpE x0 x1 H (fun v H'=>Gives H.length v H' r Ho):=by kernel_rfl
theorem zwZ {x0 x1:AV} {r:AV} {Ho:List Ob} (h:zpE x0 x1 [] (fun v H'=>Gives 0 v H' r Ho)):Abs.Fn Tryz.prog ziC [] [x0,x1] r Ho :=
 zh mixed znQ (fn:=Tryz.f223) (by kernel_rfl) (by kernel_rfl) (by rw [zwr]; exact h)
def zph (x0 x1:AV) (H:List Ob) (K:AV→List Ob→Prop):Prop :=
 aBox x0 H fun v0 h1 =>
 aBox x1 h1 fun v2 h3 =>
 zy [(.p (.int .i64 0)),(.p (.int .i64 0)),(.p (.bool false)),(.p (.str [])),(.full [])] h3 fun v4 h5 =>
 aLoad true 5 v0 h5 fun v6 =>
 aLoad true 5 v2 h5 fun v7 =>
 aCall Tryz.prog (.p (.func zgr [])) [v6,v7] h5 fun v8 h9 =>
 aCall Tryz.prog (.p (.func zkD [])) [v8] h9 fun v10 h11 =>
 zj 5 v4 v10 h11 fun _ h13 =>
 aLoad true 5 v4 h13 fun v14 =>
 K (.tup [v14,(.p (.int .i64 0))]) h13
def znY:Nat→List Nat:=fun _=>[]
theorem zwm (x0 x1:AV) (H:List Ob) (r:AV) (Ho:List Ob):aBody Tryz.prog znY Tryz.f224 H [x0,x1] r Ho=zph x0 x1 H (fun v H'=>Gives H.length v H' r Ho):=by kernel_rfl
theorem zv2 {x0 x1:AV} {r:AV} {Ho:List Ob} (h:zph x0 x1 [] (fun v H'=>Gives 0 v H' r Ho)):Abs.Fn Tryz.prog zf6 [] [x0,x1] r Ho :=
 zh mixed znY (fn:=Tryz.f224) (by kernel_rfl) (by kernel_rfl) (by rw [zwm]; exact h)
def zpK (x0 x1:AV) (H:List Ob) (K:AV→List Ob→Prop):Prop :=
 aBox x0 H fun v0 h1 =>
 aBox x1 h1 fun v2 h3 =>
 zy [(.p (.int .i64 0)),(.p (.int .i64 0)),(.p (.bool false)),(.p (.str [])),(.full [])] h3 fun v4 h5 =>
 aLoad true 5 v0 h5 fun v6 =>
 aLoad true 5 v2 h5 fun v7 =>
 aCall Tryz.prog (.p (.func zba [])) [v6,v7] h5 fun v8 h9 =>
 aBin false false .lss v8 (.p (.int .i64 0)) fun v10 =>
 aCall Tryz.prog (.p (.func zkD [])) [v10] h9 fun v11 h12 =>
 zj 5 v4 v11 h12 fun _ h14 =>
 aLoad true 5 v4 h14 fun v15 =>
 K (.tup [v15,(.p (.int .i64 0))]) h14
def znB:Nat→List Nat:=fun _=>[]
theorem zvx (x0 x1:AV) (H:List Ob) (r:AV) (Ho:List Ob):aBody Tryz.prog znB Tryz.f225 H [x0,x1] r Ho=zpK x0 x1 H (fun v H'=>Gives H.length v H' r Ho):=by kernel_rfl
theorem zvl {x0 x1:AV} {r:AV} {Ho:List Ob} (h:zpK x0 x1 [] (fun v H'=>Gives 0 v H' r Ho)):Abs.Fn Tryz.prog zgb [] [x0,x1] r Ho :=
 zh mixed znB (fn:=Tryz.f225) (by kernel_rfl) (by kernel_rfl) (by rw [zvx]; exact h)
def zvS (x0 x1:AV) (H:List Ob) (K:AV→List Ob→Prop):Prop :=
 aBox x0 H fun v0 h1 =>
 aBox x1 h1 fun v2 h3 =>
 zy [(.p (.int .i64 0)),(.p (.int .i64 0)),(.p (.bool false)),(.p (.str [])),(.full [])] h3 fun v4 h5 =>
 za 3 v0 fun v6 =>
 aLoad false 1 v6 h5 fun v7 =>
 aLen false true v7 fun v8 =>
 za 3 v2 fun v9 =>
 aLoad false 1 v9 h5 fun v10 =>
 aLen false true v10 fun v11 =>
 aBin false false .add v8 v11 fun v12 =>
 aBin false false .gtr v12 (.p (.int .i64 255)) fun v13 =>
 ze v13
 (zr [(.p (.int .i64 0)),(.p (.int .i64 0)),(.p (.bool false)),(.p (.str [])),(.full [])] [] fun v14 =>
 zj 5 v4 v14 h5 fun _ h16 =>
 aLoad true 5 v4 h16 fun v17 =>
 K (.tup [v17,(.p (.int .i64 4))]) h16)
 (za 3 v0 fun v18 =>
 aLoad false 1 v18 h5 fun v19 =>
 za 3 v2 fun v20 =>
 aLoad false 1 v20 h5 fun v21 =>
 aBin false false .add v19 v21 fun v22 =>
 aCall Tryz.prog (.p (.func ztM [])) [v22] h5 fun v23 h24 =>
 zj 5 v4 v23 h24 fun _ h26 =>
 aLoad true 5 v4 h26 fun v27 =>
 K (.tup [v27,(.p (.int .i64 0))]) h26)
def zs2:Nat→List Nat:=fun _=>[]
theorem zBl (x0 x1:AV) (H:List Ob) (r:AV) (Ho:List Ob):aBody Tryz.prog zs2 Tryz.f226 H [x0,x1] r Ho=zvS x0 x1 H (fun v H'=>Gives H.length v H' r Ho):=by kernel_rfl
theorem zBU {x0 x1:AV} {r:AV} {Ho:List Ob} (h:zvS x0 x1 [] (fun v H'=>Gives 0 v H' r Ho)):Abs.Fn Tryz.prog zkI [] [x0,x1] r Ho :=
 zh mixed zs2 (fn:=Tryz.f226) (by kernel_rfl) (by kernel_rfl) (by rw [zBl]; exact h)
def zlP (x0 x1 x2:AV) (H:List Ob) (K:AV→List Ob→Prop):Prop :=
 aBox x0 H fun v0 h1 =>
 aBox x1 h1 fun v2 h3 =>
 zy [(.p (.int .i64 0)),(.p (.int .i64 0)),(.p (.bool false)),(.p (.str [])),(.full [])] h3 fun v4 h5 =>
 aLoad false 1 x2 h5 fun v6 =>
 za 1 v0 fun v7 =>
 aLoad false 1 v7 h5 fun v8 =>
 za 1 v2 fun v9 =>
 aLoad false 1 v9 h5 fun v10 =>
 aCall Tryz.prog v6 [v8,v10] h5 fun v11 h12 =>
 aCall Tryz.prog (.p (.func zfb [])) [v11] h12 fun v13 h14 =>
 zj 5 v4 v13 h14 fun _ h16 =>
 aLoad true 5 v4 h16 fun v17 =>
 K (.tup [v17,(.p (.int .i64 0))]) h16
def zlq:Nat→List Nat:=fun _=>[]
theorem ztn (x0 x1 x2:AV) (H:List Ob) (r:AV) (Ho:List Ob):aBody Tryz.prog zlq Tryz.f251 H [x0,x1,x2] r Ho=zlP x0 x1 x2 H (fun v H'=>Gives H.length v H' r Ho):=by kernel_rfl
theorem ztv {x0 x1 x2:AV} {r:AV} {Ho:List Ob} (h:zlP x0 x1 x2 [] (fun v H'=>Gives 0 v H' r Ho)):Abs.Fn Tryz.prog zce [] [x0,x1,x2] r Ho :=
 zh mixed zlq (fn:=Tryz.f251) (by kernel_rfl) (by kernel_rfl) (by rw [ztn]; exact h)
def zkv (x0 x1 x2:AV) (H:List Ob) (K:AV→List Ob→Prop):Prop :=
 aBox x0 H fun v0 h1 =>
 aBox x1 h1 fun v2 h3 =>
 zy [(.p (.int .i64 0)),(.p (.int .i64 0)),(.p (.bool false)),(.p (.str [])),(.full [])] h3 fun v4 h5 =>
 za 1 v2 fun v6 =>
 aLoad false 1 v6 h5 fun v7 =>
 aBin false false .eql v7 (.p (.int .i64 0)) fun v8 =>
 ze v8
 (zr [(.p (.int .i64 0)),(.p (.int .i64 0)),(.p (.bool false)),(.p (.str [])),(.full [])] [] fun v9 =>
 zj 5 v4 v9 h5 fun _ h11 =>
 aLoad true 5 v4 h11 fun v12 =>
 K (.tup [v12,(.p (.int .i64 8))]) h11)
 (aLoad false 1 x2 h5 fun v13 =>
 za 1 v0 fun v14 =>
 aLoad false 1 v14 h5 fun v15 =>
 za 1 v2 fun v16 =>
 aLoad false 1 v16 h5 fun v17 =>
 aCall Tryz.prog v13 [v15,v17] h5 fun v18 h19 =>
 aCall Tryz.prog (.p (.func zfb [])) [v18] h19 fun v20 h21 =>
 zj 5 v4 v20 h21 fun _ h23 =>
 aLoad true 5 v4 h23 fun v24 =>
 K (.tup [v24,(.p (.int .i64 0))]) h23)
def zkw:Nat→List Nat:=fun _=>[]
theorem zsE (x0 x1 x2:AV) (H:List Ob) (r:AV) (Ho:List Ob):aBody Tryz.prog zkw Tryz.f252 H [x0,x1,x2] r Ho=zkv x0 x1 x2 H (fun v H'=>Gives H.length v H' r Ho):=by kernel_rfl
theorem zss {x0 x1 x2:AV} {r:AV} {Ho:List Ob} (h:zkv x0 x1 x2 [] (fun v H'=>Gives 0 v H' r Ho)):Abs.Fn Tryz.prog zcz [] [x0,x1,x2] r Ho :=
 zh mixed zkw (fn:=Tryz.f252) (by kernel_rfl) (by kernel_rfl) (by rw [zsE]; exact h)
end Go.Proofs.YtdmgbhamigegfaaGreatDoor
end

section
/- Made by program (Gen.lean): functions of the dump, over trees. -/
set_option maxRecDepth 4000
set_option linter.unusedVariables false
namespace Go.Proofs.YtdmgbhamigegfaaGreatDoor
open Go Go.Abs
def zlg (q1s1 y0:AV) (H:List Ob) (B1:List AV→List Ob→Prop) (K:AV→List Ob→Prop):Prop :=
 za 4 q1s1 fun v26 =>
 aLoad false 1 v26 H fun v27 =>
 aLen false false v27 fun v28 =>
 aBin false false .lss y0 v28 fun v29 =>
 ze v29
 (za 4 q1s1 fun v30 =>
 aLoad false 1 v30 H fun v31 =>
 zb 8 v31 y0 fun v32 =>
 aLoad true 8 v32 H fun v33 =>
 aCall Tryz.prog (.p (.func zfa [])) [v33] H fun v34 h35 =>
 aUn .not v34 fun v36 =>
 ze v36
 (K (.p (.bool false)) h35)
 (aBin false false .add y0 (.p (.int .i64 1)) fun v37 =>
 B1 [v37] h35))
 (K (.p (.bool true)) H)
def zkN (x0:AV) (H:List Ob) (K:AV→List Ob→Prop):Prop :=
 aBox x0 H fun v0 h1 =>
 za 1 v0 fun v2 =>
 aLoad false 1 v2 h1 fun v3 =>
 aLen false true v3 fun v4 =>
 aBin false false .gtr v4 (.p (.int .i64 50)) fun v5 =>
 zl false v5 (fun Q6 =>
 za 2 v0 fun v7 =>
 aLoad true 2 v7 h1 fun v8 =>
 aCall Tryz.prog (.p (.func zid [])) [v8] h1 fun v9 h10 =>
 aUn .not v9 fun v11 =>
 (h10=h1∧Q6 v11)) fun v12 =>
 zl false v12 (fun Q13 =>
 za 4 v0 fun v14 =>
 aLoad false 1 v14 h1 fun v15 =>
 aLenS false v15 fun v16 =>
 aBin false false .gtr v16 (.p (.int .i64 8)) fun v17 =>
 (h1=h1∧Q13 v17)) fun v18 =>
 zl false v18 (fun Q19 =>
 za 5 v0 fun v20 =>
 aLoad true 8 v20 h1 fun v21 =>
 aCall Tryz.prog (.p (.func zfa [])) [v21] h1 fun v22 h23 =>
 aUn .not v22 fun v24 =>
 (h23=h1∧Q19 v24)) fun v25 =>
 ze v25
 (K (.p (.bool false)) h1)
 (zG 1 [(.p (.int .i64 0))] h1 fun xs H B1=>zlg v0 (xs.getD 0 Z) H B1 K)
def zko:Nat→List Nat:=fun k=>match k with | 4=>[3] | _=>[]
theorem zti (x0:AV) (H:List Ob) (r:AV) (Ho:List Ob):aBody Tryz.prog zko Tryz.f44 H [x0] r Ho=zkN x0 H (fun v H'=>Gives H.length v H' r Ho):=by kernel_rfl
theorem zs6 {x0:AV} {r:AV} {Ho:List Ob} (h:zkN x0 [] (fun v H'=>Gives 0 v H' r Ho)):Abs.Fn Tryz.prog zh5 [] [x0] r Ho :=
 zh mixed zko (fn:=Tryz.f44) (by kernel_rfl) (by kernel_rfl) (by rw [zti]; exact h)
def zmn (q1s1 q1s2 q1s3 y0:AV) (H:List Ob) (B1:List AV→List Ob→Prop) (K:AV→List Ob→Prop):Prop :=
 za 4 q1s1 fun v23 =>
 aLoad false 1 v23 H fun v24 =>
 aLen false false v24 fun v25 =>
 aBin false false .lss y0 v25 fun v26 =>
 ze v26
 (za 4 q1s3 fun v27 =>
 aLoad false 1 v27 H fun v28 =>
 za 4 q1s1 fun v29 =>
 aLoad false 1 v29 H fun v30 =>
 zb 8 v30 y0 fun v31 =>
 aLoad true 8 v31 H fun v32 =>
 zL Tryz.prog (.p (.func zd5 [])) [v32] fun v33 =>
 zn 8 [v33] fun v34 =>
 aCalm [v28,v34] <|
 zI false 8 112 v28 v34 H fun v35 h36 =>
 za 4 q1s3 fun v37 =>
 zj 1 v37 v35 h36 fun _ h39 =>
 aBin false false .add y0 (.p (.int .i64 1)) fun v40 =>
 B1 [v40] h39)
 (aLoad true 15 q1s3 H fun v41 =>
 zj 15 q1s2 v41 H fun _ h43 =>
 aLoad true 15 q1s2 h43 fun v44 =>
 K v44 h43)
def zlD (x0:AV) (H:List Ob) (K:AV→List Ob→Prop):Prop :=
 aBox x0 H fun v0 h1 =>
 zy [(.p (.int .i64 0)),(.p (.str [])),(.p (.int .i64 0)),(.full []),(.full []),(.p (.str [])),(.p (.int .i64 0)),(.p (.int .i64 0)),(.p (.bool false)),(.p (.str [])),(.full []),(.p (.int .i64 0)),(.full []),(.p (.int .i64 0)),(.p (.int .i64 0))] h1 fun v2 h3 =>
 zy [(.p (.int .i64 0)),(.p (.str [])),(.p (.int .i64 0)),(.full []),(.full []),(.p (.str [])),(.p (.int .i64 0)),(.p (.int .i64 0)),(.p (.bool false)),(.p (.str [])),(.full []),(.p (.int .i64 0)),(.full []),(.p (.int .i64 0)),(.p (.int .i64 0))] h3 fun v4 h5 =>
 za 0 v0 fun v6 =>
 aLoad false 1 v6 h5 fun v7 =>
 za 1 v0 fun v8 =>
 aLoad false 1 v8 h5 fun v9 =>
 za 2 v0 fun v10 =>
 aLoad true 2 v10 h5 fun v11 =>
 zL Tryz.prog (.p (.func zgn [])) [v11] fun v12 =>
 za 5 v0 fun v13 =>
 aLoad true 8 v13 h5 fun v14 =>
 zL Tryz.prog (.p (.func zd5 [])) [v14] fun v15 =>
 za 13 v0 fun v16 =>
 aLoad false 1 v16 h5 fun v17 =>
 za 14 v0 fun v18 =>
 aLoad false 1 v18 h5 fun v19 =>
 zr [(.p (.int .i64 0)),(.p (.str [])),(.p (.int .i64 0)),(.full []),(.full []),(.p (.str [])),(.p (.int .i64 0)),(.p (.int .i64 0)),(.p (.bool false)),(.p (.str [])),(.full []),(.p (.int .i64 0)),(.full []),(.p (.int .i64 0)),(.p (.int .i64 0))] [(0,1,v7),(1,1,v9),(2,2,v12),(5,8,v15),(13,1,v17),(14,1,v19)] fun v20 =>
 zj 15 v4 v20 h5 fun _ h22 =>
 zG 1 [(.p (.int .i64 0))] h22 fun xs H B1=>zmn v0 v2 v4 (xs.getD 0 Z) H B1 K
def zlc:Nat→List Nat:=fun k=>match k with | 3=>[4] | _=>[]
theorem ztQ (x0:AV) (H:List Ob) (r:AV) (Ho:List Ob):aBody Tryz.prog zlc Tryz.f46 H [x0] r Ho=zlD x0 H (fun v H'=>Gives H.length v H' r Ho):=by kernel_rfl
theorem zub {x0:AV} {r:AV} {Ho:List Ob} (h:zlD x0 [] (fun v H'=>Gives 0 v H' r Ho)):Abs.Fn Tryz.prog zjj [] [x0] r Ho :=
 zh mixed zlc (fn:=Tryz.f46) (by kernel_rfl) (by kernel_rfl) (by rw [ztQ]; exact h)
def zxG (x0:AV) (H:List Ob) (K:AV→List Ob→Prop):Prop :=
 aBox x0 H fun v0 h1 =>
 zy [(.p (.bool false)),(.p (.bool false)),(.p (.bool false)),(.p (.int .i64 0)),(.p (.int .i64 0)),(.p (.int .i64 0)),(.p (.int .i64 0)),(.p (.int .i64 0)),(.p (.int .i64 0)),(.p (.int .i64 0)),(.p (.int .i64 0))] h1 fun v2 h3 =>
 zL Tryz.prog (.p (.func zlo [])) [] fun v4 =>
 za 0 v0 fun v5 =>
 aLoad false 1 v5 h3 fun v6 =>
 zL Tryz.prog (.p (.func zff [])) [v4,v6] fun v7 =>
 zB v7 0 fun v8 =>
 zB v7 1 fun _ =>
 zj 11 v2 v8 h3 fun _ h11 =>
 za 2 v2 fun v12 =>
 aLoad false 1 v12 h11 fun v13 =>
 K v13 h11
def zsz:Nat→List Nat:=fun _=>[]
theorem zBr (x0:AV) (H:List Ob) (r:AV) (Ho:List Ob):aBody Tryz.prog zsz Tryz.f70 H [x0] r Ho=zxG x0 H (fun v H'=>Gives H.length v H' r Ho):=by kernel_rfl
theorem zBO {x0:AV} {r:AV} {Ho:List Ob} (h:zxG x0 [] (fun v H'=>Gives 0 v H' r Ho)):Abs.Fn Tryz.prog zrB [] [x0] r Ho :=
 zh mixed zsz (fn:=Tryz.f70) (by kernel_rfl) (by kernel_rfl) (by rw [zBr]; exact h)
def zlr (q1s1 q1s4 q1s9 q1s10 y0:AV) (H:List Ob) (B1:List AV→List Ob→Prop) (K:AV→List Ob→Prop):Prop :=
 aBin false false .lss y0 q1s10 fun v3 =>
 ze v3
 (zb 12 q1s9 y0 fun v4 =>
 aLoad true 12 v4 H fun v5 =>
 zy [(.p (.int .i64 0)),(.p (.bool false)),(.p (.bool false)),(.p (.bool false)),(.p (.int .i64 0)),(.p (.int .i64 0)),(.p (.int .i64 0)),(.p (.int .i64 0)),(.p (.int .i64 0)),(.p (.int .i64 0)),(.p (.int .i64 0)),(.p (.int .i64 0))] H fun v6 h7 =>
 zj 12 v6 v5 h7 fun _ h9 =>
 za 0 v6 fun v10 =>
 aLoad false 1 v10 h9 fun v11 =>
 aBin false false .eql v11 q1s1 fun v12 =>
 ze v12
 (za 1 v6 fun v13 =>
 aLoad true 11 v13 h9 fun v14 =>
 zj 11 q1s4 v14 h9 fun _ h16 =>
 aLoad true 11 q1s4 h16 fun v17 =>
 K (.tup [v17,(.p (.bool true))]) h16)
 (aBin false false .add y0 (.p (.int .i64 1)) fun v18 =>
 B1 [v18] h9))
 (zy [(.p (.bool false)),(.p (.bool false)),(.p (.bool false)),(.p (.int .i64 0)),(.p (.int .i64 0)),(.p (.int .i64 0)),(.p (.int .i64 0)),(.p (.int .i64 0)),(.p (.int .i64 0)),(.p (.int .i64 0)),(.p (.int .i64 0))] H fun v19 h20 =>
 aLoad true 11 v19 h20 fun v21 =>
 zj 11 q1s4 v21 h20 fun _ h23 =>
 aLoad true 11 q1s4 h23 fun v24 =>
 K (.tup [v24,(.p (.bool false))]) h23)
def zkq (x0 x1:AV) (H:List Ob) (K:AV→List Ob→Prop):Prop :=
 zy [(.p (.bool false)),(.p (.bool false)),(.p (.bool false)),(.p (.int .i64 0)),(.p (.int .i64 0)),(.p (.int .i64 0)),(.p (.int .i64 0)),(.p (.int .i64 0)),(.p (.int .i64 0)),(.p (.int .i64 0)),(.p (.int .i64 0))] H fun v0 h1 =>
 aLen false false x0 fun v2 =>
 zG 1 [(.p (.int .i64 0))] h1 fun xs H B1=>zlr x1 v0 x0 v2 (xs.getD 0 Z) H B1 K
def zk1:Nat→List Nat:=fun k=>match k with | 2=>[11] | _=>[]
theorem zsQ (x0 x1:AV) (H:List Ob) (r:AV) (Ho:List Ob):aBody Tryz.prog zk1 Tryz.f106 H [x0,x1] r Ho=zkq x0 x1 H (fun v H'=>Gives H.length v H' r Ho):=by kernel_rfl
theorem zs4 {x0 x1:AV} {r:AV} {Ho:List Ob} (h:zkq x0 x1 [] (fun v H'=>Gives 0 v H' r Ho)):Abs.Fn Tryz.prog zff [] [x0,x1] r Ho :=
 zh mixed zk1 (fn:=Tryz.f106) (by kernel_rfl) (by kernel_rfl) (by rw [zsQ]; exact h)
def ztT (H:List Ob) (K:AV→List Ob→Prop):Prop :=
 zr [(.p (.int .i64 0)),(.p (.int .i64 0))] [(0,1,(.p (.int .i64 1))),(1,1,(.p (.int .i64 1)))] fun v0 =>
 zy [(.p (.int .i64 0)),(.p (.int .i64 0))] H fun v1 h2 =>
 zj 2 v1 v0 h2 fun _ h4 =>
 zr [(.p (.bool false)),(.p (.bool false)),(.p (.bool false)),(.p (.int .i64 0)),(.p (.int .i64 0)),(.p (.int .i64 0)),(.p (.int .i64 0)),(.p (.int .i64 0)),(.p (.int .i64 0)),(.p (.int .i64 0)),(.p (.int .i64 0))] [(0,1,(.p (.bool true))),(1,1,(.p (.bool true)))] fun v5 =>
 zr [(.p (.int .i64 0)),(.p (.bool false)),(.p (.bool false)),(.p (.bool false)),(.p (.int .i64 0)),(.p (.int .i64 0)),(.p (.int .i64 0)),(.p (.int .i64 0)),(.p (.int .i64 0)),(.p (.int .i64 0)),(.p (.int .i64 0)),(.p (.int .i64 0))] [(0,1,(.p (.int .i64 1))),(1,11,v5)] fun v6 =>
 aLoad true 2 v1 h4 fun v7 =>
 aLoad true 2 v1 h4 fun v8 =>
 zr [(.p (.bool false)),(.p (.bool false)),(.p (.bool false)),(.p (.int .i64 0)),(.p (.int .i64 0)),(.p (.int .i64 0)),(.p (.int .i64 0)),(.p (.int .i64 0)),(.p (.int .i64 0)),(.p (.int .i64 0)),(.p (.int .i64 0))] [(3,2,v7),(5,2,v8)] fun v9 =>
 zr [(.p (.int .i64 0)),(.p (.bool false)),(.p (.bool false)),(.p (.bool false)),(.p (.int .i64 0)),(.p (.int .i64 0)),(.p (.int .i64 0)),(.p (.int .i64 0)),(.p (.int .i64 0)),(.p (.int .i64 0)),(.p (.int .i64 0)),(.p (.int .i64 0))] [(0,1,(.p (.int .i64 2))),(1,11,v9)] fun v10 =>
 aLoad true 2 v1 h4 fun v11 =>
 aLoad true 2 v1 h4 fun v12 =>
 zr [(.p (.bool false)),(.p (.bool false)),(.p (.bool false)),(.p (.int .i64 0)),(.p (.int .i64 0)),(.p (.int .i64 0)),(.p (.int .i64 0)),(.p (.int .i64 0)),(.p (.int .i64 0)),(.p (.int .i64 0)),(.p (.int .i64 0))] [(3,2,v11),(5,2,v12)] fun v13 =>
 zr [(.p (.int .i64 0)),(.p (.bool false)),(.p (.bool false)),(.p (.bool false)),(.p (.int .i64 0)),(.p (.int .i64 0)),(.p (.int .i64 0)),(.p (.int .i64 0)),(.p (.int .i64 0)),(.p (.int .i64 0)),(.p (.int .i64 0)),(.p (.int .i64 0))] [(0,1,(.p (.int .i64 3))),(1,11,v13)] fun v14 =>
 zr [(.p (.int .i64 0)),(.p (.int .i64 0))] [(0,1,(.p (.int .i64 1))),(1,1,(.p (.int .i64 4)))] fun v15 =>
 aLoad true 2 v1 h4 fun v16 =>
 zr [(.p (.bool false)),(.p (.bool false)),(.p (.bool false)),(.p (.int .i64 0)),(.p (.int .i64 0)),(.p (.int .i64 0)),(.p (.int .i64 0)),(.p (.int .i64 0)),(.p (.int .i64 0)),(.p (.int .i64 0)),(.p (.int .i64 0))] [(3,2,v15),(5,2,v16)] fun v17 =>
 zr [(.p (.int .i64 0)),(.p (.bool false)),(.p (.bool false)),(.p (.bool false)),(.p (.int .i64 0)),(.p (.int .i64 0)),(.p (.int .i64 0)),(.p (.int .i64 0)),(.p (.int .i64 0)),(.p (.int .i64 0)),(.p (.int .i64 0)),(.p (.int .i64 0))] [(0,1,(.p (.int .i64 4))),(1,11,v17)] fun v18 =>
 aLoad true 2 v1 h4 fun v19 =>
 aLoad true 2 v1 h4 fun v20 =>
 zr [(.p (.int .i64 0)),(.p (.int .i64 0))] [(0,1,(.p (.int .i64 1))),(1,1,(.p (.int .i64 4)))] fun v21 =>
 zr [(.p (.bool false)),(.p (.bool false)),(.p (.bool false)),(.p (.int .i64 0)),(.p (.int .i64 0)),(.p (.int .i64 0)),(.p (.int .i64 0)),(.p (.int .i64 0)),(.p (.int .i64 0)),(.p (.int .i64 0)),(.p (.int .i64 0))] [(2,1,(.p (.bool true))),(3,2,v19),(5,2,v20),(7,2,v21)] fun v22 =>
 zr [(.p (.int .i64 0)),(.p (.bool false)),(.p (.bool false)),(.p (.bool false)),(.p (.int .i64 0)),(.p (.int .i64 0)),(.p (.int .i64 0)),(.p (.int .i64 0)),(.p (.int .i64 0)),(.p (.int .i64 0)),(.p (.int .i64 0)),(.p (.int .i64 0))] [(0,1,(.p (.int .i64 5))),(1,11,v22)] fun v23 =>
 aLoad true 2 v1 h4 fun v24 =>
 zr [(.p (.int .i64 0)),(.p (.int .i64 0))] [(0,1,(.p (.int .i64 1))),(1,1,(.p (.int .i64 1000)))] fun v25 =>
 zr [(.p (.bool false)),(.p (.bool false)),(.p (.bool false)),(.p (.int .i64 0)),(.p (.int .i64 0)),(.p (.int .i64 0)),(.p (.int .i64 0)),(.p (.int .i64 0)),(.p (.int .i64 0)),(.p (.int .i64 0)),(.p (.int .i64 0))] [(2,1,(.p (.bool true))),(5,2,v24),(9,2,v25)] fun v26 =>
 zr [(.p (.int .i64 0)),(.p (.bool false)),(.p (.bool false)),(.p (.bool false)),(.p (.int .i64 0)),(.p (.int .i64 0)),(.p (.int .i64 0)),(.p (.int .i64 0)),(.p (.int .i64 0)),(.p (.int .i64 0)),(.p (.int .i64 0)),(.p (.int .i64 0))] [(0,1,(.p (.int .i64 6))),(1,11,v26)] fun v27 =>
 aLoad true 2 v1 h4 fun v28 =>
 zr [(.p (.bool false)),(.p (.bool false)),(.p (.bool false)),(.p (.int .i64 0)),(.p (.int .i64 0)),(.p (.int .i64 0)),(.p (.int .i64 0)),(.p (.int .i64 0)),(.p (.int .i64 0)),(.p (.int .i64 0)),(.p (.int .i64 0))] [(2,1,(.p (.bool true))),(5,2,v28)] fun v29 =>
 zr [(.p (.int .i64 0)),(.p (.bool false)),(.p (.bool false)),(.p (.bool false)),(.p (.int .i64 0)),(.p (.int .i64 0)),(.p (.int .i64 0)),(.p (.int .i64 0)),(.p (.int .i64 0)),(.p (.int .i64 0)),(.p (.int .i64 0)),(.p (.int .i64 0))] [(0,1,(.p (.int .i64 7))),(1,11,v29)] fun v30 =>
 zr [(.p (.int .i64 0)),(.p (.int .i64 0))] [(0,1,(.p (.int .i64 2))),(1,1,(.p (.int .i64 4)))] fun v31 =>
 zr [(.p (.bool false)),(.p (.bool false)),(.p (.bool false)),(.p (.int .i64 0)),(.p (.int .i64 0)),(.p (.int .i64 0)),(.p (.int .i64 0)),(.p (.int .i64 0)),(.p (.int .i64 0)),(.p (.int .i64 0)),(.p (.int .i64 0))] [(5,2,v31)] fun v32 =>
 zr [(.p (.int .i64 0)),(.p (.bool false)),(.p (.bool false)),(.p (.bool false)),(.p (.int .i64 0)),(.p (.int .i64 0)),(.p (.int .i64 0)),(.p (.int .i64 0)),(.p (.int .i64 0)),(.p (.int .i64 0)),(.p (.int .i64 0)),(.p (.int .i64 0))] [(0,1,(.p (.int .i64 8))),(1,11,v32)] fun v33 =>
 aLoad true 2 v1 h4 fun v34 =>
 zr [(.p (.bool false)),(.p (.bool false)),(.p (.bool false)),(.p (.int .i64 0)),(.p (.int .i64 0)),(.p (.int .i64 0)),(.p (.int .i64 0)),(.p (.int .i64 0)),(.p (.int .i64 0)),(.p (.int .i64 0)),(.p (.int .i64 0))] [(0,1,(.p (.bool true))),(5,2,v34)] fun v35 =>
 zr [(.p (.int .i64 0)),(.p (.bool false)),(.p (.bool false)),(.p (.bool false)),(.p (.int .i64 0)),(.p (.int .i64 0)),(.p (.int .i64 0)),(.p (.int .i64 0)),(.p (.int .i64 0)),(.p (.int .i64 0)),(.p (.int .i64 0)),(.p (.int .i64 0))] [(0,1,(.p (.int .i64 9))),(1,11,v35)] fun v36 =>
 zn 12 [v6,v10,v14,v18,v23,v27,v30,v33,v36] fun v37 =>
 K v37 h4
def zrh:Nat→List Nat:=fun _=>[]
theorem zy2 (H:List Ob) (r:AV) (Ho:List Ob):aBody Tryz.prog zrh Tryz.f107 H [] r Ho=ztT H (fun v H'=>Gives H.length v H' r Ho):=by kernel_rfl
theorem zzP {r:AV} {Ho:List Ob} (h:ztT [] (fun v H'=>Gives 0 v H' r Ho)):Abs.Fn Tryz.prog zlo [] [] r Ho :=
 zh mixed zrh (fn:=Tryz.f107) (by kernel_rfl) (by kernel_rfl) (by rw [zy2]; exact h)
def zuJ (q1s2 q1s3 q1s20 q1s21 y0 y1:AV) (H:List Ob) (B1:List AV→List Ob→Prop) (K:AV→List Ob→Prop):Prop :=
 aBin false false .lss y1 q1s21 fun v16 =>
 ze v16
 (zb 8 q1s20 y1 fun v17 =>
 aLoad true 8 v17 H fun v18 =>
 zy [(.p (.str [])),(.p (.int .i64 0)),(.p (.int .i64 0)),(.p (.bool false)),(.p (.str [])),(.full []),(.p (.int .i64 0)),(.full [])] H fun v19 h20 =>
 zj 8 v19 v18 h20 fun _ h22 =>
 aLoad true 8 v19 h22 fun v23 =>
 aLoad true 5 q1s3 h22 fun v24 =>
 aCall Tryz.prog (.p (.func zgR [])) [v23,v24] h22 fun v25 h26 =>
 zB v25 0 fun v27 =>
 zB v25 1 fun v28 =>
 zy [(.p (.int .i64 0)),(.p (.int .i64 0)),(.p (.bool false)),(.p (.str [])),(.full [])] h26 fun v29 h30 =>
 zj 5 v29 v27 h30 fun _ h32 =>
 aBin false false .neq v28 (.p (.int .i64 0)) fun v33 =>
 ze v33
 (K (.tup [(.full []),v28]) h32)
 (aLoad true 5 v29 h32 fun v34 =>
 zn 5 [v34] fun v35 =>
 zI false 5 64 y0 v35 h32 fun v36 h37 =>
 aBin false false .add y1 (.p (.int .i64 1)) fun v38 =>
 B1 [v36,v38] h37))
 (za 0 q1s2 fun v39 =>
 aLoad false 1 v39 H fun v40 =>
 aBin false false .eql v40 (.p (.int .i64 3)) fun v41 =>
 ze v41
 (zb 5 y0 (.p (.int .i64 0)) fun v42 =>
 za 2 v42 fun v43 =>
 aLoad false 1 v43 H fun v44 =>
 aUn .not v44 fun v45 =>
 ze v45
 (K (.tup [(.full []),(.p (.int .i64 0))]) H)
 (aLoad true 5 q1s3 H fun v46 =>
 zn 5 [v46] fun v47 =>
 K (.tup [v47,(.p (.int .i64 0))]) H))
 (K (.tup [y0,(.p (.int .i64 0))]) H))
def zxC (x0 x1:AV) (H:List Ob) (K:AV→List Ob→Prop):Prop :=
 aBox x0 H fun v0 h1 =>
 aBox x1 h1 fun v2 h3 =>
 za 0 v0 fun v4 =>
 aLoad false 1 v4 h3 fun v5 =>
 aBin false false .eql v5 (.p (.int .i64 2)) fun v6 =>
 zl false v6 (fun Q7 =>
 aBin false false .eql v5 (.p (.int .i64 3)) fun v8 =>
 zl false v8 (fun Q9 =>
 aBin false false .eql v5 (.p (.int .i64 4)) fun v10 =>
 (h3=h3∧Q9 v10)) fun v11 =>
 (h3=h3∧Q7 v11)) fun v12 =>
 ze v12
 (za 4 v0 fun v13 =>
 aLoad false 1 v13 h3 fun v14 =>
 aLen false false v14 fun v15 =>
 zG 2 [(.full []),(.p (.int .i64 0))] h3 fun xs H B1=>zuJ v0 v2 v14 v15 (xs.getD 0 Z) (xs.getD 1 Z) H B1 K)
 (aLoad true 5 v2 h3 fun v48 =>
 zn 5 [v48] fun v49 =>
 K (.tup [v49,(.p (.int .i64 0))]) h3)
def zsZ:Nat→List Nat:=fun k=>match k with | 8=>[6,22] | 1000005=>[1] | 1000004=>[1] | _=>[]
theorem zAU (x0 x1:AV) (H:List Ob) (r:AV) (Ho:List Ob):aBody Tryz.prog zsZ Tryz.f114 H [x0,x1] r Ho=zxC x0 x1 H (fun v H'=>Gives H.length v H' r Ho):=by kernel_rfl
theorem zAI {x0 x1:AV} {r:AV} {Ho:List Ob} (h:zxC x0 x1 [] (fun v H'=>Gives 0 v H' r Ho)):Abs.Fn Tryz.prog zrI [] [x0,x1] r Ho :=
 zh mixed zsZ (fn:=Tryz.f114) (by kernel_rfl) (by kernel_rfl) (by rw [zAU]; exact h)
def zvP (q1s0 q1s6 q1s7 y0:AV) (H:List Ob) (B1:List AV→List Ob→Prop) (K:AV→List Ob→Prop):Prop :=
 aBin false false .lss y0 q1s7 fun v2 =>
 ze v2
 (zb 1 q1s6 y0 fun v3 =>
 aLoad false 1 v3 H fun v4 =>
 aBin false false .geq v4 (.p (.int .u8 97)) fun v5 =>
 zl true v5 (fun Q6 =>
 aBin false false .leq v4 (.p (.int .u8 122)) fun v7 =>
 (H=H∧Q6 v7)) fun v8 =>
 zl false v8 (fun Q9 =>
 aBin false false .gtr y0 (.p (.int .i64 0)) fun v10 =>
 zl true v10 (fun Q11 =>
 aBin false false .geq v4 (.p (.int .u8 48)) fun v12 =>
 zl true v12 (fun Q13 =>
 aBin false false .leq v4 (.p (.int .u8 57)) fun v14 =>
 (H=H∧Q13 v14)) fun v15 =>
 zl false v15 (fun Q16 =>
 aBin false false .eql v4 (.p (.int .u8 95)) fun v17 =>
 (H=H∧Q16 v17)) fun v18 =>
 (H=H∧Q11 v18)) fun v19 =>
 (H=H∧Q9 v19)) fun v20 =>
 aUn .not v20 fun v21 =>
 ze v21
 (K (.p (.bool false)) H)
 (aBin false false .add y0 (.p (.int .i64 1)) fun v22 =>
 B1 [v22] H))
 (aBin false false .neq q1s0 (.p (.str [])) fun v23 =>
 zl true v23 (fun Q24 =>
 aLenS true q1s0 fun v25 =>
 aBin false false .leq v25 (.p (.int .i64 16)) fun v26 =>
 (H=H∧Q24 v26)) fun v27 =>
 K v27 H)
def zzs (x0:AV) (H:List Ob) (K:AV→List Ob→Prop):Prop :=
 zqm x0 fun v0 =>
 aLen false false v0 fun v1 =>
 zG 1 [(.p (.int .i64 0))] H fun xs H B1=>zvP x0 v0 v1 (xs.getD 0 Z) H B1 K
def zun:Nat→List Nat:=fun k=>match k with | 2=>[8] | _=>[]
theorem zCS (x0:AV) (H:List Ob) (r:AV) (Ho:List Ob):aBody Tryz.prog zun Tryz.f126 H [x0] r Ho=zzs x0 H (fun v H'=>Gives H.length v H' r Ho):=by kernel_rfl
theorem zCf {x0:AV} {r:AV} {Ho:List Ob} (h:zzs x0 [] (fun v H'=>Gives 0 v H' r Ho)):Abs.Fn Tryz.prog zmt [] [x0] r Ho :=
 zh mixed zun (fn:=Tryz.f126) (by kernel_rfl) (by kernel_rfl) (by rw [zCS]; exact h)
def zh8 (j2s1 j2s2 j2s4 j2s8 j2s10:AV) (H:List Ob) (K:AV→List Ob→Prop):Prop :=
 aLoad true 15 j2s2 H fun v61 =>
 aCall Tryz.prog (.p (.func zm1 [])) [v61,j2s10,j2s1] H fun v62 h63 =>
 aUn .not v62 fun v64 =>
 ze v64
 (zr [(.p (.int .i64 0)),(.full [])] [] fun v65 =>
 zj 2 j2s4 v65 h63 fun _ h67 =>
 aLoad true 2 j2s4 h67 fun v68 =>
 K (.tup [v68,(.p (.int .i64 5))]) h67)
 (aLoad true 15 j2s2 h63 fun v69 =>
 aLoad true 2 j2s8 h63 fun v70 =>
 aCall Tryz.prog (.p (.func zm5 [])) [v69,v70,j2s10,j2s1] h63 fun v71 h72 =>
 zy [(.p (.int .i64 0)),(.full [])] h72 fun v73 h74 =>
 zj 2 v73 v71 h74 fun _ h76 =>
 aLoad true 2 v73 h76 fun v77 =>
 aCall Tryz.prog (.p (.func zgQ [])) [v77] h76 fun v78 h79 =>
 aBin false false .neq v78 (.p (.int .i64 0)) fun v80 =>
 ze v80
 (zr [(.p (.int .i64 0)),(.full [])] [] fun v81 =>
 zj 2 j2s4 v81 h79 fun _ h83 =>
 aLoad true 2 j2s4 h83 fun v84 =>
 K (.tup [v84,v78]) h83)
 (aLoad true 2 v73 h79 fun v85 =>
 zj 2 j2s4 v85 h79 fun _ h87 =>
 aLoad true 2 j2s4 h87 fun v88 =>
 K (.tup [v88,(.p (.int .i64 0))]) h87))
def zp5 (j1s1 j1s2 j1s4 j1s8:AV) (H:List Ob) (K:AV→List Ob→Prop):Prop :=
 za 4 j1s2 fun v89 =>
 aLoad false 1 v89 H fun v90 =>
 aLen false false v90 fun v91 =>
 aBin false false .gtr v91 (.p (.int .i64 0)) fun v92 =>
 ze v92
 (aLoad true 15 j1s2 H fun v93 =>
 zb 2 j1s1 (.p (.int .i64 0)) fun v94 =>
 aLoad true 2 v94 H fun v95 =>
 zL Tryz.prog (.p (.func zsg [])) [v93,v95] fun v96 =>
 zB v96 0 fun v97 =>
 zB v96 1 fun v98 =>
 aBin false false .neq v98 (.p (.int .i64 0)) fun v99 =>
 ze v99
 (zr [(.p (.int .i64 0)),(.full [])] [] fun v100 =>
 zj 2 j1s4 v100 H fun _ h102 =>
 aLoad true 2 j1s4 h102 fun v103 =>
 K (.tup [v103,v98]) h102)
 (zh8 j1s1 j1s2 j1s4 j1s8 v97 H K))
 (zh8 j1s1 j1s2 j1s4 j1s8 (.full []) H K)
def zDj (x0 x1:AV) (H:List Ob) (K:AV→List Ob→Prop):Prop :=
 aBox x0 H fun v0 h1 =>
 zy [(.p (.int .i64 0)),(.full [])] h1 fun v2 h3 =>
 zy [(.p (.bool false)),(.p (.bool false)),(.p (.bool false)),(.p (.int .i64 0)),(.p (.int .i64 0)),(.p (.int .i64 0)),(.p (.int .i64 0)),(.p (.int .i64 0)),(.p (.int .i64 0)),(.p (.int .i64 0)),(.p (.int .i64 0))] h3 fun v4 h5 =>
 zL Tryz.prog (.p (.func zlo [])) [] fun v6 =>
 za 0 v0 fun v7 =>
 aLoad false 1 v7 h5 fun v8 =>
 zL Tryz.prog (.p (.func zff [])) [v6,v8] fun v9 =>
 zB v9 0 fun v10 =>
 zB v9 1 fun v11 =>
 zj 11 v4 v10 h5 fun _ h13 =>
 aUn .not v11 fun v14 =>
 zl false v14 (fun Q15 =>
 za 0 v4 fun v16 =>
 aLoad false 1 v16 h13 fun v17 =>
 zl true v17 (fun Q18 =>
 za 1 v0 fun v19 =>
 aLoad false 1 v19 h13 fun v20 =>
 aCall Tryz.prog (.p (.func zmt [])) [v20] h13 fun v21 h22 =>
 aUn .not v21 fun v23 =>
 (h22=h13∧Q18 v23)) fun v24 =>
 (h13=h13∧Q15 v24)) fun v25 =>
 ze v25
 (zr [(.p (.int .i64 0)),(.full [])] [] fun v26 =>
 zj 2 v2 v26 h13 fun _ h28 =>
 aLoad true 2 v2 h28 fun v29 =>
 K (.tup [v29,(.p (.int .i64 6))]) h28)
 (aLoad true 15 v0 h13 fun v30 =>
 aLoad true 11 v4 h13 fun v31 =>
 aLen false false x1 fun v32 =>
 aCall Tryz.prog (.p (.func zks [])) [v30,v31,v32] h13 fun v33 h34 =>
 aUn .not v33 fun v35 =>
 ze v35
 (zr [(.p (.int .i64 0)),(.full [])] [] fun v36 =>
 zj 2 v2 v36 h34 fun _ h38 =>
 aLoad true 2 v2 h38 fun v39 =>
 K (.tup [v39,(.p (.int .i64 1))]) h38)
 (aCall Tryz.prog (.p (.func zmZ [])) [x1] h34 fun v40 h41 =>
 aUn .not v40 fun v42 =>
 zl false v42 (fun Q43 =>
 za 1 v4 fun v44 =>
 aLoad false 1 v44 h41 fun v45 =>
 zl true v45 (fun Q46 =>
 za 2 v0 fun v47 =>
 aLoad true 2 v47 h41 fun v48 =>
 zn 2 [v48] fun v49 =>
 aCall Tryz.prog (.p (.func zmZ [])) [v49] h41 fun v50 h51 =>
 aUn .not v50 fun v52 =>
 (h51=h41∧Q46 v52)) fun v53 =>
 (h41=h41∧Q43 v53)) fun v54 =>
 ze v54
 (zr [(.p (.int .i64 0)),(.full [])] [] fun v55 =>
 zj 2 v2 v55 h41 fun _ h57 =>
 aLoad true 2 v2 h57 fun v58 =>
 K (.tup [v58,(.p (.int .i64 5))]) h57)
 (zy [(.p (.int .i64 0)),(.full [])] h41 fun v59 h60 =>
 za 2 v4 fun v104 =>
 aLoad false 1 v104 h60 fun v105 =>
 ze v105
 (za 5 v0 fun v106 =>
 aLoad true 8 v106 h60 fun v107 =>
 zb 2 x1 (.p (.int .i64 0)) fun v108 =>
 aLoad true 2 v108 h60 fun v109 =>
 zL Tryz.prog (.p (.func zjU [])) [v107,v109] fun v110 =>
 zB v110 0 fun v111 =>
 zB v110 1 fun v112 =>
 zj 2 v59 v111 h60 fun _ h114 =>
 aBin false false .neq v112 (.p (.int .i64 0)) fun v115 =>
 ze v115
 (zr [(.p (.int .i64 0)),(.full [])] [] fun v116 =>
 zj 2 v2 v116 h114 fun _ h118 =>
 aLoad true 2 v2 h118 fun v119 =>
 K (.tup [v119,v112]) h118)
 (zp5 x1 v0 v2 v59 h114 K))
 (zp5 x1 v0 v2 v59 h60 K))))
def zxB:Nat→List Nat:=fun k=>match k with | 1000003=>[1] | 1000008=>[1] | _=>[]
theorem zEt (x0 x1:AV) (H:List Ob) (r:AV) (Ho:List Ob):aBody Tryz.prog zxB Tryz.f129 H [x0,x1] r Ho=zDj x0 x1 H (fun v H'=>Gives H.length v H' r Ho):=by kernel_rfl
theorem zD8 {x0 x1:AV} {r:AV} {Ho:List Ob} (h:zDj x0 x1 [] (fun v H'=>Gives 0 v H' r Ho)):Abs.Fn Tryz.prog zxk [] [x0,x1] r Ho :=
 zh mixed zxB (fn:=Tryz.f129) (by kernel_rfl) (by kernel_rfl) (by rw [zEt]; exact h)
def znn (x0 x1 x2:AV) (H:List Ob) (K:AV→List Ob→Prop):Prop :=
 aBox x0 H fun v0 h1 =>
 aBox x1 h1 fun v2 h3 =>
 za 0 v2 fun v4 =>
 aLoad false 1 v4 h3 fun v5 =>
 zl false v5 (fun Q6 =>
 za 1 v0 fun v7 =>
 aLoad false 1 v7 h3 fun v8 =>
 aBin false false .eql v8 (.p (.str [])) fun v9 =>
 (h3=h3∧Q6 v9)) fun v10 =>
 zl true v10 (fun Q11 =>
 za 1 v2 fun v12 =>
 aLoad false 1 v12 h3 fun v13 =>
 zl false v13 (fun Q14 =>
 za 2 v0 fun v15 =>
 za 0 v15 fun v16 =>
 aLoad false 1 v16 h3 fun v17 =>
 aBin false false .eql v17 (.p (.int .i64 0)) fun v18 =>
 zl true v18 (fun Q19 =>
 za 2 v0 fun v20 =>
 za 1 v20 fun v21 =>
 aLoad false 1 v21 h3 fun v22 =>
 aLenS false v22 fun v23 =>
 aBin false false .eql v23 (.p (.int .i64 0)) fun v24 =>
 (h3=h3∧Q19 v24)) fun v25 =>
 (h3=h3∧Q14 v25)) fun v26 =>
 (h3=h3∧Q11 v26)) fun v27 =>
 zl true v27 (fun Q28 =>
 za 2 v2 fun v29 =>
 aLoad false 1 v29 h3 fun v30 =>
 zl false v30 (fun Q31 =>
 za 5 v0 fun v32 =>
 aLoad true 8 v32 h3 fun v33 =>
 aCall Tryz.prog (.p (.func znw [])) [v33] h3 fun v34 h35 =>
 (h35=h3∧Q31 v34)) fun v36 =>
 (h3=h3∧Q28 v36)) fun v37 =>
 zl true v37 (fun Q38 =>
 za 3 v2 fun v39 =>
 aLoad true 2 v39 h3 fun v40 =>
 za 4 v0 fun v41 =>
 aLoad false 1 v41 h3 fun v42 =>
 aLenS false v42 fun v43 =>
 aCall Tryz.prog (.p (.func zfg [])) [v40,v43] h3 fun v44 h45 =>
 (h45=h3∧Q38 v44)) fun v46 =>
 zl true v46 (fun Q47 =>
 za 7 v2 fun v48 =>
 aLoad true 2 v48 h3 fun v49 =>
 za 13 v0 fun v50 =>
 aLoad false 1 v50 h3 fun v51 =>
 aCall Tryz.prog (.p (.func zfg [])) [v49,v51] h3 fun v52 h53 =>
 (h53=h3∧Q47 v52)) fun v54 =>
 zl true v54 (fun Q55 =>
 za 9 v2 fun v56 =>
 aLoad true 2 v56 h3 fun v57 =>
 za 14 v0 fun v58 =>
 aLoad false 1 v58 h3 fun v59 =>
 aCall Tryz.prog (.p (.func zfg [])) [v57,v59] h3 fun v60 h61 =>
 (h61=h3∧Q55 v60)) fun v62 =>
 zl true v62 (fun Q63 =>
 za 5 v2 fun v64 =>
 aLoad true 2 v64 h3 fun v65 =>
 aCall Tryz.prog (.p (.func zfg [])) [v65,x2] h3 fun v66 h67 =>
 (h67=h3∧Q63 v66)) fun v68 =>
 K v68 h3
def zmp:Nat→List Nat:=fun _=>[]
theorem zu9 (x0 x1 x2:AV) (H:List Ob) (r:AV) (Ho:List Ob):aBody Tryz.prog zmp Tryz.f161 H [x0,x1,x2] r Ho=znn x0 x1 x2 H (fun v H'=>Gives H.length v H' r Ho):=by kernel_rfl
theorem zu1 {x0 x1 x2:AV} {r:AV} {Ho:List Ob} (h:znn x0 x1 x2 [] (fun v H'=>Gives 0 v H' r Ho)):Abs.Fn Tryz.prog zks [] [x0,x1,x2] r Ho :=
 zh mixed zmp (fn:=Tryz.f161) (by kernel_rfl) (by kernel_rfl) (by rw [zu9]; exact h)
def zup (q1s5 q1s6 y0:AV) (H:List Ob) (B1:List AV→List Ob→Prop) (K:AV→List Ob→Prop):Prop :=
 aBin false false .lss y0 q1s6 fun v1 =>
 ze v1
 (zb 2 q1s5 y0 fun v2 =>
 aLoad true 2 v2 H fun v3 =>
 zy [(.p (.int .i64 0)),(.full [])] H fun v4 h5 =>
 zj 2 v4 v3 h5 fun _ h7 =>
 aLoad true 2 v4 h7 fun v8 =>
 aCall Tryz.prog (.p (.func zgQ [])) [v8] h7 fun v9 h10 =>
 aBin false false .neq v9 (.p (.int .i64 0)) fun v11 =>
 ze v11
 (K (.p (.bool false)) h10)
 (aBin false false .add y0 (.p (.int .i64 1)) fun v12 =>
 B1 [v12] h10))
 (K (.p (.bool true)) H)
def zv3 (x0:AV) (H:List Ob) (K:AV→List Ob→Prop):Prop :=
 aLen false false x0 fun v0 =>
 zG 1 [(.p (.int .i64 0))] H fun xs H B1=>zup x0 v0 (xs.getD 0 Z) H B1 K
def zsF:Nat→List Nat:=fun k=>match k with | 2=>[7] | _=>[]
theorem zBN (x0:AV) (H:List Ob) (r:AV) (Ho:List Ob):aBody Tryz.prog zsF Tryz.f162 H [x0] r Ho=zv3 x0 H (fun v H'=>Gives H.length v H' r Ho):=by kernel_rfl
theorem zAZ {x0:AV} {r:AV} {Ho:List Ob} (h:zv3 x0 [] (fun v H'=>Gives 0 v H' r Ho)):Abs.Fn Tryz.prog zmZ [] [x0] r Ho :=
 zh mixed zsF (fn:=Tryz.f162) (by kernel_rfl) (by kernel_rfl) (by rw [zBN]; exact h)
def zuF (q1s3 q1s12 q1s13 y0 y1:AV) (H:List Ob) (B1:List AV→List Ob→Prop) (K:AV→List Ob→Prop):Prop :=
 aBin false false .lss y1 q1s13 fun v7 =>
 ze v7
 (zb 8 q1s12 y1 fun v8 =>
 aLoad true 8 v8 H fun v9 =>
 zy [(.p (.str [])),(.p (.int .i64 0)),(.p (.int .i64 0)),(.p (.bool false)),(.p (.str [])),(.full []),(.p (.int .i64 0)),(.full [])] H fun v10 h11 =>
 zj 8 v10 v9 h11 fun _ h13 =>
 aLoad true 8 v10 h13 fun v14 =>
 aLoad true 2 q1s3 h13 fun v15 =>
 aCall Tryz.prog (.p (.func zjU [])) [v14,v15] h13 fun v16 h17 =>
 zB v16 0 fun v18 =>
 zB v16 1 fun v19 =>
 zy [(.p (.int .i64 0)),(.full [])] h17 fun v20 h21 =>
 zj 2 v20 v18 h21 fun _ h23 =>
 aBin false false .neq v19 (.p (.int .i64 0)) fun v24 =>
 ze v24
 (K (.tup [(.full []),v19]) h23)
 (aLoad true 2 v20 h23 fun v25 =>
 zn 2 [v25] fun v26 =>
 zI false 2 32 y0 v26 h23 fun v27 h28 =>
 aBin false false .add y1 (.p (.int .i64 1)) fun v29 =>
 B1 [v27,v29] h28))
 (K (.tup [y0,(.p (.int .i64 0))]) H)
def zvU (x0 x1:AV) (H:List Ob) (K:AV→List Ob→Prop):Prop :=
 aBox x0 H fun v0 h1 =>
 aBox x1 h1 fun v2 h3 =>
 za 4 v0 fun v4 =>
 aLoad false 1 v4 h3 fun v5 =>
 aLen false false v5 fun v6 =>
 zG 2 [(.full []),(.p (.int .i64 0))] h3 fun xs H B1=>zuF v2 v5 v6 (xs.getD 0 Z) (xs.getD 1 Z) H B1 K
def zsO:Nat→List Nat:=fun k=>match k with | 3=>[6,14] | _=>[]
theorem zAH (x0 x1:AV) (H:List Ob) (r:AV) (Ho:List Ob):aBody Tryz.prog zsO Tryz.f164 H [x0,x1] r Ho=zvU x0 x1 H (fun v H'=>Gives H.length v H' r Ho):=by kernel_rfl
theorem zBt {x0 x1:AV} {r:AV} {Ho:List Ob} (h:zvU x0 x1 [] (fun v H'=>Gives 0 v H' r Ho)):Abs.Fn Tryz.prog zsg [] [x0,x1] r Ho :=
 zh mixed zsO (fn:=Tryz.f164) (by kernel_rfl) (by kernel_rfl) (by rw [zAH]; exact h)
def zry (x0 x1 x2:AV) (H:List Ob) (K:AV→List Ob→Prop):Prop :=
 aBox x0 H fun v0 h1 =>
 za 0 v0 fun v2 =>
 aLoad false 1 v2 h1 fun v3 =>
 aBin false false .eql v3 (.p (.int .i64 3)) fun v4 =>
 ze v4
 (zb 2 x1 (.p (.int .i64 0)) fun v5 =>
 za 0 v5 fun v6 =>
 aLoad false 1 v6 h1 fun v7 =>
 aBin false false .eql v7 (.p (.int .i64 2)) fun v8 =>
 K v8 h1)
 (aBin false false .eql v3 (.p (.int .i64 4)) fun v9 =>
 ze v9
 (aCall Tryz.prog (.p (.func znu [])) [x1] h1 fun v10 h11 =>
 K v10 h11)
 (aBin false false .eql v3 (.p (.int .i64 5)) fun v12 =>
 ze v12
 (zb 2 x1 (.p (.int .i64 0)) fun v13 =>
 za 0 v13 fun v14 =>
 aLoad false 1 v14 h1 fun v15 =>
 aBin false false .eql v15 (.p (.int .i64 1)) fun v16 =>
 K v16 h1)
 (aBin false false .eql v3 (.p (.int .i64 8)) fun v17 =>
 ze v17
 (aCall Tryz.prog (.p (.func znu [])) [x2] h1 fun v18 h19 =>
 K v18 h19)
 (K (.p (.bool true)) h1))))
def zpj:Nat→List Nat:=fun _=>[]
theorem zye (x0 x1 x2:AV) (H:List Ob) (r:AV) (Ho:List Ob):aBody Tryz.prog zpj Tryz.f165 H [x0,x1,x2] r Ho=zry x0 x1 x2 H (fun v H'=>Gives H.length v H' r Ho):=by kernel_rfl
theorem zxW {x0 x1 x2:AV} {r:AV} {Ho:List Ob} (h:zry x0 x1 x2 [] (fun v H'=>Gives 0 v H' r Ho)):Abs.Fn Tryz.prog zm1 [] [x0,x1,x2] r Ho :=
 zh mixed zpj (fn:=Tryz.f165) (by kernel_rfl) (by kernel_rfl) (by rw [zye]; exact h)
def zr2 (x0 x1 x2 x3:AV) (H:List Ob) (K:AV→List Ob→Prop):Prop :=
 aBox x0 H fun v0 h1 =>
 aBox x1 h1 fun v2 h3 =>
 zy [(.p (.int .i64 0)),(.full [])] h3 fun v4 h5 =>
 za 0 v0 fun v6 =>
 aLoad false 1 v6 h5 fun v7 =>
 aBin false false .eql v7 (.p (.int .i64 1)) fun v8 =>
 ze v8
 (za 2 v0 fun v9 =>
 aLoad true 2 v9 h5 fun v10 =>
 zj 2 v4 v10 h5 fun _ h12 =>
 aLoad true 2 v4 h12 fun v13 =>
 K v13 h12)
 (aBin false false .eql v7 (.p (.int .i64 2)) fun v14 =>
 zl false v14 (fun Q15 =>
 aBin false false .eql v7 (.p (.int .i64 4)) fun v16 =>
 (h5=h5∧Q15 v16)) fun v17 =>
 ze v17
 (zb 2 x2 (.p (.int .i64 0)) fun v18 =>
 aLoad true 2 v18 h5 fun v19 =>
 zj 2 v4 v19 h5 fun _ h21 =>
 aLoad true 2 v4 h21 fun v22 =>
 K v22 h21)
 (aBin false false .eql v7 (.p (.int .i64 5)) fun v23 =>
 zl false v23 (fun Q24 =>
 aBin false false .eql v7 (.p (.int .i64 6)) fun v25 =>
 (h5=h5∧Q24 v25)) fun v26 =>
 ze v26
 (aLoad true 2 v2 h5 fun v27 =>
 zr [(.p (.int .i64 0)),(.full [])] [(0,1,(.p (.int .i64 1)))] fun v28 =>
 zn 2 [v27,v28] fun v29 =>
 zr [(.p (.int .i64 0)),(.full [])] [(0,1,(.p (.int .i64 4))),(1,1,v29)] fun v30 =>
 zj 2 v4 v30 h5 fun _ h32 =>
 aLoad true 2 v4 h32 fun v33 =>
 K v33 h32)
 (aBin false false .eql v7 (.p (.int .i64 7)) fun v34 =>
 ze v34
 (aLoad true 2 v2 h5 fun v35 =>
 zj 2 v4 v35 h5 fun _ h37 =>
 aLoad true 2 v4 h37 fun v38 =>
 K v38 h37)
 (zb 2 x3 (.p (.int .i64 0)) fun v39 =>
 aLoad true 2 v39 h5 fun v40 =>
 zj 2 v4 v40 h5 fun _ h42 =>
 aLoad true 2 v4 h42 fun v43 =>
 K v43 h42))))
def zow:Nat→List Nat:=fun k=>match k with | 1000005=>[1] | 1000008=>[1] | _=>[]
theorem zx8 (x0 x1 x2 x3:AV) (H:List Ob) (r:AV) (Ho:List Ob):aBody Tryz.prog zow Tryz.f166 H [x0,x1,x2,x3] r Ho=zr2 x0 x1 x2 x3 H (fun v H'=>Gives H.length v H' r Ho):=by kernel_rfl
theorem zxU {x0 x1 x2 x3:AV} {r:AV} {Ho:List Ob} (h:zr2 x0 x1 x2 x3 [] (fun v H'=>Gives 0 v H' r Ho)):Abs.Fn Tryz.prog zm5 [] [x0,x1,x2,x3] r Ho :=
 zh mixed zow (fn:=Tryz.f166) (by kernel_rfl) (by kernel_rfl) (by rw [zx8]; exact h)
def zrA (x0:AV) (H:List Ob) (K:AV→List Ob→Prop):Prop :=
 aBox x0 H fun v0 h1 =>
 za 0 v0 fun v2 =>
 aLoad false 1 v2 h1 fun v3 =>
 aBin false false .eql v3 (.p (.str [])) fun v4 =>
 zl true v4 (fun Q5 =>
 za 1 v0 fun v6 =>
 aLoad true 5 v6 h1 fun v7 =>
 zr [(.p (.int .i64 0)),(.p (.int .i64 0)),(.p (.bool false)),(.p (.str [])),(.full [])] [] fun v8 =>
 aCall Tryz.prog (.p (.func zgr [])) [v7,v8] h1 fun v9 h10 =>
 (h10=h1∧Q5 v9)) fun v11 =>
 zl true v11 (fun Q12 =>
 za 6 v0 fun v13 =>
 aLoad false 1 v13 h1 fun v14 =>
 aBin false false .eql v14 (.p (.int .i64 0)) fun v15 =>
 (h1=h1∧Q12 v15)) fun v16 =>
 zl true v16 (fun Q17 =>
 za 7 v0 fun v18 =>
 aLoad false 1 v18 h1 fun v19 =>
 aLenS false v19 fun v20 =>
 aBin false false .eql v20 (.p (.int .i64 0)) fun v21 =>
 (h1=h1∧Q17 v21)) fun v22 =>
 K v22 h1
def zoQ:Nat→List Nat:=fun _=>[]
theorem zx2 (x0:AV) (H:List Ob) (r:AV) (Ho:List Ob):aBody Tryz.prog zoQ Tryz.f189 H [x0] r Ho=zrA x0 H (fun v H'=>Gives H.length v H' r Ho):=by kernel_rfl
theorem zxX {x0:AV} {r:AV} {Ho:List Ob} (h:zrA x0 [] (fun v H'=>Gives 0 v H' r Ho)):Abs.Fn Tryz.prog znw [] [x0] r Ho :=
 zh mixed zoQ (fn:=Tryz.f189) (by kernel_rfl) (by kernel_rfl) (by rw [zx2]; exact h)
def zsh (x0 x1:AV) (H:List Ob) (K:AV→List Ob→Prop):Prop :=
 aBox x0 H fun v0 h1 =>
 za 0 v0 fun v2 =>
 aLoad false 1 v2 h1 fun v3 =>
 aBin false false .geq x1 v3 fun v4 =>
 zl true v4 (fun Q5 =>
 za 1 v0 fun v6 =>
 aLoad false 1 v6 h1 fun v7 =>
 aBin false false .leq x1 v7 fun v8 =>
 (h1=h1∧Q5 v8)) fun v9 =>
 K v9 h1
def zpz:Nat→List Nat:=fun _=>[]
theorem zxM (x0 x1:AV) (H:List Ob) (r:AV) (Ho:List Ob):aBody Tryz.prog zpz Tryz.f190 H [x0,x1] r Ho=zsh x0 x1 H (fun v H'=>Gives H.length v H' r Ho):=by kernel_rfl
theorem zxZ {x0 x1:AV} {r:AV} {Ho:List Ob} (h:zsh x0 x1 [] (fun v H'=>Gives 0 v H' r Ho)):Abs.Fn Tryz.prog zfg [] [x0,x1] r Ho :=
 zh mixed zpz (fn:=Tryz.f190) (by kernel_rfl) (by kernel_rfl) (by rw [zxM]; exact h)
def zuy (q1s0 q1s5 q1s6 y0:AV) (H:List Ob) (B1:List AV→List Ob→Prop) (K:AV→List Ob→Prop):Prop :=
 aBin false false .lss y0 q1s6 fun v1 =>
 ze v1
 (zb 2 q1s5 y0 fun v2 =>
 aLoad true 2 v2 H fun v3 =>
 zy [(.p (.int .i64 0)),(.full [])] H fun v4 h5 =>
 zj 2 v4 v3 h5 fun _ h7 =>
 aLoad true 2 v4 h7 fun v8 =>
 zb 2 q1s0 (.p (.int .i64 0)) fun v9 =>
 aLoad true 2 v9 h7 fun v10 =>
 zL Tryz.prog (.p (.func zgq [])) [v8,v10] fun v11 =>
 aUn .not v11 fun v12 =>
 ze v12
 (K (.p (.bool false)) h7)
 (aBin false false .add y0 (.p (.int .i64 1)) fun v13 =>
 B1 [v13] h7))
 (K (.p (.bool true)) H)
def zvG (x0:AV) (H:List Ob) (K:AV→List Ob→Prop):Prop :=
 aLen false false x0 fun v0 =>
 zG 1 [(.p (.int .i64 0))] H fun xs H B1=>zuy x0 x0 v0 (xs.getD 0 Z) H B1 K
def zsr:Nat→List Nat:=fun k=>match k with | 2=>[7] | _=>[]
theorem zAA (x0:AV) (H:List Ob) (r:AV) (Ho:List Ob):aBody Tryz.prog zsr Tryz.f193 H [x0] r Ho=zvG x0 H (fun v H'=>Gives H.length v H' r Ho):=by kernel_rfl
theorem zA0 {x0:AV} {r:AV} {Ho:List Ob} (h:zvG x0 [] (fun v H'=>Gives 0 v H' r Ho)):Abs.Fn Tryz.prog znu [] [x0] r Ho :=
 zh mixed zsr (fn:=Tryz.f193) (by kernel_rfl) (by kernel_rfl) (by rw [zAA]; exact h)
end Go.Proofs.YtdmgbhamigegfaaGreatDoor
end

section
/- Made by program (Gen.lean): functions of the dump, over trees. -/
set_option maxRecDepth 4000
set_option linter.unusedVariables false
namespace Go.Proofs.YtdmgbhamigegfaaGreatDoor
open Go Go.Abs
def zqV (q1s0 q1s1 q1s4 q1s7 y0 y1:AV) (H:List Ob) (B1:List AV→List Ob→Prop) (K:AV→List Ob→Prop):Prop :=
 aBin false false .lss y1 q1s7 fun v3 =>
 ze v3
 (zn 1 [(.p (.int .i64 1000))] fun v4 =>
 aCall Tryz.prog (.p (.func zdA [])) [v4,(.p (.int .i64 16))] H fun v5 h6 =>
 zn 1 [v5] fun v7 =>
 zI false 1 24 y0 v7 h6 fun v8 h9 =>
 aBin false false .add y1 (.p (.int .i64 1)) fun v10 =>
 B1 [v8,v10] h9)
 (aCall Tryz.prog (.p (.func zfl [])) [q1s0,q1s1,y0,(.p (.bool true))] H fun v11 h12 =>
 zj 2 q1s4 v11 h12 fun _ h14 =>
 aLoad true 2 q1s4 h14 fun v15 =>
 K v15 h14)
def zr6 (x0 x1:AV) (H:List Ob) (K:AV→List Ob→Prop):Prop :=
 zy [(.full []),(.full [])] H fun v0 h1 =>
 aLen false false x1 fun v2 =>
 zG 2 [(.full []),(.p (.int .i64 0))] h1 fun xs H B1=>zqV x0 x1 v0 v2 (xs.getD 0 Z) (xs.getD 1 Z) H B1 K
def zoS:Nat→List Nat:=fun k=>match k with | 3=>[5,8] | _=>[]
theorem zx4 (x0 x1:AV) (H:List Ob) (r:AV) (Ho:List Ob):aBody Tryz.prog zoS Tryz.f14 H [x0,x1] r Ho=zr6 x0 x1 H (fun v H'=>Gives H.length v H' r Ho):=by kernel_rfl
theorem zxY {x0 x1:AV} {r:AV} {Ho:List Ob} (h:zr6 x0 x1 [] (fun v H'=>Gives 0 v H' r Ho)):Abs.Fn Tryz.prog zjR [] [x0,x1] r Ho :=
 zh mixed zoS (fn:=Tryz.f14) (by kernel_rfl) (by kernel_rfl) (by rw [zx4]; exact h)
def zkE (q2s0 q2s3 q2s4 y0:AV) (H:List Ob) (B2:List AV→List Ob→Prop) (B1:List AV→List Ob→Prop) (K:AV→List Ob→Prop):Prop :=
 zb 2 q2s0 q2s4 fun v21 =>
 za 1 v21 fun v22 =>
 aLoad false 1 v22 H fun v23 =>
 aLen false false v23 fun v24 =>
 aBin false false .lss y0 v24 fun v25 =>
 ze v25
 (zb 2 q2s0 q2s4 fun v26 =>
 za 1 v26 fun v27 =>
 aLoad false 1 v27 H fun v28 =>
 zb 5 v28 y0 fun v29 =>
 aLoad true 5 v29 H fun v30 =>
 aCall Tryz.prog (.p (.func zfh [])) [v30] H fun v31 h32 =>
 aUn .not v31 fun v33 =>
 ze v33
 (K (.p (.bool false)) h32)
 (aBin false false .add y0 (.p (.int .i64 1)) fun v34 =>
 B2 [v34] h32))
 (aBin false false .add q2s4 (.p (.int .i64 1)) fun v35 =>
 B1 [q2s3,v35] H)
def zkW (q1s0 y0 y1:AV) (H:List Ob) (B1:List AV→List Ob→Prop) (K:AV→List Ob→Prop):Prop :=
 aLen false false q1s0 fun v2 =>
 aBin false false .lss y1 v2 fun v3 =>
 ze v3
 (zb 2 q1s0 y1 fun v4 =>
 za 0 v4 fun v5 =>
 aLoad false 1 v5 H fun v6 =>
 aLen false true v6 fun v7 =>
 aBin false false .gtr v7 (.p (.int .i64 50)) fun v8 =>
 zl false v8 (fun Q9 =>
 zb 2 q1s0 y1 fun v10 =>
 za 1 v10 fun v11 =>
 aLoad false 1 v11 H fun v12 =>
 aLenS false v12 fun v13 =>
 aBin false false .gtr v13 (.p (.int .i64 60)) fun v14 =>
 (H=H∧Q9 v14)) fun v15 =>
 ze v15
 (K (.p (.bool false)) H)
 (zb 2 q1s0 y1 fun v16 =>
 za 1 v16 fun v17 =>
 aLoad false 1 v17 H fun v18 =>
 aLen false false v18 fun v19 =>
 aBin false false .add y0 v19 fun v20 =>
 zG 1 [(.p (.int .i64 0))] H fun xs H B2=>zkE q1s0 v20 y1 (xs.getD 0 Z) H B2 B1 K))
 (aBin false false .leq y0 (.p (.int .i64 60)) fun v36 =>
 K v36 H)
def zjk (x0:AV) (H:List Ob) (K:AV→List Ob→Prop):Prop :=
 aLen false false x0 fun v0 =>
 aBin false false .gtr v0 (.p (.int .i64 6)) fun v1 =>
 ze v1
 (K (.p (.bool false)) H)
 (zG 2 [(.p (.int .i64 0)),(.p (.int .i64 0))] H fun xs H B1=>zkW x0 (xs.getD 0 Z) (xs.getD 1 Z) H B1 K)
def zjO:Nat→List Nat:=fun k=>match k with | 5=>[3,4] | 11=>[5] | _=>[]
theorem zr9 (x0:AV) (H:List Ob) (r:AV) (Ho:List Ob):aBody Tryz.prog zjO Tryz.f23 H [x0] r Ho=zjk x0 H (fun v H'=>Gives H.length v H' r Ho):=by kernel_rfl
theorem zr4 {x0:AV} {r:AV} {Ho:List Ob} (h:zjk x0 [] (fun v H'=>Gives 0 v H' r Ho)):Abs.Fn Tryz.prog zhD [] [x0] r Ho :=
 zh mixed zjO (fn:=Tryz.f23) (by kernel_rfl) (by kernel_rfl) (by rw [zr9]; exact h)
def zhd (q1s0 y0 y1:AV) (H:List Ob) (B1:List AV→List Ob→Prop) (K:AV→List Ob→Prop):Prop :=
 aLen false false q1s0 fun v0 =>
 aBin false false .lss y1 v0 fun v1 =>
 ze v1
 (zb 2 q1s0 y1 fun v2 =>
 za 0 v2 fun v3 =>
 aLoad false 1 v3 H fun v4 =>
 zb 2 q1s0 y1 fun v5 =>
 za 1 v5 fun v6 =>
 aLoad false 1 v6 H fun v7 =>
 zL Tryz.prog (.p (.func zgB [])) [v7] fun v8 =>
 zr [(.p (.str [])),(.full [])] [(0,1,v4),(1,1,v8)] fun v9 =>
 zn 2 [v9] fun v10 =>
 aCalm [y0,v10] <|
 zI false 2 40 y0 v10 H fun v11 h12 =>
 aBin false false .add y1 (.p (.int .i64 1)) fun v13 =>
 B1 [v11,v13] h12)
 (K y0 H)
def zfQ (x0:AV) (H:List Ob) (K:AV→List Ob→Prop):Prop :=
 zG 2 [(.full []),(.p (.int .i64 0))] H fun xs H B1=>zhd x0 (xs.getD 0 Z) (xs.getD 1 Z) H B1 K
def zgP:Nat→List Nat:=fun k=>match k with | 3=>[3,4] | _=>[]
theorem zmW (x0:AV) (H:List Ob) (r:AV) (Ho:List Ob):aBody Tryz.prog zgP Tryz.f26 H [x0] r Ho=zfQ x0 H (fun v H'=>Gives H.length v H' r Ho):=by kernel_rfl
theorem znf {x0:AV} {r:AV} {Ho:List Ob} (h:zfQ x0 [] (fun v H'=>Gives 0 v H' r Ho)):Abs.Fn Tryz.prog zel [] [x0] r Ho :=
 zh mixed zgP (fn:=Tryz.f26) (by kernel_rfl) (by kernel_rfl) (by rw [zmW]; exact h)
def zqU (q2s1 q2s2 q2s8 q2s56 q2s57 y0:AV) (H:List Ob) (B2:List AV→List Ob→Prop) (K:AV→List Ob→Prop):Prop :=
 aBin false false .lss y0 q2s57 fun v34 =>
 ze v34
 (zb 1 q2s56 y0 fun v35 =>
 aLoad false 1 v35 H fun v36 =>
 zy [(.p (.int .i64 0))] H fun v37 h38 =>
 zj 1 v37 v36 h38 fun _ h40 =>
 zb 2 q2s1 y0 fun v41 =>
 za 1 v41 fun v42 =>
 aLoad false 1 v42 h40 fun v43 =>
 zaA zg8 [q2s2,v37] h40 fun v44 h45 =>
 aCall Tryz.prog (.p (.func zaJ [])) [v43,v44] h45 fun v46 h47 =>
 ze v46
 (K (.p (.int .i64 5)) h47)
 (aBin false false .add y0 (.p (.int .i64 1)) fun v48 =>
 B2 [v48] h47))
 (aBin false false .gtr q2s8 (.p (.int .i64 1000)) fun v49 =>
 ze v49
 (K (.p (.int .i64 10)) H)
 (K (.p (.int .i64 0)) H))
def zrd (q1s1 q1s2 q1s7 q1s28 q1s29 y0 y1:AV) (H:List Ob) (B1:List AV→List Ob→Prop) (K:AV→List Ob→Prop):Prop :=
 aBin false false .lss y1 q1s29 fun v15 =>
 ze v15
 (zb 1 q1s28 y1 fun v16 =>
 aLoad false 1 v16 H fun v17 =>
 zb 2 q1s1 y1 fun v18 =>
 za 0 v18 fun v19 =>
 aLoad false 1 v19 H fun v20 =>
 aLoad false 1 q1s2 H fun v21 =>
 zb 21 v21 v17 fun v22 =>
 za 1 v22 fun v23 =>
 za 1 v23 fun v24 =>
 aLoad false 1 v24 H fun v25 =>
 aBin false false .neq v20 v25 fun v26 =>
 ze v26
 (K (.p (.int .i64 6)) H)
 (zb 2 q1s1 y1 fun v27 =>
 za 1 v27 fun v28 =>
 aLoad false 1 v28 H fun v29 =>
 aLen false false v29 fun v30 =>
 aBin false false .add y0 v30 fun v31 =>
 aBin false false .add y1 (.p (.int .i64 1)) fun v32 =>
 B1 [v31,v32] H))
 (aLen false false q1s7 fun v33 =>
 zG 1 [(.p (.int .i64 0))] H fun xs H B2=>zqU q1s1 q1s2 y0 q1s7 v33 (xs.getD 0 Z) H B2 K)
def zrt (x0 x1:AV) (H:List Ob) (K:AV→List Ob→Prop):Prop :=
 aBox x0 H fun v0 h1 =>
 aLoad false 1 v0 h1 fun v2 =>
 aCall Tryz.prog (.p (.func zlW [])) [v2] h1 fun v3 h4 =>
 zB v3 0 fun _ =>
 zB v3 1 fun v6 =>
 aBin false false .neq v6 (.p (.int .i64 0)) fun v7 =>
 ze v7
 (K v6 h4)
 (aLoad false 1 v0 h4 fun v8 =>
 aCall Tryz.prog (.p (.func zix [])) [v8,(.p (.int .i64 1))] h4 fun v9 h10 =>
 aLen false false x1 fun v11 =>
 aLen false false v9 fun v12 =>
 aBin false false .neq v11 v12 fun v13 =>
 ze v13
 (K (.p (.int .i64 6)) h10)
 (aLen false false v9 fun v14 =>
 zG 2 [(.p (.int .i64 0)),(.p (.int .i64 0))] h10 fun xs H B1=>zrd x1 v0 v9 v9 v14 (xs.getD 0 Z) (xs.getD 1 Z) H B1 K))
def zpy:Nat→List Nat:=fun k=>match k with | 9=>[8,30] | 16=>[58] | _=>[]
theorem zx0 (x0 x1:AV) (H:List Ob) (r:AV) (Ho:List Ob):aBody Tryz.prog zpy Tryz.f27 H [x0,x1] r Ho=zrt x0 x1 H (fun v H'=>Gives H.length v H' r Ho):=by kernel_rfl
theorem zyi {x0 x1:AV} {r:AV} {Ho:List Ob} (h:zrt x0 x1 [] (fun v H'=>Gives 0 v H' r Ho)):Abs.Fn Tryz.prog zhc [] [x0,x1] r Ho :=
 zh mixed zpy (fn:=Tryz.f27) (by kernel_rfl) (by kernel_rfl) (by rw [zx0]; exact h)
def zro (x0 x1 x2:AV) (H:List Ob) (K:AV→List Ob→Prop):Prop :=
 zb 21 x0 x1 fun v0 =>
 za 18 v0 fun v1 =>
 aLoad false 1 v1 H fun v2 =>
 aBin false false .rem x2 v2 fun v3 =>
 K v3 H
def zpo:Nat→List Nat:=fun _=>[]
theorem zyh (x0 x1 x2:AV) (H:List Ob) (r:AV) (Ho:List Ob):aBody Tryz.prog zpo Tryz.f29 H [x0,x1,x2] r Ho=zro x0 x1 x2 H (fun v H'=>Gives H.length v H' r Ho):=by kernel_rfl
theorem zxQ {x0 x1 x2:AV} {r:AV} {Ho:List Ob} (h:zro x0 x1 x2 [] (fun v H'=>Gives 0 v H' r Ho)):Abs.Fn Tryz.prog zfc [] [x0,x1,x2] r Ho :=
 zh mixed zpo (fn:=Tryz.f29) (by kernel_rfl) (by kernel_rfl) (by rw [zyh]; exact h)
def zug (x0 x1:AV) (H:List Ob) (K:AV→List Ob→Prop):Prop :=
 aBox x0 H fun v0 h1 =>
 aBox x1 h1 fun v2 h3 =>
 za 0 v0 fun v4 =>
 aLoad false 1 v4 h3 fun v5 =>
 za 0 v2 fun v6 =>
 aLoad false 1 v6 h3 fun v7 =>
 aCall Tryz.prog (.p (.func zR [])) [v5,v7,(.p (.func zlJ []))] h3 fun v8 h9 =>
 zl true v8 (fun Q10 =>
 za 1 v0 fun v11 =>
 aLoad false 1 v11 h9 fun v12 =>
 za 1 v2 fun v13 =>
 aLoad false 1 v13 h9 fun v14 =>
 aCall Tryz.prog (.p (.func zY [])) [v12,v14,(.p (.func zlV []))] h9 fun v15 h16 =>
 (h16=h9∧Q10 v15)) fun v17 =>
 K v17 h9
def zqR:Nat→List Nat:=fun _=>[]
theorem zzl (x0 x1:AV) (H:List Ob) (r:AV) (Ho:List Ob):aBody Tryz.prog zqR Tryz.f32 H [x0,x1] r Ho=zug x0 x1 H (fun v H'=>Gives H.length v H' r Ho):=by kernel_rfl
theorem zzV {x0 x1:AV} {r:AV} {Ho:List Ob} (h:zug x0 x1 [] (fun v H'=>Gives 0 v H' r Ho)):Abs.Fn Tryz.prog zlu [] [x0,x1] r Ho :=
 zh mixed zqR (fn:=Tryz.f32) (by kernel_rfl) (by kernel_rfl) (by rw [zzl]; exact h)
def zps (q1s2 q1s3 q1s15 q1s16 y0:AV) (H:List Ob) (B1:List AV→List Ob→Prop) (K:AV→List Ob→Prop):Prop :=
 aBin false false .lss y0 q1s16 fun v14 =>
 ze v14
 (zb 1 q1s15 y0 fun v15 =>
 aLoad false 1 v15 H fun v16 =>
 za 0 q1s3 fun v17 =>
 aLoad false 1 v17 H fun v18 =>
 zb 1 v18 y0 fun v19 =>
 aLoad false 1 v19 H fun v20 =>
 aCall Tryz.prog (.p (.func zdw [])) [v16,v20,(.p (.func zba []))] H fun v21 h22 =>
 aUn .not v21 fun v23 =>
 ze v23
 (K (.p (.bool false)) h22)
 (aBin false false .add y0 (.p (.int .i64 1)) fun v24 =>
 B1 [v24] h22))
 (za 1 q1s2 fun v25 =>
 aLoad false 1 v25 H fun v26 =>
 za 1 q1s3 fun v27 =>
 aLoad false 1 v27 H fun v28 =>
 aCall Tryz.prog (.p (.func zdL [])) [v26,v28,(.p (.func zeO []))] H fun v29 h30 =>
 K v29 h30)
def zo6 (x0 x1:AV) (H:List Ob) (K:AV→List Ob→Prop):Prop :=
 aBox x0 H fun v0 h1 =>
 aBox x1 h1 fun v2 h3 =>
 za 0 v0 fun v4 =>
 aLoad false 1 v4 h3 fun v5 =>
 aLen false false v5 fun v6 =>
 za 0 v2 fun v7 =>
 aLoad false 1 v7 h3 fun v8 =>
 aLen false false v8 fun v9 =>
 aBin false false .neq v6 v9 fun v10 =>
 ze v10
 (K (.p (.bool false)) h3)
 (za 0 v0 fun v11 =>
 aLoad false 1 v11 h3 fun v12 =>
 aLen false false v12 fun v13 =>
 zG 1 [(.p (.int .i64 0))] h3 fun xs H B1=>zps v0 v2 v12 v13 (xs.getD 0 Z) H B1 K)
def znN:Nat→List Nat:=fun k=>match k with | 4=>[17] | _=>[]
theorem zwk (x0 x1:AV) (H:List Ob) (r:AV) (Ho:List Ob):aBody Tryz.prog znN Tryz.f34 H [x0,x1] r Ho=zo6 x0 x1 H (fun v H'=>Gives H.length v H' r Ho):=by kernel_rfl
theorem zvL {x0 x1:AV} {r:AV} {Ho:List Ob} (h:zo6 x0 x1 [] (fun v H'=>Gives 0 v H' r Ho)):Abs.Fn Tryz.prog ziy [] [x0,x1] r Ho :=
 zh mixed znN (fn:=Tryz.f34) (by kernel_rfl) (by kernel_rfl) (by rw [zwk]; exact h)
def zga (j1s9 j1s10 j1s13 j1s14 j1s26:AV) (H:List Ob) (B1:List AV→List Ob→Prop) (K:AV→List Ob→Prop):Prop :=
 zbw j1s9 fun v29 =>
 za 1 v29 fun v30 =>
 aLoad false 1 v30 H fun v31 =>
 zn 1 [j1s14] fun v32 =>
 zI false 1 24 v31 v32 H fun v33 h34 =>
 zbw j1s9 fun v35 =>
 za 1 v35 fun v36 =>
 zj 1 v36 v33 h34 fun _ h38 =>
 za 1 j1s13 fun v39 =>
 za 0 v39 fun v40 =>
 aLoad false 1 v40 h38 fun v41 =>
 aBin false false .eql v41 (.p (.int .i64 9)) fun v42 =>
 ze v42
 (zn 1 [j1s14] fun v43 =>
 zI false 1 24 j1s10 v43 h38 fun v44 h45 =>
 aBin false false .add j1s26 (.p (.int .i64 1)) fun v46 =>
 B1 [v44,v46] h45)
 (aBin false false .add j1s26 (.p (.int .i64 1)) fun v47 =>
 B1 [j1s10,v47] h38)
def zqQ (q2s0 q2s1 q2s2 q2s9 q2s10 q2s11 q2s12 q2s13 q2s26 q2s32 q2s33 y0 y1:AV) (H:List Ob) (B2:List AV→List Ob→Prop) (B1:List AV→List Ob→Prop) (K:AV→List Ob→Prop):Prop :=
 aBin false false .lss y1 q2s33 fun v18 =>
 ze v18
 (zb 1 q2s32 y1 fun v19 =>
 aLoad false 1 v19 H fun v20 =>
 zbw q2s9 fun v21 =>
 za 1 v21 fun v22 =>
 aLoad false 1 v22 H fun v23 =>
 zb 1 v23 v20 fun v24 =>
 aLoad false 1 v24 H fun v25 =>
 zI false 5 64 y0 v25 H fun v26 h27 =>
 aBin false false .add y1 (.p (.int .i64 1)) fun v28 =>
 B2 [v26,v28] h27)
 (aCall Tryz.prog (.p (.func zco [])) [q2s11,q2s12] H fun v48 h49 =>
 aBin false false .geq v48 (.p (.int .i64 0)) fun v50 =>
 ze v50
 (zb 2 q2s1 v48 fun v51 =>
 za 1 v51 fun v52 =>
 aLoad false 1 v52 h49 fun v53 =>
 zb 1 q2s2 v48 fun v54 =>
 aLoad false 1 v54 h49 fun v55 =>
 zL Tryz.prog (.p (.func zpl [])) [q2s0,q2s12,v53,v55] fun v56 =>
 zga q2s9 q2s10 q2s13 v56 q2s26 h49 B1 K)
 (za 1 q2s13 fun v57 =>
 aLoad true 15 v57 h49 fun v58 =>
 aCall Tryz.prog (.p (.func zrB [])) [v58] h49 fun v59 h60 =>
 ze v59
 (aCall Tryz.prog (.p (.func zkC [])) [q2s9,q2s12,y0] h60 fun v61 h62 =>
 zga q2s9 q2s10 q2s13 v61 q2s26 h62 B1 K)
 (aCall Tryz.prog (.p (.func zgC [])) [q2s9,q2s12,y0] h60 fun v63 h64 =>
 zga q2s9 q2s10 q2s13 v63 q2s26 h64 B1 K)))
def zrm (q1s0 q1s1 q1s2 q1s8 q1s9 q1s11 q1s24 q1s25 y0 y1:AV) (H:List Ob) (B1:List AV→List Ob→Prop) (K:AV→List Ob→Prop):Prop :=
 aBin false false .lss y1 q1s25 fun v8 =>
 ze v8
 (zb 21 q1s24 y1 fun v9 =>
 aLoad true 21 v9 H fun v10 =>
 zy [(.p (.str [])),(.p (.int .i64 0)),(.p (.str [])),(.p (.int .i64 0)),(.full []),(.full []),(.p (.str [])),(.p (.int .i64 0)),(.p (.int .i64 0)),(.p (.bool false)),(.p (.str [])),(.full []),(.p (.int .i64 0)),(.full []),(.p (.int .i64 0)),(.p (.int .i64 0)),(.full []),(.p (.int .i64 0)),(.p (.int .i64 0)),(.p (.str [])),(.p (.bool false))] H fun v11 h12 =>
 zj 21 v11 v10 h12 fun _ h14 =>
 za 16 v11 fun v15 =>
 aLoad false 1 v15 h14 fun v16 =>
 aLen false false v16 fun v17 =>
 zG 2 [(.full []),(.p (.int .i64 0))] h14 fun xs H B2=>zqQ q1s0 q1s1 q1s2 q1s9 y0 q1s11 y1 v11 y1 v16 v17 (xs.getD 0 Z) (xs.getD 1 Z) H B2 B1 K)
 (zbw q1s9 fun v65 =>
 za 2 v65 fun v66 =>
 aLoad false 1 v66 H fun v67 =>
 zr [(.full []),(.full [])] [(0,1,y0),(1,1,v67)] fun v68 =>
 aCall Tryz.prog (.p (.func zlG [])) [v68] H fun v69 h70 =>
 zj 2 q1s8 v69 h70 fun _ h72 =>
 aLoad true 2 q1s8 h72 fun v73 =>
 K v73 h72)
def zsc (x0 x1 x2 x3:AV) (H:List Ob) (K:AV→List Ob→Prop):Prop :=
 zy [(.full []),(.full [])] H fun v0 h1 =>
 zr [(.full []),(.full []),(.full []),(.p (.bool false))] [(0,1,x0),(3,1,x3)] fun v2 =>
 aBox v2 h1 fun v3 h4 =>
 aCall Tryz.prog (.p (.func zix [])) [x0,(.p (.int .i64 1))] h4 fun v5 h6 =>
 aLen false false x0 fun v7 =>
 zG 2 [(.full []),(.p (.int .i64 0))] h6 fun xs H B1=>zrm x0 x1 x2 v0 v3 v5 x0 v7 (xs.getD 0 Z) (xs.getD 1 Z) H B1 K
def zot:Nat→List Nat:=fun k=>match k with | 5=>[10,26] | 9=>[14,34] | _=>[]
theorem zxP (x0 x1 x2 x3:AV) (H:List Ob) (r:AV) (Ho:List Ob):aBody Tryz.prog zot Tryz.f37 H [x0,x1,x2,x3] r Ho=zsc x0 x1 x2 x3 H (fun v H'=>Gives H.length v H' r Ho):=by kernel_rfl
theorem zyd {x0 x1 x2 x3:AV} {r:AV} {Ho:List Ob} (h:zsc x0 x1 x2 x3 [] (fun v H'=>Gives 0 v H' r Ho)):Abs.Fn Tryz.prog zfl [] [x0,x1,x2,x3] r Ho :=
 zh mixed zot (fn:=Tryz.f37) (by kernel_rfl) (by kernel_rfl) (by rw [zxP]; exact h)
def zaO (x0 x1:AV) (H:List Ob) (K:AV→List Ob→Prop):Prop :=
 aCall Tryz.prog (.p (.func zaZ [])) [x0,x1] H fun v0 h1 =>
 aBin false false .geq v0 (.p (.int .i64 0)) fun v2 =>
 K v2 h1
def zbp:Nat→List Nat:=fun _=>[]
theorem zdX (x0 x1:AV) (H:List Ob) (r:AV) (Ho:List Ob):aBody Tryz.prog zbp Tryz.f50 H [x0,x1] r Ho=zaO x0 x1 H (fun v H'=>Gives H.length v H' r Ho):=by kernel_rfl
theorem zdH {x0 x1:AV} {r:AV} {Ho:List Ob} (h:zaO x0 x1 [] (fun v H'=>Gives 0 v H' r Ho)):Abs.Fn Tryz.prog zaJ [] [x0,x1] r Ho :=
 zh mixed zbp (fn:=Tryz.f50) (by kernel_rfl) (by kernel_rfl) (by rw [zdX]; exact h)
def zng (x0 x1 x2:AV) (H:List Ob) (K:AV→List Ob→Prop):Prop :=
 aBox x0 H fun v0 h1 =>
 aLoad true 5 v0 h1 fun v2 =>
 aLoad false 1 x1 h1 fun v3 =>
 aLoad false 1 x2 h1 fun v4 =>
 zb 21 v3 v4 fun v5 =>
 za 1 v5 fun v6 =>
 za 2 v6 fun v7 =>
 aLoad true 2 v7 h1 fun v8 =>
 zL Tryz.prog (.p (.func zxK [])) [v2,v8] fun v9 =>
 aUn .not v9 fun v10 =>
 K v10 h1
def zmo:Nat→List Nat:=fun _=>[]
theorem zvb (x0 x1 x2:AV) (H:List Ob) (r:AV) (Ho:List Ob):aBody Tryz.prog zmo Tryz.f51 H [x0,x1,x2] r Ho=zng x0 x1 x2 H (fun v H'=>Gives H.length v H' r Ho):=by kernel_rfl
theorem zu4 {x0 x1 x2:AV} {r:AV} {Ho:List Ob} (h:zng x0 x1 x2 [] (fun v H'=>Gives 0 v H' r Ho)):Abs.Fn Tryz.prog zg8 [] [x0,x1,x2] r Ho :=
 zh mixed zmo (fn:=Tryz.f51) (by kernel_rfl) (by kernel_rfl) (by rw [zvb]; exact h)
def zar (q1s1 q1s2 q1s15 q1s16 y0:AV) (H:List Ob) (B1:List AV→List Ob→Prop) (K:AV→List Ob→Prop):Prop :=
 aBin false false .lss y0 q1s16 fun v4 =>
 ze v4
 (zb 1 q1s15 y0 fun v5 =>
 aLoad false 1 v5 H fun v6 =>
 zb 1 q1s1 y0 fun v7 =>
 aLoad false 1 v7 H fun v8 =>
 aCall Tryz.prog q1s2 [v6,v8] H fun v9 h10 =>
 aUn .not v9 fun v11 =>
 ze v11
 (K (.p (.bool false)) h10)
 (aBin false false .add y0 (.p (.int .i64 1)) fun v12 =>
 B1 [v12] h10))
 (K (.p (.bool true)) H)
def zV (x0 x1 x2:AV) (H:List Ob) (K:AV→List Ob→Prop):Prop :=
 aLen false false x0 fun v0 =>
 aLen false false x1 fun v1 =>
 aBin false false .neq v0 v1 fun v2 =>
 ze v2
 (K (.p (.bool false)) H)
 (aLen false false x0 fun v3 =>
 zG 1 [(.p (.int .i64 0))] H fun xs H B1=>zar x1 x2 x0 v3 (xs.getD 0 Z) H B1 K)
def zao:Nat→List Nat:=fun k=>match k with | 4=>[17] | _=>[]
theorem zbK (x0 x1 x2:AV) (H:List Ob) (r:AV) (Ho:List Ob):aBody Tryz.prog zao Tryz.f54 H [x0,x1,x2] r Ho=zV x0 x1 x2 H (fun v H'=>Gives H.length v H' r Ho):=by kernel_rfl
theorem zbL {x0 x1 x2:AV} {r:AV} {Ho:List Ob} (h:zV x0 x1 x2 [] (fun v H'=>Gives 0 v H' r Ho)):Abs.Fn Tryz.prog zR [] [x0,x1,x2] r Ho :=
 zh mixed zao (fn:=Tryz.f54) (by kernel_rfl) (by kernel_rfl) (by rw [zbK]; exact h)
def zp3 (x0 x1:AV) (H:List Ob) (K:AV→List Ob→Prop):Prop :=
 aCall Tryz.prog (.p (.func zS [])) [x0,x1,(.p (.func zgr []))] H fun v0 h1 =>
 K v0 h1
def znW:Nat→List Nat:=fun _=>[]
theorem zxw (x0 x1:AV) (H:List Ob) (r:AV) (Ho:List Ob):aBody Tryz.prog znW Tryz.f55 H [x0,x1] r Ho=zp3 x0 x1 H (fun v H'=>Gives H.length v H' r Ho):=by kernel_rfl
theorem zvI {x0 x1:AV} {r:AV} {Ho:List Ob} (h:zp3 x0 x1 [] (fun v H'=>Gives 0 v H' r Ho)):Abs.Fn Tryz.prog zlJ [] [x0,x1] r Ho :=
 zh mixed znW (fn:=Tryz.f55) (by kernel_rfl) (by kernel_rfl) (by rw [zxw]; exact h)
def zaq (q1s1 q1s2 q1s15 q1s16 y0:AV) (H:List Ob) (B1:List AV→List Ob→Prop) (K:AV→List Ob→Prop):Prop :=
 aBin false false .lss y0 q1s16 fun v4 =>
 ze v4
 (zb 5 q1s15 y0 fun v5 =>
 aLoad true 5 v5 H fun v6 =>
 zy [(.p (.int .i64 0)),(.p (.int .i64 0)),(.p (.bool false)),(.p (.str [])),(.full [])] H fun v7 h8 =>
 zj 5 v7 v6 h8 fun _ h10 =>
 zb 5 q1s1 y0 fun v11 =>
 aLoad true 5 v11 h10 fun v12 =>
 zy [(.p (.int .i64 0)),(.p (.int .i64 0)),(.p (.bool false)),(.p (.str [])),(.full [])] h10 fun v13 h14 =>
 zj 5 v13 v12 h14 fun _ h16 =>
 aLoad true 5 v7 h16 fun v17 =>
 aLoad true 5 v13 h16 fun v18 =>
 aCall Tryz.prog q1s2 [v17,v18] h16 fun v19 h20 =>
 aUn .not v19 fun v21 =>
 ze v21
 (K (.p (.bool false)) h20)
 (aBin false false .add y0 (.p (.int .i64 1)) fun v22 =>
 B1 [v22] h20))
 (K (.p (.bool true)) H)
def zU (x0 x1 x2:AV) (H:List Ob) (K:AV→List Ob→Prop):Prop :=
 aLen false false x0 fun v0 =>
 aLen false false x1 fun v1 =>
 aBin false false .neq v0 v1 fun v2 =>
 ze v2
 (K (.p (.bool false)) H)
 (aLen false false x0 fun v3 =>
 zG 1 [(.p (.int .i64 0))] H fun xs H B1=>zaq x1 x2 x0 v3 (xs.getD 0 Z) H B1 K)
def zap:Nat→List Nat:=fun k=>match k with | 4=>[17] | _=>[]
theorem zbF (x0 x1 x2:AV) (H:List Ob) (r:AV) (Ho:List Ob):aBody Tryz.prog zap Tryz.f56 H [x0,x1,x2] r Ho=zU x0 x1 x2 H (fun v H'=>Gives H.length v H' r Ho):=by kernel_rfl
theorem zbI {x0 x1 x2:AV} {r:AV} {Ho:List Ob} (h:zU x0 x1 x2 [] (fun v H'=>Gives 0 v H' r Ho)):Abs.Fn Tryz.prog zS [] [x0,x1,x2] r Ho :=
 zh mixed zap (fn:=Tryz.f56) (by kernel_rfl) (by kernel_rfl) (by rw [zbF]; exact h)
def zaG (q1s1 q1s2 q1s15 q1s16 y0:AV) (H:List Ob) (B1:List AV→List Ob→Prop) (K:AV→List Ob→Prop):Prop :=
 aBin false false .lss y0 q1s16 fun v4 =>
 ze v4
 (zb 6 q1s15 y0 fun v5 =>
 aLoad true 6 v5 H fun v6 =>
 zy [(.p (.int .i64 0)),(.p (.int .i64 0)),(.p (.int .i64 0)),(.p (.bool false)),(.p (.str [])),(.full [])] H fun v7 h8 =>
 zj 6 v7 v6 h8 fun _ h10 =>
 zb 6 q1s1 y0 fun v11 =>
 aLoad true 6 v11 h10 fun v12 =>
 zy [(.p (.int .i64 0)),(.p (.int .i64 0)),(.p (.int .i64 0)),(.p (.bool false)),(.p (.str [])),(.full [])] h10 fun v13 h14 =>
 zj 6 v13 v12 h14 fun _ h16 =>
 aLoad true 6 v7 h16 fun v17 =>
 aLoad true 6 v13 h16 fun v18 =>
 aCall Tryz.prog q1s2 [v17,v18] h16 fun v19 h20 =>
 aUn .not v19 fun v21 =>
 ze v21
 (K (.p (.bool false)) h20)
 (aBin false false .add y0 (.p (.int .i64 1)) fun v22 =>
 B1 [v22] h20))
 (K (.p (.bool true)) H)
def z2 (x0 x1 x2:AV) (H:List Ob) (K:AV→List Ob→Prop):Prop :=
 aLen false false x0 fun v0 =>
 aLen false false x1 fun v1 =>
 aBin false false .neq v0 v1 fun v2 =>
 ze v2
 (K (.p (.bool false)) H)
 (aLen false false x0 fun v3 =>
 zG 1 [(.p (.int .i64 0))] H fun xs H B1=>zaG x1 x2 x0 v3 (xs.getD 0 Z) H B1 K)
def zaz:Nat→List Nat:=fun k=>match k with | 4=>[17] | _=>[]
theorem zb4 (x0 x1 x2:AV) (H:List Ob) (r:AV) (Ho:List Ob):aBody Tryz.prog zaz Tryz.f58 H [x0,x1,x2] r Ho=z2 x0 x1 x2 H (fun v H'=>Gives H.length v H' r Ho):=by kernel_rfl
theorem zb6 {x0 x1 x2:AV} {r:AV} {Ho:List Ob} (h:z2 x0 x1 x2 [] (fun v H'=>Gives 0 v H' r Ho)):Abs.Fn Tryz.prog zY [] [x0,x1,x2] r Ho :=
 zh mixed zaz (fn:=Tryz.f58) (by kernel_rfl) (by kernel_rfl) (by rw [zb4]; exact h)
def zo9 (x0 x1:AV) (H:List Ob) (K:AV→List Ob→Prop):Prop :=
 aBox x0 H fun v0 h1 =>
 aBox x1 h1 fun v2 h3 =>
 aLoad true 6 v0 h3 fun v4 =>
 aLoad true 6 v2 h3 fun v5 =>
 aCall Tryz.prog (.p (.func zeO [])) [v4,v5] h3 fun v6 h7 =>
 aBin false false .eql v6 (.p (.int .i64 0)) fun v8 =>
 K v8 h7
def znC:Nat→List Nat:=fun _=>[]
theorem zxD (x0 x1:AV) (H:List Ob) (r:AV) (Ho:List Ob):aBody Tryz.prog znC Tryz.f59 H [x0,x1] r Ho=zo9 x0 x1 H (fun v H'=>Gives H.length v H' r Ho):=by kernel_rfl
theorem zwl {x0 x1:AV} {r:AV} {Ho:List Ob} (h:zo9 x0 x1 [] (fun v H'=>Gives 0 v H' r Ho)):Abs.Fn Tryz.prog zlV [] [x0,x1] r Ho :=
 zh mixed znC (fn:=Tryz.f59) (by kernel_rfl) (by kernel_rfl) (by rw [zxD]; exact h)
def zm4 (x0 x1:AV) (H:List Ob) (K:AV→List Ob→Prop):Prop :=
 aBox x0 H fun v0 h1 =>
 aBox x1 h1 fun v2 h3 =>
 za 0 v0 fun v4 =>
 aLoad false 1 v4 h3 fun v5 =>
 za 0 v2 fun v6 =>
 aLoad false 1 v6 h3 fun v7 =>
 zL Tryz.prog (.p (.func zc6 [])) [v5,v7] fun v8 =>
 za 1 v0 fun v9 =>
 aLoad true 5 v9 h3 fun v10 =>
 za 1 v2 fun v11 =>
 aLoad true 5 v11 h3 fun v12 =>
 zL Tryz.prog (.p (.func zba [])) [v10,v12] fun v13 =>
 zn 1 [v8,v13] fun v14 =>
 zL Tryz.prog (.p (.func zjT [])) [v14] fun v15 =>
 K v15 h3
def zmu:Nat→List Nat:=fun _=>[]
theorem zva (x0 x1:AV) (H:List Ob) (r:AV) (Ho:List Ob):aBody Tryz.prog zmu Tryz.f60 H [x0,x1] r Ho=zm4 x0 x1 H (fun v H'=>Gives H.length v H' r Ho):=by kernel_rfl
theorem zuZ {x0 x1:AV} {r:AV} {Ho:List Ob} (h:zm4 x0 x1 [] (fun v H'=>Gives 0 v H' r Ho)):Abs.Fn Tryz.prog zeO [] [x0,x1] r Ho :=
 zh mixed zmu (fn:=Tryz.f60) (by kernel_rfl) (by kernel_rfl) (by rw [zva]; exact h)
def zda (q2s2 q2s8 q2s18 y0:AV) (H:List Ob) (B2:List AV→List Ob→Prop) (B1:List AV→List Ob→Prop) (K:AV→List Ob→Prop):Prop :=
 aLen true false y0 fun v16 =>
 aBin false false .gtr v16 (.p (.int .i64 0)) fun v17 =>
 ze v17
 (zb 5 y0 (.p (.int .i64 0)) fun v18 =>
 aLoad true 5 v18 H fun v19 =>
 aLoad true 5 q2s8 H fun v20 =>
 zL Tryz.prog q2s2 [v19,v20] fun v21 =>
 aBin false false .lss v21 (.p (.int .i64 0)) fun v22 =>
 ze v22
 (zbM false 5 y0 (some (.p (.int .i64 1))) none none fun v23 =>
 B2 [v23] H)
 (aLen true false y0 fun v24 =>
 aBin false false .eql v24 (.p (.int .i64 0)) fun v25 =>
 ze v25
 (K (.p (.bool false)) H)
 (zb 5 y0 (.p (.int .i64 0)) fun v26 =>
 aLoad true 5 v26 H fun v27 =>
 aLoad true 5 q2s8 H fun v28 =>
 zL Tryz.prog q2s2 [v27,v28] fun v29 =>
 aBin false false .neq v29 (.p (.int .i64 0)) fun v30 =>
 ze v30
 (K (.p (.bool false)) H)
 (zbM false 5 y0 (some (.p (.int .i64 1))) none none fun v31 =>
 aBin false false .add q2s18 (.p (.int .i64 1)) fun v32 =>
 B1 [v31,v32] H))))
 (aLen true false y0 fun v33 =>
 aBin false false .eql v33 (.p (.int .i64 0)) fun v34 =>
 ze v34
 (K (.p (.bool false)) H)
 (zb 5 y0 (.p (.int .i64 0)) fun v35 =>
 aLoad true 5 v35 H fun v36 =>
 aLoad true 5 q2s8 H fun v37 =>
 zL Tryz.prog q2s2 [v36,v37] fun v38 =>
 aBin false false .neq v38 (.p (.int .i64 0)) fun v39 =>
 ze v39
 (K (.p (.bool false)) H)
 (zbM false 5 y0 (some (.p (.int .i64 1))) none none fun v40 =>
 aBin false false .add q2s18 (.p (.int .i64 1)) fun v41 =>
 B1 [v40,v41] H)))
def zf7 (q1s2 q1s16 q1s17 y0 y1:AV) (H:List Ob) (B1:List AV→List Ob→Prop) (K:AV→List Ob→Prop):Prop :=
 aBin false false .lss y1 q1s17 fun v9 =>
 ze v9
 (zb 5 q1s16 y1 fun v10 =>
 aLoad true 5 v10 H fun v11 =>
 zy [(.p (.int .i64 0)),(.p (.int .i64 0)),(.p (.bool false)),(.p (.str [])),(.full [])] H fun v12 h13 =>
 zj 5 v12 v11 h13 fun _ h15 =>
 zG 1 [y0] h15 fun xs H B2=>zda q1s2 v12 y1 (xs.getD 0 Z) H B2 B1 K)
 (K (.p (.bool true)) H)
def zen (x0 x1 x2:AV) (H:List Ob) (K:AV→List Ob→Prop):Prop :=
 aCall Tryz.prog (.p (.func z7 [])) [x1] H fun v0 h1 =>
 aCall Tryz.prog (.p (.func zax [])) [v0,x2] h1 fun v2 h3 =>
 aCall Tryz.prog (.p (.func z7 [])) [x0] h3 fun v4 h5 =>
 aCall Tryz.prog (.p (.func zax [])) [v4,x2] h5 fun v6 h7 =>
 aLen false false v6 fun v8 =>
 zG 2 [v2,(.p (.int .i64 0))] h7 fun xs H B1=>zf7 x2 v6 v8 (xs.getD 0 Z) (xs.getD 1 Z) H B1 K
def zfx:Nat→List Nat:=fun k=>match k with | 3=>[1,18] | 5=>[1] | _=>[]
theorem zlX (x0 x1 x2:AV) (H:List Ob) (r:AV) (Ho:List Ob):aBody Tryz.prog zfx Tryz.f63 H [x0,x1,x2] r Ho=zen x0 x1 x2 H (fun v H'=>Gives H.length v H' r Ho):=by kernel_rfl
theorem zl1 {x0 x1 x2:AV} {r:AV} {Ho:List Ob} (h:zen x0 x1 x2 [] (fun v H'=>Gives 0 v H' r Ho)):Abs.Fn Tryz.prog zdw [] [x0,x1,x2] r Ho :=
 zh mixed zfx (fn:=Tryz.f63) (by kernel_rfl) (by kernel_rfl) (by rw [zlX]; exact h)
def zdC (q2s2 q2s8 q2s18 y0:AV) (H:List Ob) (B2:List AV→List Ob→Prop) (B1:List AV→List Ob→Prop) (K:AV→List Ob→Prop):Prop :=
 aLen true false y0 fun v16 =>
 aBin false false .gtr v16 (.p (.int .i64 0)) fun v17 =>
 ze v17
 (zb 6 y0 (.p (.int .i64 0)) fun v18 =>
 aLoad true 6 v18 H fun v19 =>
 aLoad true 6 q2s8 H fun v20 =>
 zL Tryz.prog q2s2 [v19,v20] fun v21 =>
 aBin false false .lss v21 (.p (.int .i64 0)) fun v22 =>
 ze v22
 (zbM false 6 y0 (some (.p (.int .i64 1))) none none fun v23 =>
 B2 [v23] H)
 (aLen true false y0 fun v24 =>
 aBin false false .eql v24 (.p (.int .i64 0)) fun v25 =>
 ze v25
 (K (.p (.bool false)) H)
 (zb 6 y0 (.p (.int .i64 0)) fun v26 =>
 aLoad true 6 v26 H fun v27 =>
 aLoad true 6 q2s8 H fun v28 =>
 zL Tryz.prog q2s2 [v27,v28] fun v29 =>
 aBin false false .neq v29 (.p (.int .i64 0)) fun v30 =>
 ze v30
 (K (.p (.bool false)) H)
 (zbM false 6 y0 (some (.p (.int .i64 1))) none none fun v31 =>
 aBin false false .add q2s18 (.p (.int .i64 1)) fun v32 =>
 B1 [v31,v32] H))))
 (aLen true false y0 fun v33 =>
 aBin false false .eql v33 (.p (.int .i64 0)) fun v34 =>
 ze v34
 (K (.p (.bool false)) H)
 (zb 6 y0 (.p (.int .i64 0)) fun v35 =>
 aLoad true 6 v35 H fun v36 =>
 aLoad true 6 q2s8 H fun v37 =>
 zL Tryz.prog q2s2 [v36,v37] fun v38 =>
 aBin false false .neq v38 (.p (.int .i64 0)) fun v39 =>
 ze v39
 (K (.p (.bool false)) H)
 (zbM false 6 y0 (some (.p (.int .i64 1))) none none fun v40 =>
 aBin false false .add q2s18 (.p (.int .i64 1)) fun v41 =>
 B1 [v40,v41] H)))
def zgX (q1s2 q1s16 q1s17 y0 y1:AV) (H:List Ob) (B1:List AV→List Ob→Prop) (K:AV→List Ob→Prop):Prop :=
 aBin false false .lss y1 q1s17 fun v9 =>
 ze v9
 (zb 6 q1s16 y1 fun v10 =>
 aLoad true 6 v10 H fun v11 =>
 zy [(.p (.int .i64 0)),(.p (.int .i64 0)),(.p (.int .i64 0)),(.p (.bool false)),(.p (.str [])),(.full [])] H fun v12 h13 =>
 zj 6 v12 v11 h13 fun _ h15 =>
 zG 1 [y0] h15 fun xs H B2=>zdC q1s2 v12 y1 (xs.getD 0 Z) H B2 B1 K)
 (K (.p (.bool true)) H)
def zeW (x0 x1 x2:AV) (H:List Ob) (K:AV→List Ob→Prop):Prop :=
 aCall Tryz.prog (.p (.func zaf [])) [x1] H fun v0 h1 =>
 aCall Tryz.prog (.p (.func zaH [])) [v0,x2] h1 fun v2 h3 =>
 aCall Tryz.prog (.p (.func zaf [])) [x0] h3 fun v4 h5 =>
 aCall Tryz.prog (.p (.func zaH [])) [v4,x2] h5 fun v6 h7 =>
 aLen false false v6 fun v8 =>
 zG 2 [v2,(.p (.int .i64 0))] h7 fun xs H B1=>zgX x2 v6 v8 (xs.getD 0 Z) (xs.getD 1 Z) H B1 K
def zf3:Nat→List Nat:=fun k=>match k with | 3=>[1,18] | 5=>[1] | _=>[]
theorem zma (x0 x1 x2:AV) (H:List Ob) (r:AV) (Ho:List Ob):aBody Tryz.prog zf3 Tryz.f65 H [x0,x1,x2] r Ho=zeW x0 x1 x2 H (fun v H'=>Gives H.length v H' r Ho):=by kernel_rfl
theorem zmw {x0 x1 x2:AV} {r:AV} {Ho:List Ob} (h:zeW x0 x1 x2 [] (fun v H'=>Gives 0 v H' r Ho)):Abs.Fn Tryz.prog zdL [] [x0,x1,x2] r Ho :=
 zh mixed zf3 (fn:=Tryz.f65) (by kernel_rfl) (by kernel_rfl) (by rw [zma]; exact h)
def ztd (q1s0 q1s1 q1s3 q1s10 q1s15 q1s16 y0 y1:AV) (H:List Ob) (B1:List AV→List Ob→Prop) (K:AV→List Ob→Prop):Prop :=
 aBin false false .lss y1 q1s16 fun v3 =>
 ze v3
 (zb 5 q1s15 y1 fun v4 =>
 aLoad true 5 v4 H fun v5 =>
 zy [(.p (.int .i64 0)),(.p (.int .i64 0)),(.p (.bool false)),(.p (.str [])),(.full [])] H fun v6 h7 =>
 zj 5 v6 v5 h7 fun _ h9 =>
 aCall Tryz.prog (.p (.func zfc [])) [q1s0,q1s1,y1] h9 fun v10 h11 =>
 aLen true false q1s3 fun v12 =>
 aBin false false .lss v10 v12 fun v13 =>
 ze v13
 (zew (.int .i64) false (.p (.int .i64 0)) q1s10 v10 h11 fun v14 h15 =>
 zb 1 q1s3 v10 fun v16 =>
 aLoad false 1 v16 h15 fun v17 =>
 aBin false false .lss v14 v17 fun v18 =>
 ze v18
 (aLoad true 5 v6 h15 fun v19 =>
 zn 5 [v19] fun v20 =>
 zI false 5 64 y0 v20 h15 fun v21 h22 =>
 zew (.int .i64) false (.p (.int .i64 0)) q1s10 v10 h22 fun v23 h24 =>
 aBin false false .add v23 (.p (.int .i64 1)) fun v25 =>
 zcH (.int .i64) q1s10 v10 v25 h24 fun _ h27 =>
 aBin false false .add y1 (.p (.int .i64 1)) fun v28 =>
 B1 [v21,v28] h27)
 (zew (.int .i64) false (.p (.int .i64 0)) q1s10 v10 h15 fun v29 h30 =>
 aBin false false .add v29 (.p (.int .i64 1)) fun v31 =>
 zcH (.int .i64) q1s10 v10 v31 h30 fun _ h33 =>
 aBin false false .add y1 (.p (.int .i64 1)) fun v34 =>
 B1 [y0,v34] h33))
 (zew (.int .i64) false (.p (.int .i64 0)) q1s10 v10 h11 fun v35 h36 =>
 aBin false false .add v35 (.p (.int .i64 1)) fun v37 =>
 zcH (.int .i64) q1s10 v10 v37 h36 fun _ h39 =>
 aBin false false .add y1 (.p (.int .i64 1)) fun v40 =>
 B1 [y0,v40] h39))
 (K y0 H)
def ztV (x0 x1 x2 x3:AV) (H:List Ob) (K:AV→List Ob→Prop):Prop :=
 zsy H fun v0 h1 =>
 aLen false false x2 fun v2 =>
 zG 2 [(.full []),(.p (.int .i64 0))] h1 fun xs H B1=>ztd x0 x1 x3 v0 x2 v2 (xs.getD 0 Z) (xs.getD 1 Z) H B1 K
def zq5:Nat→List Nat:=fun k=>match k with | 4=>[9,17] | _=>[]
theorem zy1 (x0 x1 x2 x3:AV) (H:List Ob) (r:AV) (Ho:List Ob):aBody Tryz.prog zq5 Tryz.f69 H [x0,x1,x2,x3] r Ho=ztV x0 x1 x2 x3 H (fun v H'=>Gives H.length v H' r Ho):=by kernel_rfl
theorem zzp {x0 x1 x2 x3:AV} {r:AV} {Ho:List Ob} (h:ztV x0 x1 x2 x3 [] (fun v H'=>Gives 0 v H' r Ho)):Abs.Fn Tryz.prog zpl [] [x0,x1,x2,x3] r Ho :=
 zh mixed zq5 (fn:=Tryz.f69) (by kernel_rfl) (by kernel_rfl) (by rw [zy1]; exact h)
def zjJ (q1s0 q1s1 q1s12 q1s13 y0 y1:AV) (H:List Ob) (B1:List AV→List Ob→Prop) (K:AV→List Ob→Prop):Prop :=
 aBin false false .lss y1 q1s13 fun v1 =>
 ze v1
 (zb 5 q1s12 y1 fun v2 =>
 aLoad true 5 v2 H fun v3 =>
 zy [(.p (.int .i64 0)),(.p (.int .i64 0)),(.p (.bool false)),(.p (.str [])),(.full [])] H fun v4 h5 =>
 zj 5 v4 v3 h5 fun _ h7 =>
 zbw q1s0 fun v8 =>
 za 0 v8 fun v9 =>
 aLoad false 1 v9 h7 fun v10 =>
 zb 21 v10 q1s1 fun v11 =>
 za 1 v11 fun v12 =>
 aLoad true 15 v12 h7 fun v13 =>
 aLoad true 5 v4 h7 fun v14 =>
 zL Tryz.prog (.p (.func zrI [])) [v13,v14] fun v15 =>
 zB v15 0 fun v16 =>
 zB v15 1 fun v17 =>
 aBin false false .neq v17 (.p (.int .i64 0)) fun v18 =>
 ze v18
 (zbw q1s0 fun v19 =>
 za 2 v19 fun v20 =>
 aLoad false 1 v20 h7 fun v21 =>
 aLoad true 5 v4 h7 fun v22 =>
 zr [(.p (.int .i64 0)),(.p (.int .i64 0)),(.p (.int .i64 0)),(.p (.bool false)),(.p (.str [])),(.full [])] [(0,1,q1s1),(1,5,v22)] fun v23 =>
 zn 6 [v23] fun v24 =>
 aCalm [v21,v24] <|
 zI false 6 72 v21 v24 h7 fun v25 h26 =>
 zbw q1s0 fun v27 =>
 za 2 v27 fun v28 =>
 zj 1 v28 v25 h26 fun _ h30 =>
 zI false 5 64 y0 v16 h30 fun v31 h32 =>
 aBin false false .add y1 (.p (.int .i64 1)) fun v33 =>
 B1 [v31,v33] h32)
 (zI false 5 64 y0 v16 h7 fun v34 h35 =>
 aBin false false .add y1 (.p (.int .i64 1)) fun v36 =>
 B1 [v34,v36] h35))
 (K y0 H)
def zh0 (x0 x1 x2:AV) (H:List Ob) (K:AV→List Ob→Prop):Prop :=
 aLen false false x2 fun v0 =>
 zG 2 [(.full []),(.p (.int .i64 0))] H fun xs H B1=>zjJ x0 x1 x2 v0 (xs.getD 0 Z) (xs.getD 1 Z) H B1 K
def ziU:Nat→List Nat:=fun k=>match k with | 3=>[7,14] | _=>[]
theorem zqw (x0 x1 x2:AV) (H:List Ob) (r:AV) (Ho:List Ob):aBody Tryz.prog ziU Tryz.f72 H [x0,x1,x2] r Ho=zh0 x0 x1 x2 H (fun v H'=>Gives H.length v H' r Ho):=by kernel_rfl
theorem zoU {x0 x1 x2:AV} {Hin:List Ob} {r:AV} {Ho:List Ob} (h:zh0 x0 x1 x2 Hin (fun v H'=>Gives Hin.length v H' r Ho)):Abs.Fn Tryz.prog zgC Hin [x0,x1,x2] r Ho :=
 zh mixed ziU (fn:=Tryz.f72) (by kernel_rfl) (by kernel_rfl) (by rw [zqw]; exact h)
def zpm (q1s1 q1s2 q1s3 q1s7 q1s8 y0:AV) (H:List Ob) (B1:List AV→List Ob→Prop) (K:AV→List Ob→Prop):Prop :=
 aBin false false .lss y0 q1s8 fun v9 =>
 ze v9
 (zb 1 q1s7 y0 fun v10 =>
 aLoad false 1 v10 H fun v11 =>
 za 0 q1s3 fun v12 =>
 aLoad false 1 v12 H fun v13 =>
 zL Tryz.prog (.p (.func z7 [])) [v11] fun v14 =>
 zL Tryz.prog (.p (.func zax [])) [v14,(.p (.func zba []))] fun v15 =>
 zL Tryz.prog (.p (.func zaK [])) [v15] fun v16 =>
 zn 1 [v16] fun v17 =>
 aCalm [v13,v17] <|
 zI false 1 24 v13 v17 H fun v18 h19 =>
 za 0 q1s3 fun v20 =>
 zj 1 v20 v18 h19 fun _ h22 =>
 aBin false false .add y0 (.p (.int .i64 1)) fun v23 =>
 B1 [v23] h22)
 (za 1 q1s1 fun v24 =>
 aLoad false 1 v24 H fun v25 =>
 aCall Tryz.prog (.p (.func zaf [])) [v25] H fun v26 h27 =>
 aCall Tryz.prog (.p (.func zaH [])) [v26,(.p (.func zeO []))] h27 fun v28 h29 =>
 aCall Tryz.prog (.p (.func zbB [])) [v28] h29 fun v30 h31 =>
 za 1 q1s3 fun v32 =>
 zj 1 v32 v30 h31 fun _ h34 =>
 aLoad true 2 q1s3 h34 fun v35 =>
 zj 2 q1s2 v35 h34 fun _ h37 =>
 aLoad true 2 q1s2 h37 fun v38 =>
 K v38 h37)
def zoT (x0:AV) (H:List Ob) (K:AV→List Ob→Prop):Prop :=
 aBox x0 H fun v0 h1 =>
 zy [(.full []),(.full [])] h1 fun v2 h3 =>
 zy [(.full []),(.full [])] h3 fun v4 h5 =>
 za 0 v0 fun v6 =>
 aLoad false 1 v6 h5 fun v7 =>
 aLen false false v7 fun v8 =>
 zG 1 [(.p (.int .i64 0))] h5 fun xs H B1=>zpm v0 v2 v4 v7 v8 (xs.getD 0 Z) H B1 K
def znS:Nat→List Nat:=fun k=>match k with | 3=>[9] | _=>[]
theorem zvM (x0:AV) (H:List Ob) (r:AV) (Ho:List Ob):aBody Tryz.prog znS Tryz.f73 H [x0] r Ho=zoT x0 H (fun v H'=>Gives H.length v H' r Ho):=by kernel_rfl
theorem zxi {x0:AV} {r:AV} {Ho:List Ob} (h:zoT x0 [] (fun v H'=>Gives 0 v H' r Ho)):Abs.Fn Tryz.prog zlG [] [x0] r Ho :=
 zh mixed znS (fn:=Tryz.f73) (by kernel_rfl) (by kernel_rfl) (by rw [zvM]; exact h)
def zbP (q1s0 q1s1 q1s7 y0:AV) (H:List Ob) (B1:List AV→List Ob→Prop) (K:AV→List Ob→Prop):Prop :=
 aBin false false .lss y0 q1s7 fun v1 =>
 ze v1
 (zb 5 q1s0 y0 fun v2 =>
 aLoad true 5 v2 H fun v3 =>
 aCall Tryz.prog q1s1 [v3] H fun v4 h5 =>
 ze v4
 (K y0 h5)
 (aBin false false .add y0 (.p (.int .i64 1)) fun v6 =>
 B1 [v6] h5))
 (K (.p (.int .i64 (-1))) H)
def za6 (x0 x1:AV) (H:List Ob) (K:AV→List Ob→Prop):Prop :=
 aLen false false x0 fun v0 =>
 zG 1 [(.p (.int .i64 0))] H fun xs H B1=>zbP x0 x1 v0 (xs.getD 0 Z) H B1 K
def zbJ:Nat→List Nat:=fun k=>match k with | 2=>[8] | _=>[]
theorem zex (x0 x1:AV) (H:List Ob) (r:AV) (Ho:List Ob):aBody Tryz.prog zbJ Tryz.f90 H [x0,x1] r Ho=za6 x0 x1 H (fun v H'=>Gives H.length v H' r Ho):=by kernel_rfl
theorem zez {x0 x1:AV} {r:AV} {Ho:List Ob} (h:za6 x0 x1 [] (fun v H'=>Gives 0 v H' r Ho)):Abs.Fn Tryz.prog zaZ [] [x0,x1] r Ho :=
 zh mixed zbJ (fn:=Tryz.f90) (by kernel_rfl) (by kernel_rfl) (by rw [zex]; exact h)
def zcq (x0 x1:AV) (H:List Ob) (K:AV→List Ob→Prop):Prop :=
 aCall Tryz.prog (.p (.func zcE [])) [x0] H fun v0 h1 =>
 aCall Tryz.prog (.p (.func zb8 [])) [v0,x1] h1 fun _ h3 =>
 K v0 h3
def zde:Nat→List Nat:=fun _=>[]
theorem zhZ (x0 x1:AV) (H:List Ob) (r:AV) (Ho:List Ob):aBody Tryz.prog zde Tryz.f97 H [x0,x1] r Ho=zcq x0 x1 H (fun v H'=>Gives H.length v H' r Ho):=by kernel_rfl
theorem zij {x0 x1:AV} {r:AV} {Ho:List Ob} (h:zcq x0 x1 [] (fun v H'=>Gives 0 v H' r Ho)):Abs.Fn Tryz.prog zax [] [x0,x1] r Ho :=
 zh mixed zde (fn:=Tryz.f97) (by kernel_rfl) (by kernel_rfl) (by rw [zhZ]; exact h)
def zbo (x0:AV) (H:List Ob) (K:AV→List Ob→Prop):Prop :=
 aBox x0 H fun v0 h1 =>
 zaA zW [v0] h1 fun v2 h3 =>
 K v2 h3
def zcc:Nat→List Nat:=fun _=>[]
theorem zfI (x0:AV) (H:List Ob) (r:AV) (Ho:List Ob):aBody Tryz.prog zcc Tryz.f98 H [x0] r Ho=zbo x0 H (fun v H'=>Gives H.length v H' r Ho):=by kernel_rfl
theorem zfA {x0:AV} {r:AV} {Ho:List Ob} (h:zbo x0 [] (fun v H'=>Gives 0 v H' r Ho)):Abs.Fn Tryz.prog z7 [] [x0] r Ho :=
 zh mixed zcc (fn:=Tryz.f98) (by kernel_rfl) (by kernel_rfl) (by rw [zfI]; exact h)
def zcN (x0 x1:AV) (H:List Ob) (K:AV→List Ob→Prop):Prop :=
 aCall Tryz.prog (.p (.func zcU [])) [x0] H fun v0 h1 =>
 aCall Tryz.prog (.p (.func zcs [])) [v0,x1] h1 fun _ h3 =>
 K v0 h3
def zdr:Nat→List Nat:=fun _=>[]
theorem ziN (x0 x1:AV) (H:List Ob) (r:AV) (Ho:List Ob):aBody Tryz.prog zdr Tryz.f103 H [x0,x1] r Ho=zcN x0 x1 H (fun v H'=>Gives H.length v H' r Ho):=by kernel_rfl
theorem zjc {x0 x1:AV} {r:AV} {Ho:List Ob} (h:zcN x0 x1 [] (fun v H'=>Gives 0 v H' r Ho)):Abs.Fn Tryz.prog zaH [] [x0,x1] r Ho :=
 zh mixed zdr (fn:=Tryz.f103) (by kernel_rfl) (by kernel_rfl) (by rw [ziN]; exact h)
def zbD (x0:AV) (H:List Ob) (K:AV→List Ob→Prop):Prop :=
 aBox x0 H fun v0 h1 =>
 zaA z8 [v0] h1 fun v2 h3 =>
 K v2 h3
def zcw:Nat→List Nat:=fun _=>[]
theorem zgF (x0:AV) (H:List Ob) (r:AV) (Ho:List Ob):aBody Tryz.prog zcw Tryz.f104 H [x0] r Ho=zbD x0 H (fun v H'=>Gives H.length v H' r Ho):=by kernel_rfl
theorem zgE {x0:AV} {r:AV} {Ho:List Ob} (h:zbD x0 [] (fun v H'=>Gives 0 v H' r Ho)):Abs.Fn Tryz.prog zaf [] [x0] r Ho :=
 zh mixed zcw (fn:=Tryz.f104) (by kernel_rfl) (by kernel_rfl) (by rw [zgF]; exact h)
def zbX (x0:AV) (H:List Ob) (K:AV→List Ob→Prop):Prop :=
 aLen false false x0 fun v0 =>
 aLen false false x0 fun v1 =>
 zbM false 6 x0 none (some v0) (some v1) fun v2 =>
 K v2 H
def zcR:Nat→List Nat:=fun _=>[]
theorem zg7 (x0:AV) (H:List Ob) (r:AV) (Ho:List Ob):aBody Tryz.prog zcR Tryz.f116 H [x0] r Ho=zbX x0 H (fun v H'=>Gives H.length v H' r Ho):=by kernel_rfl
theorem zhn {x0:AV} {r:AV} {Ho:List Ob} (h:zbX x0 [] (fun v H'=>Gives 0 v H' r Ho)):Abs.Fn Tryz.prog zbB [] [x0] r Ho :=
 zh mixed zcR (fn:=Tryz.f116) (by kernel_rfl) (by kernel_rfl) (by rw [zg7]; exact h)
def zdc (x0:AV) (H:List Ob) (K:AV→List Ob→Prop):Prop :=
 aCall Tryz.prog (.p (.func zb1 [])) [(.full []),x0] H fun v0 h1 =>
 K v0 h1
def zd3:Nat→List Nat:=fun _=>[]
theorem zjY (x0:AV) (H:List Ob) (r:AV) (Ho:List Ob):aBody Tryz.prog zd3 Tryz.f139 H [x0] r Ho=zdc x0 H (fun v H'=>Gives H.length v H' r Ho):=by kernel_rfl
theorem zj1 {x0:AV} {r:AV} {Ho:List Ob} (h:zdc x0 [] (fun v H'=>Gives 0 v H' r Ho)):Abs.Fn Tryz.prog zcE [] [x0] r Ho :=
 zh mixed zd3 (fn:=Tryz.f139) (by kernel_rfl) (by kernel_rfl) (by rw [zjY]; exact h)
def zdx (x0:AV) (H:List Ob) (K:AV→List Ob→Prop):Prop :=
 aCall Tryz.prog (.p (.func zcl [])) [(.full []),x0] H fun v0 h1 =>
 K v0 h1
def zes:Nat→List Nat:=fun _=>[]
theorem zki (x0:AV) (H:List Ob) (r:AV) (Ho:List Ob):aBody Tryz.prog zes Tryz.f145 H [x0] r Ho=zdx x0 H (fun v H'=>Gives H.length v H' r Ho):=by kernel_rfl
theorem zkA {x0:AV} {r:AV} {Ho:List Ob} (h:zdx x0 [] (fun v H'=>Gives 0 v H' r Ho)):Abs.Fn Tryz.prog zcU [] [x0] r Ho :=
 zh mixed zes (fn:=Tryz.f145) (by kernel_rfl) (by kernel_rfl) (by rw [zki]; exact h)
end Go.Proofs.YtdmgbhamigegfaaGreatDoor
end

section
/- Made by program (Gen.lean): functions of the dump, over trees. -/
set_option maxRecDepth 4000
set_option linter.unusedVariables false
namespace Go.Proofs.YtdmgbhamigegfaaGreatDoor
open Go Go.Abs
def zg1 (q1s0 q1s1 q1s7 y0:AV) (H:List Ob) (B1:List AV→List Ob→Prop) (K:AV→List Ob→Prop):Prop :=
 aBin false false .lss y0 q1s7 fun v1 =>
 ze v1
 (zb 1 q1s0 y0 fun v2 =>
 aLoad false 1 v2 H fun v3 =>
 aBin false false .eql q1s1 v3 fun v4 =>
 ze v4
 (K y0 H)
 (aBin false false .add y0 (.p (.int .i64 1)) fun v5 =>
 B1 [v5] H))
 (K (.p (.int .i64 (-1))) H)
def zeS (x0 x1:AV) (H:List Ob) (K:AV→List Ob→Prop):Prop :=
 aLen false false x0 fun v0 =>
 zG 1 [(.p (.int .i64 0))] H fun xs H B1=>zg1 x0 x1 v0 (xs.getD 0 Z) H B1 K
def zgk:Nat→List Nat:=fun k=>match k with | 2=>[8] | _=>[]
theorem zl4 (x0 x1:AV) (H:List Ob) (r:AV) (Ho:List Ob):aBody Tryz.prog zgk Tryz.f68 H [x0,x1] r Ho=zeS x0 x1 H (fun v H'=>Gives H.length v H' r Ho):=by kernel_rfl
theorem zmF {x0 x1:AV} {r:AV} {Ho:List Ob} (h:zeS x0 x1 [] (fun v H'=>Gives 0 v H' r Ho)):Abs.Fn Tryz.prog zco [] [x0,x1] r Ho :=
 zh mixed zgk (fn:=Tryz.f68) (by kernel_rfl) (by kernel_rfl) (by rw [zl4]; exact h)
def zdy (x0 x1:AV) (H:List Ob) (K:AV→List Ob→Prop):Prop :=
 aCall Tryz.prog (.p (.func zco [])) [x0,x1] H fun v0 h1 =>
 aBin false false .geq v0 (.p (.int .i64 0)) fun v2 =>
 K v2 h1
def zev:Nat→List Nat:=fun _=>[]
theorem zkV (x0 x1:AV) (H:List Ob) (r:AV) (Ho:List Ob):aBody Tryz.prog zev Tryz.f134 H [x0,x1] r Ho=zdy x0 x1 H (fun v H'=>Gives H.length v H' r Ho):=by kernel_rfl
theorem zkj {x0 x1:AV} {r:AV} {Ho:List Ob} (h:zdy x0 x1 [] (fun v H'=>Gives 0 v H' r Ho)):Abs.Fn Tryz.prog zbE [] [x0,x1] r Ho :=
 zh mixed zev (fn:=Tryz.f134) (by kernel_rfl) (by kernel_rfl) (by rw [zkV]; exact h)
def zfL (x0:AV) (H:List Ob) (K:AV→List Ob→Prop):Prop :=
 aLen false false x0 fun v0 =>
 aLen false false x0 fun v1 =>
 zbM false 1 x0 none (some v0) (some v1) fun v2 =>
 K v2 H
def zg2:Nat→List Nat:=fun _=>[]
theorem zna (x0:AV) (H:List Ob) (r:AV) (Ho:List Ob):aBody Tryz.prog zg2 Tryz.f135 H [x0] r Ho=zfL x0 H (fun v H'=>Gives H.length v H' r Ho):=by kernel_rfl
theorem znm {x0:AV} {r:AV} {Ho:List Ob} (h:zfL x0 [] (fun v H'=>Gives 0 v H' r Ho)):Abs.Fn Tryz.prog zed [] [x0] r Ho :=
 zh mixed zg2 (fn:=Tryz.f135) (by kernel_rfl) (by kernel_rfl) (by rw [zna]; exact h)
end Go.Proofs.YtdmgbhamigegfaaGreatDoor
end

section
/- Made by program (Gen.lean): functions of the dump, over trees. -/
set_option maxRecDepth 4000
set_option linter.unusedVariables false
namespace Go.Proofs.YtdmgbhamigegfaaGreatDoor
open Go Go.Abs
variable (j0 j1 j2 j3 j4 j5 j6 j7 j8 j9 j10 j11 j12 j13 j14 j15 j16 j17 j18 j19 j20 j21 j22 j23 j24 j25 j26 j27 j28 j29 j30 j31 j32 j33 j34 j35 j36 j37 j38 j39 j40 j41 j42 j43 j44 j45 j46 j47 j48 j49 j50 j51 j52 j53 j54 j55 j56 j57 j58 j59 j60 j61 j62 j63 j64 j65 j66 j67 j68 j69 j70 j71 j72 j73 j74 j75 j76 j77 j78 j79 j80 j81 j82 j83 j84 j85 j86 j87 j88 j89 j90 j91 j92 j93 j94:AV)
def zll (q1s0 y0:AV) (H:List Ob) (B1:List AV→List Ob→Prop) (K:AV→List Ob→Prop):Prop :=
 aLen false false q1s0 fun v2 =>
 aBin false false .lss y0 v2 fun v3 =>
 ze v3
 (zb 21 q1s0 y0 fun v4 =>
 za 0 v4 fun v5 =>
 aLoad false 1 v5 H fun v6 =>
 aLen false true v6 fun v7 =>
 aBin false false .gtr v7 (.p (.int .i64 50)) fun v8 =>
 zl false v8 (fun Q9 =>
 zb 21 q1s0 y0 fun v10 =>
 za 19 v10 fun v11 =>
 aLoad false 1 v11 H fun v12 =>
 aLenS true v12 fun v13 =>
 aBin false false .gtr v13 (.p (.int .i64 50)) fun v14 =>
 (H=H∧Q9 v14)) fun v15 =>
 zl false v15 (fun Q16 =>
 zb 21 q1s0 y0 fun v17 =>
 za 16 v17 fun v18 =>
 aLoad false 1 v18 H fun v19 =>
 aLenS false v19 fun v20 =>
 aBin false false .gtr v20 (.p (.int .i64 8)) fun v21 =>
 (H=H∧Q16 v21)) fun v22 =>
 zl false v22 (fun Q23 =>
 zb 21 q1s0 y0 fun v24 =>
 za 1 v24 fun v25 =>
 aLoad true 15 v25 H fun v26 =>
 aCall Tryz.prog (.p (.func zh5 [])) [v26] H fun v27 h28 =>
 aUn .not v27 fun v29 =>
 (h28=H∧Q23 v29)) fun v30 =>
 ze v30
 (K (.p (.bool false)) H)
 (aBin false false .add y0 (.p (.int .i64 1)) fun v31 =>
 B1 [v31] H))
 (K (.p (.bool true)) H)
def zkJ (x0:AV) (H:List Ob) (K:AV→List Ob→Prop):Prop :=
 aLen false false x0 fun v0 =>
 aBin false false .gtr v0 (.p (.int .i64 20)) fun v1 =>
 ze v1
 (K (.p (.bool false)) H)
 (zG 1 [(.p (.int .i64 0))] H fun xs H B1=>zll x0 (xs.getD 0 Z) H B1 K)
def zkR:Nat→List Nat:=fun k=>match k with | 4=>[3] | _=>[]
theorem zsS (x0:AV) (H:List Ob) (r:AV) (Ho:List Ob):aBody Tryz.prog zkR Tryz.f22 H [x0] r Ho=zkJ x0 H (fun v H'=>Gives H.length v H' r Ho):=by kernel_rfl
theorem zsA {x0:AV} {r:AV} {Ho:List Ob} (h:zkJ x0 [] (fun v H'=>Gives 0 v H' r Ho)):Abs.Fn Tryz.prog zig [] [x0] r Ho :=
 zh mixed zkR (fn:=Tryz.f22) (by kernel_rfl) (by kernel_rfl) (by rw [zsS]; exact h)
def zmI (q1s0 y0 y1:AV) (H:List Ob) (B1:List AV→List Ob→Prop) (K:AV→List Ob→Prop):Prop :=
 aLen false false q1s0 fun v0 =>
 aBin false false .lss y1 v0 fun v1 =>
 ze v1
 (zb 21 q1s0 y1 fun v2 =>
 aLoad true 21 v2 H fun v3 =>
 zy [(.p (.str [])),(.p (.int .i64 0)),(.p (.str [])),(.p (.int .i64 0)),(.full []),(.full []),(.p (.str [])),(.p (.int .i64 0)),(.p (.int .i64 0)),(.p (.bool false)),(.p (.str [])),(.full []),(.p (.int .i64 0)),(.full []),(.p (.int .i64 0)),(.p (.int .i64 0)),(.full []),(.p (.int .i64 0)),(.p (.int .i64 0)),(.p (.str [])),(.p (.bool false))] H fun v4 h5 =>
 zj 21 v4 v3 h5 fun _ h7 =>
 za 0 v4 fun v8 =>
 aLoad false 1 v8 h7 fun v9 =>
 za 1 v4 fun v10 =>
 aLoad true 15 v10 h7 fun v11 =>
 zL Tryz.prog (.p (.func zjj [])) [v11] fun v12 =>
 za 16 v4 fun v13 =>
 aLoad false 1 v13 h7 fun v14 =>
 za 17 v4 fun v15 =>
 aLoad false 1 v15 h7 fun v16 =>
 za 18 v4 fun v17 =>
 aLoad false 1 v17 h7 fun v18 =>
 za 19 v4 fun v19 =>
 aLoad false 1 v19 h7 fun v20 =>
 za 20 v4 fun v21 =>
 aLoad false 1 v21 h7 fun v22 =>
 zr [(.p (.str [])),(.p (.int .i64 0)),(.p (.str [])),(.p (.int .i64 0)),(.full []),(.full []),(.p (.str [])),(.p (.int .i64 0)),(.p (.int .i64 0)),(.p (.bool false)),(.p (.str [])),(.full []),(.p (.int .i64 0)),(.full []),(.p (.int .i64 0)),(.p (.int .i64 0)),(.full []),(.p (.int .i64 0)),(.p (.int .i64 0)),(.p (.str [])),(.p (.bool false))] [(0,1,v9),(1,15,v12),(16,1,v14),(17,1,v16),(18,1,v18),(19,1,v20),(20,1,v22)] fun v23 =>
 zn 21 [v23] fun v24 =>
 aCalm [y0,v24] <|
 zI false 21 288 y0 v24 h7 fun v25 h26 =>
 aBin false false .add y1 (.p (.int .i64 1)) fun v27 =>
 B1 [v25,v27] h26)
 (K y0 H)
def zlO (x0:AV) (H:List Ob) (K:AV→List Ob→Prop):Prop :=
 zG 2 [(.full []),(.p (.int .i64 0))] H fun xs H B1=>zmI x0 (xs.getD 0 Z) (xs.getD 1 Z) H B1 K
def zlk:Nat→List Nat:=fun k=>match k with | 3=>[3,4] | _=>[]
theorem ztK (x0:AV) (H:List Ob) (r:AV) (Ho:List Ob):aBody Tryz.prog zlk Tryz.f24 H [x0] r Ho=zlO x0 H (fun v H'=>Gives H.length v H' r Ho):=by kernel_rfl
theorem ztD {x0:AV} {r:AV} {Ho:List Ob} (h:zlO x0 [] (fun v H'=>Gives 0 v H' r Ho)):Abs.Fn Tryz.prog zjf [] [x0] r Ho :=
 zh mixed zlk (fn:=Tryz.f24) (by kernel_rfl) (by kernel_rfl) (by rw [ztK]; exact h)
def zim (H:List Ob) (K:AV→List Ob→Prop):Prop :=
 zr [(.p (.int .i64 0)),(.full [])] [(0,1,(.p (.int .i64 1)))] fun v0 =>
 zr [(.p (.int .i64 0)),(.p (.str [])),(.p (.int .i64 0)),(.full []),(.full []),(.p (.str [])),(.p (.int .i64 0)),(.p (.int .i64 0)),(.p (.bool false)),(.p (.str [])),(.full []),(.p (.int .i64 0)),(.full []),(.p (.int .i64 0)),(.p (.int .i64 0))] [(0,1,(.p (.int .i64 1))),(1,1,(.p (.str [115]))),(2,2,v0)] fun v1 =>
 zr [(.p (.str [])),(.p (.int .i64 0)),(.p (.str [])),(.p (.int .i64 0)),(.full []),(.full []),(.p (.str [])),(.p (.int .i64 0)),(.p (.int .i64 0)),(.p (.bool false)),(.p (.str [])),(.full []),(.p (.int .i64 0)),(.full []),(.p (.int .i64 0)),(.p (.int .i64 0)),(.full []),(.p (.int .i64 0)),(.p (.int .i64 0)),(.p (.str [])),(.p (.bool false))] [(1,15,v1),(17,1,(.p (.int .i64 2))),(18,1,(.p (.int .i64 4))),(19,1,(.p (.str [103])))] fun v2 =>
 aCall Tryz.prog (.p (.func zkd [])) [] H fun v3 h4 =>
 aCall Tryz.prog (.p (.func zfb [])) [(.p (.int .i64 1))] h4 fun v5 h6 =>
 aCall Tryz.prog (.p (.func zii [])) [v5] h6 fun v7 h8 =>
 zn 8 [v3,v7] fun v9 =>
 aCall Tryz.prog (.p (.func zjr [])) [(.p (.str [97,100,100])),v9] h8 fun v10 h11 =>
 zn 8 [v10] fun v12 =>
 zr [(.p (.int .i64 0)),(.p (.str [])),(.p (.int .i64 0)),(.full []),(.full []),(.p (.str [])),(.p (.int .i64 0)),(.p (.int .i64 0)),(.p (.bool false)),(.p (.str [])),(.full []),(.p (.int .i64 0)),(.full []),(.p (.int .i64 0)),(.p (.int .i64 0))] [(0,1,(.p (.int .i64 2))),(4,1,v12)] fun v13 =>
 zn 1 [(.p (.int .i64 0))] fun v14 =>
 zr [(.p (.str [])),(.p (.int .i64 0)),(.p (.str [])),(.p (.int .i64 0)),(.full []),(.full []),(.p (.str [])),(.p (.int .i64 0)),(.p (.int .i64 0)),(.p (.bool false)),(.p (.str [])),(.full []),(.p (.int .i64 0)),(.full []),(.p (.int .i64 0)),(.p (.int .i64 0)),(.full []),(.p (.int .i64 0)),(.p (.int .i64 0)),(.p (.str [])),(.p (.bool false))] [(1,15,v13),(16,1,v14),(17,1,(.p (.int .i64 2))),(18,1,(.p (.int .i64 4))),(19,1,(.p (.str [103])))] fun v15 =>
 zr [(.p (.int .i64 0)),(.p (.str [])),(.p (.int .i64 0)),(.full []),(.full []),(.p (.str [])),(.p (.int .i64 0)),(.p (.int .i64 0)),(.p (.bool false)),(.p (.str [])),(.full []),(.p (.int .i64 0)),(.full []),(.p (.int .i64 0)),(.p (.int .i64 0))] [(0,1,(.p (.int .i64 9))),(1,1,(.p (.str [97])))] fun v16 =>
 zn 1 [(.p (.int .i64 1))] fun v17 =>
 zr [(.p (.str [])),(.p (.int .i64 0)),(.p (.str [])),(.p (.int .i64 0)),(.full []),(.full []),(.p (.str [])),(.p (.int .i64 0)),(.p (.int .i64 0)),(.p (.bool false)),(.p (.str [])),(.full []),(.p (.int .i64 0)),(.full []),(.p (.int .i64 0)),(.p (.int .i64 0)),(.full []),(.p (.int .i64 0)),(.p (.int .i64 0)),(.p (.str [])),(.p (.bool false))] [(1,15,v16),(16,1,v17),(17,1,(.p (.int .i64 2))),(18,1,(.p (.int .i64 4))),(19,1,(.p (.str [103])))] fun v18 =>
 zn 21 [v2,v15,v18] fun v19 =>
 K v19 h11
def zi3:Nat→List Nat:=fun _=>[]
theorem zqv (H:List Ob) (r:AV) (Ho:List Ob):aBody Tryz.prog zi3 Tryz.f36 H [] r Ho=zim H (fun v H'=>Gives H.length v H' r Ho):=by kernel_rfl
theorem zqN {r:AV} {Ho:List Ob} (h:zim [] (fun v H'=>Gives 0 v H' r Ho)):Abs.Fn Tryz.prog zgK [] [] r Ho :=
 zh mixed zi3 (fn:=Tryz.f36) (by kernel_rfl) (by kernel_rfl) (by rw [zqv]; exact h)
def zoJ (q2s0 q2s44 q2s45 y0:AV) (H:List Ob) (B2:List AV→List Ob→Prop) (K:AV→List Ob→Prop):Prop :=
 aBin false false .lss y0 q2s45 fun v28 =>
 ze v28
 (zb 21 q2s44 y0 fun v29 =>
 aLoad true 21 v29 H fun v30 =>
 zy [(.p (.str [])),(.p (.int .i64 0)),(.p (.str [])),(.p (.int .i64 0)),(.full []),(.full []),(.p (.str [])),(.p (.int .i64 0)),(.p (.int .i64 0)),(.p (.bool false)),(.p (.str [])),(.full []),(.p (.int .i64 0)),(.full []),(.p (.int .i64 0)),(.p (.int .i64 0)),(.full []),(.p (.int .i64 0)),(.p (.int .i64 0)),(.p (.str [])),(.p (.bool false))] H fun v31 h32 =>
 zj 21 v31 v30 h32 fun _ h34 =>
 za 1 v31 fun v35 =>
 za 0 v35 fun v36 =>
 aLoad false 1 v36 h34 fun v37 =>
 aBin false false .neq v37 (.p (.int .i64 9)) fun v38 =>
 zl true v38 (fun Q39 =>
 aCall Tryz.prog (.p (.func zmM [])) [q2s0,y0] h34 fun v40 h41 =>
 aLenS false v40 fun v42 =>
 aBin false false .eql v42 (.p (.int .i64 0)) fun v43 =>
 (h41=h34∧Q39 v43)) fun v44 =>
 ze v44
 (K (.tup [y0,(.p (.int .i64 1))]) h34)
 (aBin false false .add y0 (.p (.int .i64 1)) fun v45 =>
 B2 [v45] h34))
 (K (.tup [(.p (.int .i64 0)),(.p (.int .i64 0))]) H)
def zoq (q1s0 q1s19 q1s20 y0 y1:AV) (H:List Ob) (B1:List AV→List Ob→Prop) (K:AV→List Ob→Prop):Prop :=
 aBin false false .lss y1 q1s20 fun v5 =>
 ze v5
 (zb 21 q1s19 y1 fun v6 =>
 aLoad true 21 v6 H fun v7 =>
 zy [(.p (.str [])),(.p (.int .i64 0)),(.p (.str [])),(.p (.int .i64 0)),(.full []),(.full []),(.p (.str [])),(.p (.int .i64 0)),(.p (.int .i64 0)),(.p (.bool false)),(.p (.str [])),(.full []),(.p (.int .i64 0)),(.full []),(.p (.int .i64 0)),(.p (.int .i64 0)),(.full []),(.p (.int .i64 0)),(.p (.int .i64 0)),(.p (.str [])),(.p (.bool false))] H fun v8 h9 =>
 zj 21 v8 v7 h9 fun _ h11 =>
 zy [(.p (.int .i64 0)),(.full [])] h11 fun v12 h13 =>
 aLoad true 21 v8 h13 fun v14 =>
 zbM false 21 q1s0 none (some y1) none fun v15 =>
 zL Tryz.prog (.p (.func zgD [])) [v14,v15,y0] fun v16 =>
 zB v16 0 fun v17 =>
 zB v16 1 fun v18 =>
 zj 2 v12 v17 h13 fun _ h20 =>
 aBin false false .neq v18 (.p (.int .i64 0)) fun v21 =>
 ze v21
 (K (.tup [y1,v18]) h20)
 (aLoad true 2 v12 h20 fun v22 =>
 zn 2 [v22] fun v23 =>
 zI false 2 32 y0 v23 h20 fun v24 h25 =>
 aBin false false .add y1 (.p (.int .i64 1)) fun v26 =>
 B1 [v24,v26] h25))
 (aLen false false q1s0 fun v27 =>
 zG 1 [(.p (.int .i64 0))] H fun xs H B2=>zoJ q1s0 q1s0 v27 (xs.getD 0 Z) H B2 K)
def zpb (x0:AV) (H:List Ob) (K:AV→List Ob→Prop):Prop :=
 aLen false false x0 fun v0 =>
 aBin false false .eql v0 (.p (.int .i64 0)) fun v1 =>
 ze v1
 (K (.tup [(.p (.int .i64 0)),(.p (.int .i64 3))]) H)
 (aLen false false x0 fun v2 =>
 aBin false false .gtr v2 (.p (.int .i64 16)) fun v3 =>
 ze v3
 (K (.tup [(.p (.int .i64 0)),(.p (.int .i64 10))]) H)
 (aLen false false x0 fun v4 =>
 zG 2 [(.full []),(.p (.int .i64 0))] H fun xs H B1=>zoq x0 x0 v4 (xs.getD 0 Z) (xs.getD 1 Z) H B1 K))
def znL:Nat→List Nat:=fun k=>match k with | 7=>[4,21] | 15=>[46] | _=>[]
theorem zvQ (x0:AV) (H:List Ob) (r:AV) (Ho:List Ob):aBody Tryz.prog znL Tryz.f48 H [x0] r Ho=zpb x0 H (fun v H'=>Gives H.length v H' r Ho):=by kernel_rfl
theorem zww {x0:AV} {r:AV} {Ho:List Ob} (h:zpb x0 [] (fun v H'=>Gives 0 v H' r Ho)):Abs.Fn Tryz.prog zlW [] [x0] r Ho :=
 zh mixed znL (fn:=Tryz.f48) (by kernel_rfl) (by kernel_rfl) (by rw [zvQ]; exact h)
def zpD (x0 x1:AV) (H:List Ob) (K:AV→List Ob→Prop):Prop :=
 aBox x1 H fun v0 h1 =>
 zaA zjp [v0] h1 fun v2 h3 =>
 aCall Tryz.prog (.p (.func zbR [])) [x0,v2] h3 fun v4 h5 =>
 K v4 h5
def zn0:Nat→List Nat:=fun _=>[]
theorem zv8 (x0 x1:AV) (H:List Ob) (r:AV) (Ho:List Ob):aBody Tryz.prog zn0 Tryz.f49 H [x0,x1] r Ho=zpD x0 x1 H (fun v H'=>Gives H.length v H' r Ho):=by kernel_rfl
theorem zvo {x0 x1:AV} {r:AV} {Ho:List Ob} (h:zpD x0 x1 [] (fun v H'=>Gives 0 v H' r Ho)):Abs.Fn Tryz.prog zix [] [x0,x1] r Ho :=
 zh mixed zn0 (fn:=Tryz.f49) (by kernel_rfl) (by kernel_rfl) (by rw [zv8]; exact h)
def zf:Nat→List Nat:=fun k=>match k with | 1000999999=>[1] | 2000001=>[1,2,3,6,9999] | 2000002=>[1,2,3,6,8,9999] | 2000003=>[1,2,3,6,8,9,9999] | 2000004=>[1,2,3,6,8,9,14,9999] | 2000005=>[1,2,3,6,8,9,14,9999] | 2000007=>[1,2,3,6,9,29,9999] | 2000009=>[1,2,3,6,9,39,9999] | 2000010=>[1,2,3,6,9,39,9999] | 2000011=>[1,2,3,6,9,39,9999] | 2000012=>[1,2,3,6,9,39,9999] | 2000013=>[1,2,3,6,9,39,9999] | 2000014=>[1,2,3,6,9,9999] | 2000015=>[1,3,6,9,10,11,9999] | 2000017=>[1,3,6,9,10,11,9999] | 2000019=>[6,10,11,9999] | 3000015=>[1000] | _=>[]
def zw:Nat→Bool:=fun k=>match k with | 1=>true | 2=>true | 3=>true | 4=>true | 5=>true | 7=>true | 9=>true | 10=>true | 11=>true | 12=>true | 13=>true | 14=>true | 15=>true | 17=>true | 19=>true | _=>false
noncomputable def zK:Code:=Tryz.f86.body.getD .skip
noncomputable def zfz:Code:=(cr zK)
noncomputable def zfZ:Code:=(cr (cr zK))
noncomputable def zfU:Code:=(cr (cr (cr zK)))
noncomputable def zfK:Code:=(cr (cl (cl (cl (cr (cr (cr zK)))))))
noncomputable def zfY:Code:=(cr (cl (cl (cr (cr (cr zK))))))
noncomputable def zfW:Code:=(cr (cr (cr (cl (cl (cr (cr (cr zK))))))))
noncomputable def zfy:Code:=(cr (cl (cr (cr (cr (cr (cl (cl (cr (cr (cr zK)))))))))))
noncomputable def zeZ:Code:=(cr (cr (cr (cl (cr (cr (cr (cr (cl (cl (cr (cr (cr zK)))))))))))))
noncomputable def ze5:Code:=(cr (cr (cr (cr (cr (cl (cr (cr (cr (cr (cl (cl (cr (cr (cr zK)))))))))))))))
noncomputable def zeE:Code:=(cr (cr (cr (cr (cr (cr (cr (cl (cr (cr (cr (cr (cl (cl (cr (cr (cr zK)))))))))))))))))
noncomputable def zeP:Code:=(cr (cr (cr (cr (cr (cl (cl (cr (cr (cr zK))))))))))
noncomputable def zeH:Code:=(cr (cr (cr (cr zK))))
noncomputable def zeU:Code:=(cr (cr (cr (cr (cr zK)))))
noncomputable def zF:Code:=(cr (cr (cr (cr (cr (cr zK))))))
noncomputable def zc4:Code:=(cr (cr (cr (cr (cr (cr (cr zK)))))))
def zch (j0 j1 j2:AV) (H:List Ob) (self:Code→List AV→List Ob→Ko→Prop) (kp:Ko):Prop :=
 aBox j0 H fun v0 h1 =>
 zy [(.p (.int .i64 0)),(.full [])] h1 fun v2 h3 =>
 self zfz (keepS [1,2,3,6,9999] 0 [j0,j1,j2,v0,Z,Z,v2,(.p (.int .i64 0)),Z,Z,Z,Z,Z,Z,Z,Z,Z,Z,Z,Z,Z,Z,Z,Z,Z,Z,Z,Z,Z,Z,Z,Z,Z,Z,Z,Z,Z,Z,Z,Z,Z,Z,Z,Z,Z,Z,Z,Z,Z,Z,Z,Z,Z,Z,Z,Z,Z,Z,Z,Z,Z,Z,Z,Z,Z,Z,Z,Z,Z,Z,Z,Z,Z,Z,Z,Z,Z,Z,Z,Z,Z,Z,Z,Z,Z,Z,Z,Z,Z,Z,Z,Z,Z,Z,Z]) h3 kp
theorem zoa (j0 j1 j2:AV) (H:List Ob) (self:Code→List AV→List Ob→Ko→Prop) (kp:Ko):awpX Tryz.prog zf self zw zK ([j0,j1,j2]++List.replicate 92 Z) H kp=zch j0 j1 j2 H self kp:=by kernel_rfl
theorem zoc (j0 j1 j2:AV) (H:List Ob) (kp:Ko):awp Tryz.prog zf zK [j0,j1,j2,Z,Z,Z,Z,Z,Z,Z,Z,Z,Z,Z,Z,Z,Z,Z,Z,Z,Z,Z,Z,Z,Z,Z,Z,Z,Z,Z,Z,Z,Z,Z,Z,Z,Z,Z,Z,Z,Z,Z,Z,Z,Z,Z,Z,Z,Z,Z,Z,Z,Z,Z,Z,Z,Z,Z,Z,Z,Z,Z,Z,Z,Z,Z,Z,Z,Z,Z,Z,Z,Z,Z,Z,Z,Z,Z,Z,Z,Z,Z,Z,Z,Z,Z,Z,Z,Z,Z,Z,Z,Z,Z,Z] H kp=zch j0 j1 j2 H (awp Tryz.prog zf) kp :=
 Eq.trans (by kernel_rfl) ((zcQ Tryz.prog zf zw _ _ _ _).symm.trans (zoa j0 j1 j2 H _ kp))
theorem zqx (j0 j1 j2:AV) (H:List Ob) (r:AV) (Ho:List Ob):aBody Tryz.prog zf Tryz.f86 H [j0,j1,j2] r Ho=zch j0 j1 j2 H (awp Tryz.prog zf) (kEnd Tryz.prog [.cell 6 45,.tmp 7] fun v H'=>Gives H.length v H' r Ho) :=
 (show aBody Tryz.prog zf Tryz.f86 H [j0,j1,j2] r Ho=awp Tryz.prog zf zK [j0,j1,j2,Z,Z,Z,Z,Z,Z,Z,Z,Z,Z,Z,Z,Z,Z,Z,Z,Z,Z,Z,Z,Z,Z,Z,Z,Z,Z,Z,Z,Z,Z,Z,Z,Z,Z,Z,Z,Z,Z,Z,Z,Z,Z,Z,Z,Z,Z,Z,Z,Z,Z,Z,Z,Z,Z,Z,Z,Z,Z,Z,Z,Z,Z,Z,Z,Z,Z,Z,Z,Z,Z,Z,Z,Z,Z,Z,Z,Z,Z,Z,Z,Z,Z,Z,Z,Z,Z,Z,Z,Z,Z,Z,Z] H (kEnd Tryz.prog [.cell 6 45,.tmp 7] fun v H'=>Gives H.length v H' r Ho) from by kernel_rfl).trans (zoc j0 j1 j2 H _)
theorem zqy {j0 j1 j2:AV} {r:AV} {Ho:List Ob} (h:zch j0 j1 j2 [] (awp Tryz.prog zf) (kEnd Tryz.prog [.cell 6 45,.tmp 7] fun v H'=>Gives 0 v H' r Ho)):Abs.Fn Tryz.prog zgD [] [j0,j1,j2] r Ho :=
 zh mixed zf (fn:=Tryz.f86) (by kernel_rfl) (by kernel_rfl) (by rw [zqx]; exact h)
def zfH (j1 j2 j3 j6:AV) (H:List Ob) (self:Code→List AV→List Ob→Ko→Prop) (kp:Ko):Prop :=
 zaA zeL [j3] H fun v4 h5 =>
 self zfZ (keepS [1,2,3,6,8,9999] 0 [Z,j1,j2,j3,Z,Z,j6,Z,v4,Z,Z,Z,v4,Z,Z,Z,Z,Z,Z,Z,Z,Z,Z,Z,Z,Z,Z,Z,Z,Z,Z,Z,Z,Z,Z,Z,Z,Z,Z,Z,Z,Z,Z,Z,Z,Z,Z,Z,Z,Z,Z,Z,Z,Z,Z,Z,Z,Z,Z,Z,Z,Z,Z,Z,Z,Z,Z,Z,Z,Z,Z,Z,Z,Z,Z,Z,Z,Z,Z,Z,Z,Z,Z,Z,Z,Z,Z,Z,Z,Z,Z,Z,Z,Z,Z]) h5 kp
theorem zoh (j1 j2 j3 j6:AV) (H:List Ob) (self:Code→List AV→List Ob→Ko→Prop) (kp:Ko):awpX Tryz.prog zf self zw zfz ([Z,j1,j2,j3,Z,Z,j6]++List.replicate 88 Z) H kp=zfH j1 j2 j3 j6 H self kp:=by kernel_rfl
theorem zmK (H:List Ob) (kp:Ko):awp Tryz.prog zf zfz (keepS [1,2,3,6,9999] 0 [j0,j1,j2,j3,j4,j5,j6,j7,j8,j9,j10,j11,j12,j13,j14,j15,j16,j17,j18,j19,j20,j21,j22,j23,j24,j25,j26,j27,j28,j29,j30,j31,j32,j33,j34,j35,j36,j37,j38,j39,j40,j41,j42,j43,j44,j45,j46,j47,j48,j49,j50,j51,j52,j53,j54,j55,j56,j57,j58,j59,j60,j61,j62,j63,j64,j65,j66,j67,j68,j69,j70,j71,j72,j73,j74,j75,j76,j77,j78,j79,j80,j81,j82,j83,j84,j85,j86,j87,j88,j89,j90,j91,j92,j93,j94]) H kp=zfH j1 j2 j3 j6 H (awp Tryz.prog zf) kp :=
 Eq.trans (by kernel_rfl) ((zcQ Tryz.prog zf zw _ _ _ _).symm.trans (zoh j1 j2 j3 j6 H _ kp))
def zfD (j1 j2 j3 j6 j8:AV) (H:List Ob) (self:Code→List AV→List Ob→Ko→Prop) (kp:Ko):Prop :=
 zaA ze2 [j3] H fun v6 h7 =>
 self zfU (keepS [1,2,3,6,8,9,9999] 0 [Z,j1,j2,j3,Z,Z,j6,Z,j8,v6,Z,Z,Z,v6,Z,Z,Z,Z,Z,Z,Z,Z,Z,Z,Z,Z,Z,Z,Z,Z,Z,Z,Z,Z,Z,Z,Z,Z,Z,Z,Z,Z,Z,Z,Z,Z,Z,Z,Z,Z,Z,Z,Z,Z,Z,Z,Z,Z,Z,Z,Z,Z,Z,Z,Z,Z,Z,Z,Z,Z,Z,Z,Z,Z,Z,Z,Z,Z,Z,Z,Z,Z,Z,Z,Z,Z,Z,Z,Z,Z,Z,Z,Z,Z,Z]) h7 kp
theorem zn5 (j1 j2 j3 j6 j8:AV) (H:List Ob) (self:Code→List AV→List Ob→Ko→Prop) (kp:Ko):awpX Tryz.prog zf self zw zfZ ([Z,j1,j2,j3,Z,Z,j6,Z,j8]++List.replicate 86 Z) H kp=zfD j1 j2 j3 j6 j8 H self kp:=by kernel_rfl
theorem znq (H:List Ob) (kp:Ko):awp Tryz.prog zf zfZ (keepS [1,2,3,6,8,9999] 0 [j0,j1,j2,j3,j4,j5,j6,j7,j8,j9,j10,j11,j12,j13,j14,j15,j16,j17,j18,j19,j20,j21,j22,j23,j24,j25,j26,j27,j28,j29,j30,j31,j32,j33,j34,j35,j36,j37,j38,j39,j40,j41,j42,j43,j44,j45,j46,j47,j48,j49,j50,j51,j52,j53,j54,j55,j56,j57,j58,j59,j60,j61,j62,j63,j64,j65,j66,j67,j68,j69,j70,j71,j72,j73,j74,j75,j76,j77,j78,j79,j80,j81,j82,j83,j84,j85,j86,j87,j88,j89,j90,j91,j92,j93,j94]) H kp=zfD j1 j2 j3 j6 j8 H (awp Tryz.prog zf) kp :=
 Eq.trans (by kernel_rfl) ((zcQ Tryz.prog zf zw _ _ _ _).symm.trans (zn5 j1 j2 j3 j6 j8 H _ kp))
def zfV (j1 j2 j3 j6 j8 j9:AV) (H:List Ob) (self:Code→List AV→List Ob→Ko→Prop) (kp:Ko):Prop :=
 za 0 j3 fun v8 =>
 aLoad false 1 v8 H fun v9 =>
 aBin false false .neq v9 (.p (.str [])) fun v10 =>
 zl true v10 (fun Q11 =>
 za 0 j3 fun v12 =>
 aLoad false 1 v12 H fun v13 =>
 aCall Tryz.prog (.p (.func zmt [])) [v13] H fun v14 h15 =>
 aUn .not v14 fun v16 =>
 (h15=H∧Q11 v16)) fun v17 =>
 self zfK (keepS [1,2,3,6,8,9,14,9999] 0 [Z,j1,j2,j3,Z,Z,j6,Z,j8,j9,Z,Z,Z,Z,v17,v8,v9,v10,v10,Z,Z,Z,Z,v17,Z,Z,Z,Z,Z,Z,Z,Z,Z,Z,Z,Z,Z,Z,Z,Z,Z,Z,Z,Z,Z,Z,Z,Z,Z,Z,Z,Z,Z,Z,Z,Z,Z,Z,Z,Z,Z,Z,Z,Z,Z,Z,Z,Z,Z,Z,Z,Z,Z,Z,Z,Z,Z,Z,Z,Z,Z,Z,Z,Z,Z,Z,Z,Z,Z,Z,Z,Z,Z,Z,Z]) H (kSeq self zfY [1,2,3,6,8,9,14,9999] (zvv 0 (kSeq self zeH [1,2,3,6,9,9999] kp)))
theorem zob (j1 j2 j3 j6 j8 j9:AV) (H:List Ob) (self:Code→List AV→List Ob→Ko→Prop) (kp:Ko):awpX Tryz.prog zf self zw zfU ([Z,j1,j2,j3,Z,Z,j6,Z,j8,j9]++List.replicate 85 Z) H kp=zfV j1 j2 j3 j6 j8 j9 H self kp:=by kernel_rfl
theorem znb (H:List Ob) (kp:Ko):awp Tryz.prog zf zfU (keepS [1,2,3,6,8,9,9999] 0 [j0,j1,j2,j3,j4,j5,j6,j7,j8,j9,j10,j11,j12,j13,j14,j15,j16,j17,j18,j19,j20,j21,j22,j23,j24,j25,j26,j27,j28,j29,j30,j31,j32,j33,j34,j35,j36,j37,j38,j39,j40,j41,j42,j43,j44,j45,j46,j47,j48,j49,j50,j51,j52,j53,j54,j55,j56,j57,j58,j59,j60,j61,j62,j63,j64,j65,j66,j67,j68,j69,j70,j71,j72,j73,j74,j75,j76,j77,j78,j79,j80,j81,j82,j83,j84,j85,j86,j87,j88,j89,j90,j91,j92,j93,j94]) H kp=zfV j1 j2 j3 j6 j8 j9 H (awp Tryz.prog zf) kp :=
 Eq.trans (by kernel_rfl) ((zcQ Tryz.prog zf zw _ _ _ _).symm.trans (zob j1 j2 j3 j6 j8 j9 H _ kp))
def zfX (j1 j2 j3 j6 j8 j9 j14:AV) (H:List Ob) (_:Code→List AV→List Ob→Ko→Prop) (kp:Ko):Prop :=
 ze j14
 (kp .normal [Z,j1,j2,j3,Z,Z,j6,Z,j8,j9,Z,Z,Z,Z,(.p (.bool true)),Z,Z,Z,Z,Z,Z,Z,Z,Z,Z,Z,Z,Z,Z,Z,Z,Z,Z,Z,Z,Z,Z,Z,Z,Z,Z,Z,Z,Z,Z,Z,Z,Z,Z,Z,Z,Z,Z,Z,Z,Z,Z,Z,Z,Z,Z,Z,Z,Z,Z,Z,Z,Z,Z,Z,Z,Z,Z,Z,Z,Z,Z,Z,Z,Z,Z,Z,Z,Z,Z,Z,Z,Z,Z,Z,Z,Z,Z,Z,Z] H)
 (za 19 j3 fun v18 =>
 aLoad false 1 v18 H fun v19 =>
 aCall Tryz.prog (.p (.func zmt [])) [v19] H fun v20 h21 =>
 aUn .not v20 fun v22 =>
 kp .normal [Z,j1,j2,j3,Z,Z,j6,Z,j8,j9,Z,Z,Z,Z,v22,Z,Z,Z,Z,Z,Z,Z,Z,Z,v18,v19,v20,v22,Z,Z,Z,Z,Z,Z,Z,Z,Z,Z,Z,Z,Z,Z,Z,Z,Z,Z,Z,Z,Z,Z,Z,Z,Z,Z,Z,Z,Z,Z,Z,Z,Z,Z,Z,Z,Z,Z,Z,Z,Z,Z,Z,Z,Z,Z,Z,Z,Z,Z,Z,Z,Z,Z,Z,Z,Z,Z,Z,Z,Z,Z,Z,Z,Z,Z,Z] h21)
theorem zof (j1 j2 j3 j6 j8 j9 j14:AV) (H:List Ob) (self:Code→List AV→List Ob→Ko→Prop) (kp:Ko):awpX Tryz.prog zf self zw zfK ([Z,j1,j2,j3,Z,Z,j6,Z,j8,j9,Z,Z,Z,Z,j14]++List.replicate 80 Z) H kp=zfX j1 j2 j3 j6 j8 j9 j14 H self kp:=by kernel_rfl
theorem zmT (H:List Ob) (kp:Ko):awp Tryz.prog zf zfK (keepS [1,2,3,6,8,9,14,9999] 0 [j0,j1,j2,j3,j4,j5,j6,j7,j8,j9,j10,j11,j12,j13,j14,j15,j16,j17,j18,j19,j20,j21,j22,j23,j24,j25,j26,j27,j28,j29,j30,j31,j32,j33,j34,j35,j36,j37,j38,j39,j40,j41,j42,j43,j44,j45,j46,j47,j48,j49,j50,j51,j52,j53,j54,j55,j56,j57,j58,j59,j60,j61,j62,j63,j64,j65,j66,j67,j68,j69,j70,j71,j72,j73,j74,j75,j76,j77,j78,j79,j80,j81,j82,j83,j84,j85,j86,j87,j88,j89,j90,j91,j92,j93,j94]) H kp=zfX j1 j2 j3 j6 j8 j9 j14 H (awp Tryz.prog zf) kp :=
 Eq.trans (by kernel_rfl) ((zcQ Tryz.prog zf zw _ _ _ _).symm.trans (zof j1 j2 j3 j6 j8 j9 j14 H _ kp))
def zdp (j1 j2 j3 j6 j8 j9 j14:AV) (H:List Ob) (self:Code→List AV→List Ob→Ko→Prop) (kp:Ko):Prop :=
 ze j14
 (zr [(.p (.int .i64 0)),(.full [])] [] fun v23 =>
 zj 2 j6 v23 H fun _ h25 =>
 kp .ret [Z,j1,j2,j3,Z,Z,j6,(.p (.int .i64 6)),j8,j9,Z,Z,Z,Z,(.p (.bool true)),Z,Z,Z,Z,Z,Z,Z,Z,Z,Z,Z,Z,Z,v23,Z,Z,Z,Z,Z,Z,Z,Z,Z,Z,Z,Z,Z,Z,Z,Z,Z,Z,Z,Z,Z,Z,Z,Z,Z,Z,Z,Z,Z,Z,Z,Z,Z,Z,Z,Z,Z,Z,Z,Z,Z,Z,Z,Z,Z,Z,Z,Z,Z,Z,Z,Z,Z,Z,Z,Z,Z,Z,Z,Z,Z,Z,Z,Z,Z,Z] h25)
 (za 0 j3 fun v26 =>
 aLoad false 1 v26 H fun v27 =>
 aBin false false .neq v27 (.p (.str [])) fun v28 =>
 zl true v28 (fun Q29 =>
 aCall Tryz.prog (.p (.func zX [])) [j1,j8] H fun v30 h31 =>
 (h31=H∧Q29 v30)) fun v32 =>
 self zfW (keepS [1,2,3,6,9,29,9999] 0 [Z,j1,j2,j3,Z,Z,j6,Z,j8,j9,Z,Z,Z,Z,(.p (.bool false)),Z,Z,Z,Z,Z,Z,Z,Z,Z,Z,Z,Z,Z,Z,v32,v26,v27,v28,v28,Z,Z,Z,v32,Z,Z,Z,Z,Z,Z,Z,Z,Z,Z,Z,Z,Z,Z,Z,Z,Z,Z,Z,Z,Z,Z,Z,Z,Z,Z,Z,Z,Z,Z,Z,Z,Z,Z,Z,Z,Z,Z,Z,Z,Z,Z,Z,Z,Z,Z,Z,Z,Z,Z,Z,Z,Z,Z,Z,Z,Z]) H kp)
theorem zn1 (j1 j2 j3 j6 j8 j9 j14:AV) (H:List Ob) (self:Code→List AV→List Ob→Ko→Prop) (kp:Ko):awpX Tryz.prog zf self zw zfY ([Z,j1,j2,j3,Z,Z,j6,Z,j8,j9,Z,Z,Z,Z,j14]++List.replicate 80 Z) H kp=zdp j1 j2 j3 j6 j8 j9 j14 H self kp:=by kernel_rfl
theorem zhj (H:List Ob) (kp:Ko):awp Tryz.prog zf zfY (keepS [1,2,3,6,8,9,14,9999] 0 [j0,j1,j2,j3,j4,j5,j6,j7,j8,j9,j10,j11,j12,j13,j14,j15,j16,j17,j18,j19,j20,j21,j22,j23,j24,j25,j26,j27,j28,j29,j30,j31,j32,j33,j34,j35,j36,j37,j38,j39,j40,j41,j42,j43,j44,j45,j46,j47,j48,j49,j50,j51,j52,j53,j54,j55,j56,j57,j58,j59,j60,j61,j62,j63,j64,j65,j66,j67,j68,j69,j70,j71,j72,j73,j74,j75,j76,j77,j78,j79,j80,j81,j82,j83,j84,j85,j86,j87,j88,j89,j90,j91,j92,j93,j94]) H kp=zdp j1 j2 j3 j6 j8 j9 j14 H (awp Tryz.prog zf) kp :=
 Eq.trans (by kernel_rfl) ((zcQ Tryz.prog zf zw _ _ _ _).symm.trans (zn1 j1 j2 j3 j6 j8 j9 j14 H _ kp))
def zfJ (j1 j2 j3 j6 j9 j29:AV) (H:List Ob) (self:Code→List AV→List Ob→Ko→Prop) (kp:Ko):Prop :=
 ze j29
 (zr [(.p (.int .i64 0)),(.full [])] [] fun v33 =>
 zj 2 j6 v33 H fun _ h35 =>
 kp .ret [Z,j1,j2,j3,Z,Z,j6,(.p (.int .i64 7)),Z,j9,Z,Z,Z,Z,Z,Z,Z,Z,Z,Z,Z,Z,Z,Z,Z,Z,Z,Z,Z,(.p (.bool true)),Z,Z,Z,Z,Z,Z,Z,Z,v33,Z,Z,Z,Z,Z,Z,Z,Z,Z,Z,Z,Z,Z,Z,Z,Z,Z,Z,Z,Z,Z,Z,Z,Z,Z,Z,Z,Z,Z,Z,Z,Z,Z,Z,Z,Z,Z,Z,Z,Z,Z,Z,Z,Z,Z,Z,Z,Z,Z,Z,Z,Z,Z,Z,Z,Z] h35)
 (za 17 j3 fun v36 =>
 aLoad false 1 v36 H fun v37 =>
 aBin false false .lss v37 (.p (.int .i64 1)) fun v38 =>
 self zfy (keepS [1,2,3,6,9,39,9999] 0 [Z,j1,j2,j3,Z,Z,j6,Z,Z,j9,Z,Z,Z,Z,Z,Z,Z,Z,Z,Z,Z,Z,Z,Z,Z,Z,Z,Z,Z,(.p (.bool false)),Z,Z,Z,Z,Z,Z,Z,Z,Z,v38,v36,v37,v38,Z,Z,Z,Z,Z,Z,Z,Z,Z,Z,Z,Z,Z,Z,Z,Z,Z,Z,Z,Z,Z,Z,Z,Z,Z,Z,Z,Z,Z,Z,Z,Z,Z,Z,Z,Z,Z,Z,Z,Z,Z,Z,Z,Z,Z,Z,Z,Z,Z,Z,Z,Z]) H (kSeq self zeP [1,2,3,6,9,39,9999] kp))
theorem zn4 (j1 j2 j3 j6 j9 j29:AV) (H:List Ob) (self:Code→List AV→List Ob→Ko→Prop) (kp:Ko):awpX Tryz.prog zf self zw zfW ([Z,j1,j2,j3,Z,Z,j6,Z,Z,j9]++List.replicate 19 Z++[j29]++List.replicate 65 Z) H kp=zfJ j1 j2 j3 j6 j9 j29 H self kp:=by kernel_rfl
theorem zmL (H:List Ob) (kp:Ko):awp Tryz.prog zf zfW (keepS [1,2,3,6,9,29,9999] 0 [j0,j1,j2,j3,j4,j5,j6,j7,j8,j9,j10,j11,j12,j13,j14,j15,j16,j17,j18,j19,j20,j21,j22,j23,j24,j25,j26,j27,j28,j29,j30,j31,j32,j33,j34,j35,j36,j37,j38,j39,j40,j41,j42,j43,j44,j45,j46,j47,j48,j49,j50,j51,j52,j53,j54,j55,j56,j57,j58,j59,j60,j61,j62,j63,j64,j65,j66,j67,j68,j69,j70,j71,j72,j73,j74,j75,j76,j77,j78,j79,j80,j81,j82,j83,j84,j85,j86,j87,j88,j89,j90,j91,j92,j93,j94]) H kp=zfJ j1 j2 j3 j6 j9 j29 H (awp Tryz.prog zf) kp :=
 Eq.trans (by kernel_rfl) ((zcQ Tryz.prog zf zw _ _ _ _).symm.trans (zn4 j1 j2 j3 j6 j9 j29 H _ kp))
def zfC (j1 j2 j3 j6 j9 j39:AV) (H:List Ob) (self:Code→List AV→List Ob→Ko→Prop) (kp:Ko):Prop :=
 ze j39
 (kp .normal [Z,j1,j2,j3,Z,Z,j6,Z,Z,j9,Z,Z,Z,Z,Z,Z,Z,Z,Z,Z,Z,Z,Z,Z,Z,Z,Z,Z,Z,Z,Z,Z,Z,Z,Z,Z,Z,Z,Z,(.p (.bool true)),Z,Z,Z,Z,Z,Z,Z,Z,Z,Z,Z,Z,Z,Z,Z,Z,Z,Z,Z,Z,Z,Z,Z,Z,Z,Z,Z,Z,Z,Z,Z,Z,Z,Z,Z,Z,Z,Z,Z,Z,Z,Z,Z,Z,Z,Z,Z,Z,Z,Z,Z,Z,Z,Z,Z] H)
 (za 17 j3 fun v39 =>
 aLoad false 1 v39 H fun v40 =>
 aBin false false .gtr v40 (.p (.int .i64 4)) fun v41 =>
 self zeZ (keepS [1,2,3,6,9,39,9999] 0 [Z,j1,j2,j3,Z,Z,j6,Z,Z,j9,Z,Z,Z,Z,Z,Z,Z,Z,Z,Z,Z,Z,Z,Z,Z,Z,Z,Z,Z,Z,Z,Z,Z,Z,Z,Z,Z,Z,Z,v41,Z,Z,Z,v39,v40,v41,Z,Z,Z,Z,Z,Z,Z,Z,Z,Z,Z,Z,Z,Z,Z,Z,Z,Z,Z,Z,Z,Z,Z,Z,Z,Z,Z,Z,Z,Z,Z,Z,Z,Z,Z,Z,Z,Z,Z,Z,Z,Z,Z,Z,Z,Z,Z,Z,Z]) H kp)
theorem zn2 (j1 j2 j3 j6 j9 j39:AV) (H:List Ob) (self:Code→List AV→List Ob→Ko→Prop) (kp:Ko):awpX Tryz.prog zf self zw zfy ([Z,j1,j2,j3,Z,Z,j6,Z,Z,j9]++List.replicate 29 Z++[j39]++List.replicate 55 Z) H kp=zfC j1 j2 j3 j6 j9 j39 H self kp:=by kernel_rfl
theorem zmY (H:List Ob) (kp:Ko):awp Tryz.prog zf zfy (keepS [1,2,3,6,9,39,9999] 0 [j0,j1,j2,j3,j4,j5,j6,j7,j8,j9,j10,j11,j12,j13,j14,j15,j16,j17,j18,j19,j20,j21,j22,j23,j24,j25,j26,j27,j28,j29,j30,j31,j32,j33,j34,j35,j36,j37,j38,j39,j40,j41,j42,j43,j44,j45,j46,j47,j48,j49,j50,j51,j52,j53,j54,j55,j56,j57,j58,j59,j60,j61,j62,j63,j64,j65,j66,j67,j68,j69,j70,j71,j72,j73,j74,j75,j76,j77,j78,j79,j80,j81,j82,j83,j84,j85,j86,j87,j88,j89,j90,j91,j92,j93,j94]) H kp=zfC j1 j2 j3 j6 j9 j39 H (awp Tryz.prog zf) kp :=
 Eq.trans (by kernel_rfl) ((zcQ Tryz.prog zf zw _ _ _ _).symm.trans (zn2 j1 j2 j3 j6 j9 j39 H _ kp))
def zeM (j1 j2 j3 j6 j9 j39:AV) (H:List Ob) (self:Code→List AV→List Ob→Ko→Prop) (kp:Ko):Prop :=
 ze j39
 (kp .normal [Z,j1,j2,j3,Z,Z,j6,Z,Z,j9,Z,Z,Z,Z,Z,Z,Z,Z,Z,Z,Z,Z,Z,Z,Z,Z,Z,Z,Z,Z,Z,Z,Z,Z,Z,Z,Z,Z,Z,(.p (.bool true)),Z,Z,Z,Z,Z,Z,Z,Z,Z,Z,Z,Z,Z,Z,Z,Z,Z,Z,Z,Z,Z,Z,Z,Z,Z,Z,Z,Z,Z,Z,Z,Z,Z,Z,Z,Z,Z,Z,Z,Z,Z,Z,Z,Z,Z,Z,Z,Z,Z,Z,Z,Z,Z,Z,Z] H)
 (za 18 j3 fun v42 =>
 aLoad false 1 v42 H fun v43 =>
 za 17 j3 fun v44 =>
 aLoad false 1 v44 H fun v45 =>
 aBin false false .lss v43 v45 fun v46 =>
 self ze5 (keepS [1,2,3,6,9,39,9999] 0 [Z,j1,j2,j3,Z,Z,j6,Z,Z,j9,Z,Z,Z,Z,Z,Z,Z,Z,Z,Z,Z,Z,Z,Z,Z,Z,Z,Z,Z,Z,Z,Z,Z,Z,Z,Z,Z,Z,Z,v46,Z,Z,Z,Z,Z,Z,v42,v43,v44,v45,v46,Z,Z,Z,Z,Z,Z,Z,Z,Z,Z,Z,Z,Z,Z,Z,Z,Z,Z,Z,Z,Z,Z,Z,Z,Z,Z,Z,Z,Z,Z,Z,Z,Z,Z,Z,Z,Z,Z,Z,Z,Z,Z,Z,Z]) H kp)
theorem zmO (j1 j2 j3 j6 j9 j39:AV) (H:List Ob) (self:Code→List AV→List Ob→Ko→Prop) (kp:Ko):awpX Tryz.prog zf self zw zeZ ([Z,j1,j2,j3,Z,Z,j6,Z,Z,j9]++List.replicate 29 Z++[j39]++List.replicate 55 Z) H kp=zeM j1 j2 j3 j6 j9 j39 H self kp:=by kernel_rfl
theorem zms (H:List Ob) (kp:Ko):awp Tryz.prog zf zeZ (keepS [1,2,3,6,9,39,9999] 0 [j0,j1,j2,j3,j4,j5,j6,j7,j8,j9,j10,j11,j12,j13,j14,j15,j16,j17,j18,j19,j20,j21,j22,j23,j24,j25,j26,j27,j28,j29,j30,j31,j32,j33,j34,j35,j36,j37,j38,j39,j40,j41,j42,j43,j44,j45,j46,j47,j48,j49,j50,j51,j52,j53,j54,j55,j56,j57,j58,j59,j60,j61,j62,j63,j64,j65,j66,j67,j68,j69,j70,j71,j72,j73,j74,j75,j76,j77,j78,j79,j80,j81,j82,j83,j84,j85,j86,j87,j88,j89,j90,j91,j92,j93,j94]) H kp=zeM j1 j2 j3 j6 j9 j39 H (awp Tryz.prog zf) kp :=
 Eq.trans (by kernel_rfl) ((zcQ Tryz.prog zf zw _ _ _ _).symm.trans (zmO j1 j2 j3 j6 j9 j39 H _ kp))
def ze1 (j1 j2 j3 j6 j9 j39:AV) (H:List Ob) (self:Code→List AV→List Ob→Ko→Prop) (kp:Ko):Prop :=
 ze j39
 (kp .normal [Z,j1,j2,j3,Z,Z,j6,Z,Z,j9,Z,Z,Z,Z,Z,Z,Z,Z,Z,Z,Z,Z,Z,Z,Z,Z,Z,Z,Z,Z,Z,Z,Z,Z,Z,Z,Z,Z,Z,(.p (.bool true)),Z,Z,Z,Z,Z,Z,Z,Z,Z,Z,Z,Z,Z,Z,Z,Z,Z,Z,Z,Z,Z,Z,Z,Z,Z,Z,Z,Z,Z,Z,Z,Z,Z,Z,Z,Z,Z,Z,Z,Z,Z,Z,Z,Z,Z,Z,Z,Z,Z,Z,Z,Z,Z,Z,Z] H)
 (za 18 j3 fun v47 =>
 aLoad false 1 v47 H fun v48 =>
 aBin false false .gtr v48 (.p (.int .i64 16)) fun v49 =>
 self zeE (keepS [1,2,3,6,9,39,9999] 0 [Z,j1,j2,j3,Z,Z,j6,Z,Z,j9,Z,Z,Z,Z,Z,Z,Z,Z,Z,Z,Z,Z,Z,Z,Z,Z,Z,Z,Z,Z,Z,Z,Z,Z,Z,Z,Z,Z,Z,v49,Z,Z,Z,Z,Z,Z,Z,Z,Z,Z,Z,v47,v48,v49,Z,Z,Z,Z,Z,Z,Z,Z,Z,Z,Z,Z,Z,Z,Z,Z,Z,Z,Z,Z,Z,Z,Z,Z,Z,Z,Z,Z,Z,Z,Z,Z,Z,Z,Z,Z,Z,Z,Z,Z,Z]) H kp)
theorem znp (j1 j2 j3 j6 j9 j39:AV) (H:List Ob) (self:Code→List AV→List Ob→Ko→Prop) (kp:Ko):awpX Tryz.prog zf self zw ze5 ([Z,j1,j2,j3,Z,Z,j6,Z,Z,j9]++List.replicate 29 Z++[j39]++List.replicate 55 Z) H kp=ze1 j1 j2 j3 j6 j9 j39 H self kp:=by kernel_rfl
theorem zml (H:List Ob) (kp:Ko):awp Tryz.prog zf ze5 (keepS [1,2,3,6,9,39,9999] 0 [j0,j1,j2,j3,j4,j5,j6,j7,j8,j9,j10,j11,j12,j13,j14,j15,j16,j17,j18,j19,j20,j21,j22,j23,j24,j25,j26,j27,j28,j29,j30,j31,j32,j33,j34,j35,j36,j37,j38,j39,j40,j41,j42,j43,j44,j45,j46,j47,j48,j49,j50,j51,j52,j53,j54,j55,j56,j57,j58,j59,j60,j61,j62,j63,j64,j65,j66,j67,j68,j69,j70,j71,j72,j73,j74,j75,j76,j77,j78,j79,j80,j81,j82,j83,j84,j85,j86,j87,j88,j89,j90,j91,j92,j93,j94]) H kp=ze1 j1 j2 j3 j6 j9 j39 H (awp Tryz.prog zf) kp :=
 Eq.trans (by kernel_rfl) ((zcQ Tryz.prog zf zw _ _ _ _).symm.trans (znp j1 j2 j3 j6 j9 j39 H _ kp))
def zeI (j1 j2 j3 j6 j9 j39:AV) (H:List Ob) (_:Code→List AV→List Ob→Ko→Prop) (kp:Ko):Prop :=
 ze j39
 (kp .normal [Z,j1,j2,j3,Z,Z,j6,Z,Z,j9,Z,Z,Z,Z,Z,Z,Z,Z,Z,Z,Z,Z,Z,Z,Z,Z,Z,Z,Z,Z,Z,Z,Z,Z,Z,Z,Z,Z,Z,(.p (.bool true)),Z,Z,Z,Z,Z,Z,Z,Z,Z,Z,Z,Z,Z,Z,Z,Z,Z,Z,Z,Z,Z,Z,Z,Z,Z,Z,Z,Z,Z,Z,Z,Z,Z,Z,Z,Z,Z,Z,Z,Z,Z,Z,Z,Z,Z,Z,Z,Z,Z,Z,Z,Z,Z,Z,Z] H)
 (aLoad true 21 j3 H fun v50 =>
 aCall Tryz.prog (.p (.func zh4 [])) [v50,j1] H fun v51 h52 =>
 aUn .not v51 fun v53 =>
 kp .normal [Z,j1,j2,j3,Z,Z,j6,Z,Z,j9,Z,Z,Z,Z,Z,Z,Z,Z,Z,Z,Z,Z,Z,Z,Z,Z,Z,Z,Z,Z,Z,Z,Z,Z,Z,Z,Z,Z,Z,v53,Z,Z,Z,Z,Z,Z,Z,Z,Z,Z,Z,Z,Z,Z,v50,j1,v51,v53,Z,Z,Z,Z,Z,Z,Z,Z,Z,Z,Z,Z,Z,Z,Z,Z,Z,Z,Z,Z,Z,Z,Z,Z,Z,Z,Z,Z,Z,Z,Z,Z,Z,Z,Z,Z,Z] h52)
theorem znt (j1 j2 j3 j6 j9 j39:AV) (H:List Ob) (self:Code→List AV→List Ob→Ko→Prop) (kp:Ko):awpX Tryz.prog zf self zw zeE ([Z,j1,j2,j3,Z,Z,j6,Z,Z,j9]++List.replicate 29 Z++[j39]++List.replicate 55 Z) H kp=zeI j1 j2 j3 j6 j9 j39 H self kp:=by kernel_rfl
theorem zmk (H:List Ob) (kp:Ko):awp Tryz.prog zf zeE (keepS [1,2,3,6,9,39,9999] 0 [j0,j1,j2,j3,j4,j5,j6,j7,j8,j9,j10,j11,j12,j13,j14,j15,j16,j17,j18,j19,j20,j21,j22,j23,j24,j25,j26,j27,j28,j29,j30,j31,j32,j33,j34,j35,j36,j37,j38,j39,j40,j41,j42,j43,j44,j45,j46,j47,j48,j49,j50,j51,j52,j53,j54,j55,j56,j57,j58,j59,j60,j61,j62,j63,j64,j65,j66,j67,j68,j69,j70,j71,j72,j73,j74,j75,j76,j77,j78,j79,j80,j81,j82,j83,j84,j85,j86,j87,j88,j89,j90,j91,j92,j93,j94]) H kp=zeI j1 j2 j3 j6 j9 j39 H (awp Tryz.prog zf) kp :=
 Eq.trans (by kernel_rfl) ((zcQ Tryz.prog zf zw _ _ _ _).symm.trans (znt j1 j2 j3 j6 j9 j39 H _ kp))
def zaW (j1 j2 j3 j6 j9 j39:AV) (H:List Ob) (_:Code→List AV→List Ob→Ko→Prop) (kp:Ko):Prop :=
 ze j39
 (zr [(.p (.int .i64 0)),(.full [])] [] fun v54 =>
 zj 2 j6 v54 H fun _ h56 =>
 kp .ret [Z,j1,j2,j3,Z,Z,j6,(.p (.int .i64 1)),Z,j9,Z,Z,Z,Z,Z,Z,Z,Z,Z,Z,Z,Z,Z,Z,Z,Z,Z,Z,Z,Z,Z,Z,Z,Z,Z,Z,Z,Z,Z,(.p (.bool true)),Z,Z,Z,Z,Z,Z,Z,Z,Z,Z,Z,Z,Z,Z,Z,Z,Z,Z,v54,Z,Z,Z,Z,Z,Z,Z,Z,Z,Z,Z,Z,Z,Z,Z,Z,Z,Z,Z,Z,Z,Z,Z,Z,Z,Z,Z,Z,Z,Z,Z,Z,Z,Z,Z,Z] h56)
 (kp .normal [Z,j1,j2,j3,Z,Z,j6,Z,Z,j9,Z,Z,Z,Z,Z,Z,Z,Z,Z,Z,Z,Z,Z,Z,Z,Z,Z,Z,Z,Z,Z,Z,Z,Z,Z,Z,Z,Z,Z,(.p (.bool false)),Z,Z,Z,Z,Z,Z,Z,Z,Z,Z,Z,Z,Z,Z,Z,Z,Z,Z,Z,Z,Z,Z,Z,Z,Z,Z,Z,Z,Z,Z,Z,Z,Z,Z,Z,Z,Z,Z,Z,Z,Z,Z,Z,Z,Z,Z,Z,Z,Z,Z,Z,Z,Z,Z,Z] H)
theorem zne (j1 j2 j3 j6 j9 j39:AV) (H:List Ob) (self:Code→List AV→List Ob→Ko→Prop) (kp:Ko):awpX Tryz.prog zf self zw zeP ([Z,j1,j2,j3,Z,Z,j6,Z,Z,j9]++List.replicate 29 Z++[j39]++List.replicate 55 Z) H kp=zaW j1 j2 j3 j6 j9 j39 H self kp:=by kernel_rfl
theorem zbj (H:List Ob) (kp:Ko):awp Tryz.prog zf zeP (keepS [1,2,3,6,9,39,9999] 0 [j0,j1,j2,j3,j4,j5,j6,j7,j8,j9,j10,j11,j12,j13,j14,j15,j16,j17,j18,j19,j20,j21,j22,j23,j24,j25,j26,j27,j28,j29,j30,j31,j32,j33,j34,j35,j36,j37,j38,j39,j40,j41,j42,j43,j44,j45,j46,j47,j48,j49,j50,j51,j52,j53,j54,j55,j56,j57,j58,j59,j60,j61,j62,j63,j64,j65,j66,j67,j68,j69,j70,j71,j72,j73,j74,j75,j76,j77,j78,j79,j80,j81,j82,j83,j84,j85,j86,j87,j88,j89,j90,j91,j92,j93,j94]) H kp=zaW j1 j2 j3 j6 j9 j39 H (awp Tryz.prog zf) kp :=
 Eq.trans (by kernel_rfl) ((zcQ Tryz.prog zf zw _ _ _ _).symm.trans (zne j1 j2 j3 j6 j9 j39 H _ kp))
def zeR (j1 j2 j3 j6 j9:AV) (H:List Ob) (self:Code→List AV→List Ob→Ko→Prop) (kp:Ko):Prop :=
 zy [(.p (.int .i64 0)),(.full [])] H fun v57 h58 =>
 za 1 j3 fun v59 =>
 aLoad true 15 v59 h58 fun v60 =>
 za 16 j3 fun v61 =>
 aLoad false 1 v61 h58 fun v62 =>
 zL Tryz.prog (.p (.func zrV [])) [j2,v62] fun v63 =>
 zL Tryz.prog (.p (.func zxk [])) [v60,v63] fun v64 =>
 zB v64 0 fun v65 =>
 zB v64 1 fun v66 =>
 zj 2 v57 v65 h58 fun _ h68 =>
 self zeU (keepS [1,3,6,9,10,11,9999] 0 [Z,j1,j2,j3,Z,Z,j6,Z,Z,j9,v57,v66,Z,Z,Z,Z,Z,Z,Z,Z,Z,Z,Z,Z,Z,Z,Z,Z,Z,Z,Z,Z,Z,Z,Z,Z,Z,Z,Z,Z,Z,Z,Z,Z,Z,Z,Z,Z,Z,Z,Z,Z,Z,Z,Z,Z,Z,Z,Z,v64,v59,v60,j2,v61,v62,v63,v64,v65,v66,Z,Z,Z,Z,Z,Z,Z,Z,Z,Z,Z,Z,Z,Z,Z,Z,Z,Z,Z,Z,Z,Z,Z,Z,Z,Z]) h68 kp
theorem zm2 (j1 j2 j3 j6 j9:AV) (H:List Ob) (self:Code→List AV→List Ob→Ko→Prop) (kp:Ko):awpX Tryz.prog zf self zw zeH ([Z,j1,j2,j3,Z,Z,j6,Z,Z,j9]++List.replicate 85 Z) H kp=zeR j1 j2 j3 j6 j9 H self kp:=by kernel_rfl
theorem zmC (H:List Ob) (kp:Ko):awp Tryz.prog zf zeH (keepS [1,2,3,6,9,9999] 0 [j0,j1,j2,j3,j4,j5,j6,j7,j8,j9,j10,j11,j12,j13,j14,j15,j16,j17,j18,j19,j20,j21,j22,j23,j24,j25,j26,j27,j28,j29,j30,j31,j32,j33,j34,j35,j36,j37,j38,j39,j40,j41,j42,j43,j44,j45,j46,j47,j48,j49,j50,j51,j52,j53,j54,j55,j56,j57,j58,j59,j60,j61,j62,j63,j64,j65,j66,j67,j68,j69,j70,j71,j72,j73,j74,j75,j76,j77,j78,j79,j80,j81,j82,j83,j84,j85,j86,j87,j88,j89,j90,j91,j92,j93,j94]) H kp=zeR j1 j2 j3 j6 j9 H (awp Tryz.prog zf) kp :=
 Eq.trans (by kernel_rfl) ((zcQ Tryz.prog zf zw _ _ _ _).symm.trans (zm2 j1 j2 j3 j6 j9 H _ kp))
def zc0 (j1 j3 j6 j9 j10 j11:AV) (H:List Ob) (self:Code→List AV→List Ob→Ko→Prop) (kp:Ko):Prop :=
 aBin false false .eql j11 (.p (.int .i64 0)) fun v69 =>
 (ze v69
 ((aCall Tryz.prog (.p (.func zJ [])) [j1] H fun v70 h71 =>
 aLoad true 21 j3 h71 fun v72 =>
 zn 21 [v72] fun v73 =>
 zI false 21 288 v70 v73 h71 fun v74 h75 =>
 aCall Tryz.prog (.p (.func zbS [])) [v74] h75 fun v76 h77 =>
 aBin false false .gtr v76 (.p (.int .i64 64)) fun v78 =>
 ze v78
 (self zF (keepS [1,3,6,9,10,11,9999] 0 [Z,j1,Z,j3,Z,Z,j6,Z,Z,j9,j10,(.p (.int .i64 10)),Z,Z,Z,Z,Z,Z,Z,Z,Z,Z,Z,Z,Z,Z,Z,Z,Z,Z,Z,Z,Z,Z,Z,Z,Z,Z,Z,Z,Z,Z,Z,Z,Z,Z,Z,Z,Z,Z,Z,Z,Z,Z,Z,Z,Z,Z,Z,Z,Z,Z,Z,Z,Z,Z,Z,Z,Z,j11,v69,(.p (.bool true)),j1,v70,v72,v73,v74,v76,v78,(.p (.bool true)),Z,Z,Z,Z,Z,Z,Z,Z,Z,Z,Z,Z,Z,Z,Z]) h77 kp)
 (self zF (keepS [1,3,6,9,10,11,9999] 0 [Z,j1,Z,j3,Z,Z,j6,Z,Z,j9,j10,j11,Z,Z,Z,Z,Z,Z,Z,Z,Z,Z,Z,Z,Z,Z,Z,Z,Z,Z,Z,Z,Z,Z,Z,Z,Z,Z,Z,Z,Z,Z,Z,Z,Z,Z,Z,Z,Z,Z,Z,Z,Z,Z,Z,Z,Z,Z,Z,Z,Z,Z,Z,Z,Z,Z,Z,Z,Z,j11,v69,(.p (.bool true)),j1,v70,v72,v73,v74,v76,v78,(.p (.bool false)),Z,Z,Z,Z,Z,Z,Z,Z,Z,Z,Z,Z,Z,Z,Z]) h77 kp)) ∧
 (aLoad true 21 j3 H fun v79 =>
 (aCall Tryz.prog (.p (.func zJ [])) [j1] H fun v80 h81 =>
 zn 21 [v79] fun v82 =>
 zI false 21 288 v80 v82 h81 fun v83 h84 =>
 aCall Tryz.prog (.p (.func zbS [])) [v83] h84 fun v85 h86 =>
 aBin false false .gtr v85 (.p (.int .i64 64)) fun v87 =>
 ze v87
 (self zF (keepS [1,3,6,9,10,11,9999] 0 [Z,j1,Z,j3,Z,Z,j6,Z,Z,j9,j10,(.p (.int .i64 10)),Z,Z,Z,Z,Z,Z,Z,Z,Z,Z,Z,Z,Z,Z,Z,Z,Z,Z,Z,Z,Z,Z,Z,Z,Z,Z,Z,Z,Z,Z,Z,Z,Z,Z,Z,Z,Z,Z,Z,Z,Z,Z,Z,Z,Z,Z,Z,Z,Z,Z,Z,Z,Z,Z,Z,Z,Z,j11,v69,(.p (.bool true)),j1,v80,v79,v82,v83,v85,v87,(.p (.bool true)),Z,Z,Z,Z,Z,Z,Z,Z,Z,Z,Z,Z,Z,Z,Z]) h86 kp)
 (self zF (keepS [1,3,6,9,10,11,9999] 0 [Z,j1,Z,j3,Z,Z,j6,Z,Z,j9,j10,j11,Z,Z,Z,Z,Z,Z,Z,Z,Z,Z,Z,Z,Z,Z,Z,Z,Z,Z,Z,Z,Z,Z,Z,Z,Z,Z,Z,Z,Z,Z,Z,Z,Z,Z,Z,Z,Z,Z,Z,Z,Z,Z,Z,Z,Z,Z,Z,Z,Z,Z,Z,Z,Z,Z,Z,Z,Z,j11,v69,(.p (.bool true)),j1,v80,v79,v82,v83,v85,v87,(.p (.bool false)),Z,Z,Z,Z,Z,Z,Z,Z,Z,Z,Z,Z,Z,Z,Z]) h86 kp)) ∧
 (zn 21 [v79] fun v88 =>
 aCall Tryz.prog (.p (.func zJ [])) [j1] H fun v89 h90 =>
 zI false 21 288 v89 v88 h90 fun v91 h92 =>
 aCall Tryz.prog (.p (.func zbS [])) [v91] h92 fun v93 h94 =>
 aBin false false .gtr v93 (.p (.int .i64 64)) fun v95 =>
 ze v95
 (self zF (keepS [1,3,6,9,10,11,9999] 0 [Z,j1,Z,j3,Z,Z,j6,Z,Z,j9,j10,(.p (.int .i64 10)),Z,Z,Z,Z,Z,Z,Z,Z,Z,Z,Z,Z,Z,Z,Z,Z,Z,Z,Z,Z,Z,Z,Z,Z,Z,Z,Z,Z,Z,Z,Z,Z,Z,Z,Z,Z,Z,Z,Z,Z,Z,Z,Z,Z,Z,Z,Z,Z,Z,Z,Z,Z,Z,Z,Z,Z,Z,j11,v69,(.p (.bool true)),j1,v89,v79,v88,v91,v93,v95,(.p (.bool true)),Z,Z,Z,Z,Z,Z,Z,Z,Z,Z,Z,Z,Z,Z,Z]) h94 kp)
 (self zF (keepS [1,3,6,9,10,11,9999] 0 [Z,j1,Z,j3,Z,Z,j6,Z,Z,j9,j10,j11,Z,Z,Z,Z,Z,Z,Z,Z,Z,Z,Z,Z,Z,Z,Z,Z,Z,Z,Z,Z,Z,Z,Z,Z,Z,Z,Z,Z,Z,Z,Z,Z,Z,Z,Z,Z,Z,Z,Z,Z,Z,Z,Z,Z,Z,Z,Z,Z,Z,Z,Z,Z,Z,Z,Z,Z,Z,j11,v69,(.p (.bool true)),j1,v89,v79,v88,v91,v93,v95,(.p (.bool false)),Z,Z,Z,Z,Z,Z,Z,Z,Z,Z,Z,Z,Z,Z,Z]) h94 kp))))
 ((self zF (keepS [1,3,6,9,10,11,9999] 0 [Z,j1,Z,j3,Z,Z,j6,Z,Z,j9,j10,j11,Z,Z,Z,Z,Z,Z,Z,Z,Z,Z,Z,Z,Z,Z,Z,Z,Z,Z,Z,Z,Z,Z,Z,Z,Z,Z,Z,Z,Z,Z,Z,Z,Z,Z,Z,Z,Z,Z,Z,Z,Z,Z,Z,Z,Z,Z,Z,Z,Z,Z,Z,Z,Z,Z,Z,Z,Z,j11,v69,(.p (.bool false)),(.tup []),(.tup []),(.tup []),(.tup []),(.tup []),(.tup []),(.tup []),(.p (.bool false)),Z,Z,Z,Z,Z,Z,Z,Z,Z,Z,Z,Z,Z,Z,Z]) H kp) ∧
 ((self zF (keepS [1,3,6,9,10,11,9999] 0 [Z,j1,Z,j3,Z,Z,j6,Z,Z,j9,j10,j11,Z,Z,Z,Z,Z,Z,Z,Z,Z,Z,Z,Z,Z,Z,Z,Z,Z,Z,Z,Z,Z,Z,Z,Z,Z,Z,Z,Z,Z,Z,Z,Z,Z,Z,Z,Z,Z,Z,Z,Z,Z,Z,Z,Z,Z,Z,Z,Z,Z,Z,Z,Z,Z,Z,Z,Z,Z,j11,v69,(.p (.bool false)),(.tup []),(.tup []),(.tup []),(.tup []),(.tup []),(.tup []),(.tup []),(.p (.bool false)),Z,Z,Z,Z,Z,Z,Z,Z,Z,Z,Z,Z,Z,Z,Z]) H kp) ∧
 (self zF (keepS [1,3,6,9,10,11,9999] 0 [Z,j1,Z,j3,Z,Z,j6,Z,Z,j9,j10,j11,Z,Z,Z,Z,Z,Z,Z,Z,Z,Z,Z,Z,Z,Z,Z,Z,Z,Z,Z,Z,Z,Z,Z,Z,Z,Z,Z,Z,Z,Z,Z,Z,Z,Z,Z,Z,Z,Z,Z,Z,Z,Z,Z,Z,Z,Z,Z,Z,Z,Z,Z,Z,Z,Z,Z,Z,Z,j11,v69,(.p (.bool false)),(.tup []),(.tup []),(.tup []),(.tup []),(.tup []),(.tup []),(.tup []),(.p (.bool false)),Z,Z,Z,Z,Z,Z,Z,Z,Z,Z,Z,Z,Z,Z,Z]) H kp)))) ∧
 (ze v69
 (aLoad true 21 j3 H fun v96 =>
 ((aCall Tryz.prog (.p (.func zJ [])) [j1] H fun v97 h98 =>
 zn 21 [v96] fun v99 =>
 zI false 21 288 v97 v99 h98 fun v100 h101 =>
 aCall Tryz.prog (.p (.func zbS [])) [v100] h101 fun v102 h103 =>
 aBin false false .gtr v102 (.p (.int .i64 64)) fun v104 =>
 ze v104
 (self zF (keepS [1,3,6,9,10,11,9999] 0 [Z,j1,Z,j3,Z,Z,j6,Z,Z,j9,j10,(.p (.int .i64 10)),Z,Z,Z,Z,Z,Z,Z,Z,Z,Z,Z,Z,Z,Z,Z,Z,Z,Z,Z,Z,Z,Z,Z,Z,Z,Z,Z,Z,Z,Z,Z,Z,Z,Z,Z,Z,Z,Z,Z,Z,Z,Z,Z,Z,Z,Z,Z,Z,Z,Z,Z,Z,Z,Z,Z,Z,Z,j11,v69,(.p (.bool true)),j1,v97,v96,v99,v100,v102,v104,(.p (.bool true)),Z,Z,Z,Z,Z,Z,Z,Z,Z,Z,Z,Z,Z,Z,Z]) h103 kp)
 (self zF (keepS [1,3,6,9,10,11,9999] 0 [Z,j1,Z,j3,Z,Z,j6,Z,Z,j9,j10,j11,Z,Z,Z,Z,Z,Z,Z,Z,Z,Z,Z,Z,Z,Z,Z,Z,Z,Z,Z,Z,Z,Z,Z,Z,Z,Z,Z,Z,Z,Z,Z,Z,Z,Z,Z,Z,Z,Z,Z,Z,Z,Z,Z,Z,Z,Z,Z,Z,Z,Z,Z,Z,Z,Z,Z,Z,Z,j11,v69,(.p (.bool true)),j1,v97,v96,v99,v100,v102,v104,(.p (.bool false)),Z,Z,Z,Z,Z,Z,Z,Z,Z,Z,Z,Z,Z,Z,Z]) h103 kp)) ∧
 (zn 21 [v96] fun v105 =>
 aCall Tryz.prog (.p (.func zJ [])) [j1] H fun v106 h107 =>
 zI false 21 288 v106 v105 h107 fun v108 h109 =>
 aCall Tryz.prog (.p (.func zbS [])) [v108] h109 fun v110 h111 =>
 aBin false false .gtr v110 (.p (.int .i64 64)) fun v112 =>
 ze v112
 (self zF (keepS [1,3,6,9,10,11,9999] 0 [Z,j1,Z,j3,Z,Z,j6,Z,Z,j9,j10,(.p (.int .i64 10)),Z,Z,Z,Z,Z,Z,Z,Z,Z,Z,Z,Z,Z,Z,Z,Z,Z,Z,Z,Z,Z,Z,Z,Z,Z,Z,Z,Z,Z,Z,Z,Z,Z,Z,Z,Z,Z,Z,Z,Z,Z,Z,Z,Z,Z,Z,Z,Z,Z,Z,Z,Z,Z,Z,Z,Z,Z,j11,v69,(.p (.bool true)),j1,v106,v96,v105,v108,v110,v112,(.p (.bool true)),Z,Z,Z,Z,Z,Z,Z,Z,Z,Z,Z,Z,Z,Z,Z]) h111 kp)
 (self zF (keepS [1,3,6,9,10,11,9999] 0 [Z,j1,Z,j3,Z,Z,j6,Z,Z,j9,j10,j11,Z,Z,Z,Z,Z,Z,Z,Z,Z,Z,Z,Z,Z,Z,Z,Z,Z,Z,Z,Z,Z,Z,Z,Z,Z,Z,Z,Z,Z,Z,Z,Z,Z,Z,Z,Z,Z,Z,Z,Z,Z,Z,Z,Z,Z,Z,Z,Z,Z,Z,Z,Z,Z,Z,Z,Z,Z,j11,v69,(.p (.bool true)),j1,v106,v96,v105,v108,v110,v112,(.p (.bool false)),Z,Z,Z,Z,Z,Z,Z,Z,Z,Z,Z,Z,Z,Z,Z]) h111 kp))) ∧
 (zn 21 [v96] fun v113 =>
 aCall Tryz.prog (.p (.func zJ [])) [j1] H fun v114 h115 =>
 zI false 21 288 v114 v113 h115 fun v116 h117 =>
 aCall Tryz.prog (.p (.func zbS [])) [v116] h117 fun v118 h119 =>
 aBin false false .gtr v118 (.p (.int .i64 64)) fun v120 =>
 ze v120
 (self zF (keepS [1,3,6,9,10,11,9999] 0 [Z,j1,Z,j3,Z,Z,j6,Z,Z,j9,j10,(.p (.int .i64 10)),Z,Z,Z,Z,Z,Z,Z,Z,Z,Z,Z,Z,Z,Z,Z,Z,Z,Z,Z,Z,Z,Z,Z,Z,Z,Z,Z,Z,Z,Z,Z,Z,Z,Z,Z,Z,Z,Z,Z,Z,Z,Z,Z,Z,Z,Z,Z,Z,Z,Z,Z,Z,Z,Z,Z,Z,Z,j11,v69,(.p (.bool true)),j1,v114,v96,v113,v116,v118,v120,(.p (.bool true)),Z,Z,Z,Z,Z,Z,Z,Z,Z,Z,Z,Z,Z,Z,Z]) h119 kp)
 (self zF (keepS [1,3,6,9,10,11,9999] 0 [Z,j1,Z,j3,Z,Z,j6,Z,Z,j9,j10,j11,Z,Z,Z,Z,Z,Z,Z,Z,Z,Z,Z,Z,Z,Z,Z,Z,Z,Z,Z,Z,Z,Z,Z,Z,Z,Z,Z,Z,Z,Z,Z,Z,Z,Z,Z,Z,Z,Z,Z,Z,Z,Z,Z,Z,Z,Z,Z,Z,Z,Z,Z,Z,Z,Z,Z,Z,Z,j11,v69,(.p (.bool true)),j1,v114,v96,v113,v116,v118,v120,(.p (.bool false)),Z,Z,Z,Z,Z,Z,Z,Z,Z,Z,Z,Z,Z,Z,Z]) h119 kp)))
 (((self zF (keepS [1,3,6,9,10,11,9999] 0 [Z,j1,Z,j3,Z,Z,j6,Z,Z,j9,j10,j11,Z,Z,Z,Z,Z,Z,Z,Z,Z,Z,Z,Z,Z,Z,Z,Z,Z,Z,Z,Z,Z,Z,Z,Z,Z,Z,Z,Z,Z,Z,Z,Z,Z,Z,Z,Z,Z,Z,Z,Z,Z,Z,Z,Z,Z,Z,Z,Z,Z,Z,Z,Z,Z,Z,Z,Z,Z,j11,v69,(.p (.bool false)),(.tup []),(.tup []),(.tup []),(.tup []),(.tup []),(.tup []),(.tup []),(.p (.bool false)),Z,Z,Z,Z,Z,Z,Z,Z,Z,Z,Z,Z,Z,Z,Z]) H kp) ∧
 (self zF (keepS [1,3,6,9,10,11,9999] 0 [Z,j1,Z,j3,Z,Z,j6,Z,Z,j9,j10,j11,Z,Z,Z,Z,Z,Z,Z,Z,Z,Z,Z,Z,Z,Z,Z,Z,Z,Z,Z,Z,Z,Z,Z,Z,Z,Z,Z,Z,Z,Z,Z,Z,Z,Z,Z,Z,Z,Z,Z,Z,Z,Z,Z,Z,Z,Z,Z,Z,Z,Z,Z,Z,Z,Z,Z,Z,Z,j11,v69,(.p (.bool false)),(.tup []),(.tup []),(.tup []),(.tup []),(.tup []),(.tup []),(.tup []),(.p (.bool false)),Z,Z,Z,Z,Z,Z,Z,Z,Z,Z,Z,Z,Z,Z,Z]) H kp)) ∧
 (self zF (keepS [1,3,6,9,10,11,9999] 0 [Z,j1,Z,j3,Z,Z,j6,Z,Z,j9,j10,j11,Z,Z,Z,Z,Z,Z,Z,Z,Z,Z,Z,Z,Z,Z,Z,Z,Z,Z,Z,Z,Z,Z,Z,Z,Z,Z,Z,Z,Z,Z,Z,Z,Z,Z,Z,Z,Z,Z,Z,Z,Z,Z,Z,Z,Z,Z,Z,Z,Z,Z,Z,Z,Z,Z,Z,Z,Z,j11,v69,(.p (.bool false)),(.tup []),(.tup []),(.tup []),(.tup []),(.tup []),(.tup []),(.tup []),(.p (.bool false)),Z,Z,Z,Z,Z,Z,Z,Z,Z,Z,Z,Z,Z,Z,Z]) H kp)))
theorem zmV (j1 j3 j6 j9 j10 j11:AV) (H:List Ob) (self:Code→List AV→List Ob→Ko→Prop) (kp:Ko):awpX Tryz.prog zf self zw zeU ([Z,j1,Z,j3,Z,Z,j6,Z,Z,j9,j10,j11]++List.replicate 83 Z) H kp=zc0 j1 j3 j6 j9 j10 j11 H self kp:=by kernel_rfl
theorem zgT (H:List Ob) (kp:Ko):awp Tryz.prog zf zeU (keepS [1,3,6,9,10,11,9999] 0 [j0,j1,j2,j3,j4,j5,j6,j7,j8,j9,j10,j11,j12,j13,j14,j15,j16,j17,j18,j19,j20,j21,j22,j23,j24,j25,j26,j27,j28,j29,j30,j31,j32,j33,j34,j35,j36,j37,j38,j39,j40,j41,j42,j43,j44,j45,j46,j47,j48,j49,j50,j51,j52,j53,j54,j55,j56,j57,j58,j59,j60,j61,j62,j63,j64,j65,j66,j67,j68,j69,j70,j71,j72,j73,j74,j75,j76,j77,j78,j79,j80,j81,j82,j83,j84,j85,j86,j87,j88,j89,j90,j91,j92,j93,j94]) H kp=zc0 j1 j3 j6 j9 j10 j11 H (awp Tryz.prog zf) kp :=
 Eq.trans (by kernel_rfl) ((zcQ Tryz.prog zf zw _ _ _ _).symm.trans (zmV j1 j3 j6 j9 j10 j11 H _ kp))
def zbY (j1 j3 j6 j9 j10 j11:AV) (H:List Ob) (self:Code→List AV→List Ob→Ko→Prop) (kp:Ko):Prop :=
 aBin false false .eql j11 (.p (.int .i64 0)) fun v121 =>
 zl true v121 (fun Q122 =>
 za 1 j3 fun v123 =>
 za 1 v123 fun v124 =>
 aLoad false 1 v124 H fun v125 =>
 aBin false false .neq v125 (.p (.str [])) fun v126 =>
 (H=H∧Q122 v126)) fun v127 =>
 zl true v127 (fun Q128 =>
 aCall Tryz.prog (.p (.func zX [])) [j1,j9] H fun v129 h130 =>
 (h130=H∧Q128 v129)) fun v131 =>
 ze v131
 (self zc4 (keepS [6,10,11,9999] 0 [Z,j1,Z,j3,Z,Z,j6,Z,Z,j9,j10,(.p (.int .i64 7)),Z,Z,Z,Z,Z,Z,Z,Z,Z,Z,Z,Z,Z,Z,Z,Z,Z,Z,Z,Z,Z,Z,Z,Z,Z,Z,Z,Z,Z,Z,Z,Z,Z,Z,Z,Z,Z,Z,Z,Z,Z,Z,Z,Z,Z,Z,Z,Z,Z,Z,Z,Z,Z,Z,Z,Z,Z,Z,Z,Z,Z,Z,Z,Z,Z,Z,Z,Z,j11,v121,v121,Z,Z,Z,Z,v127,v127,Z,Z,Z,(.p (.bool true)),Z,Z]) H kp)
 (self zc4 (keepS [6,10,11,9999] 0 [Z,j1,Z,j3,Z,Z,j6,Z,Z,j9,j10,j11,Z,Z,Z,Z,Z,Z,Z,Z,Z,Z,Z,Z,Z,Z,Z,Z,Z,Z,Z,Z,Z,Z,Z,Z,Z,Z,Z,Z,Z,Z,Z,Z,Z,Z,Z,Z,Z,Z,Z,Z,Z,Z,Z,Z,Z,Z,Z,Z,Z,Z,Z,Z,Z,Z,Z,Z,Z,Z,Z,Z,Z,Z,Z,Z,Z,Z,Z,Z,j11,v121,v121,Z,Z,Z,Z,v127,v127,Z,Z,Z,(.p (.bool false)),Z,Z]) H kp)
theorem znv (j1 j3 j6 j9 j10 j11:AV) (H:List Ob) (self:Code→List AV→List Ob→Ko→Prop) (kp:Ko):awpX Tryz.prog zf self zw zF ([Z,j1,Z,j3,Z,Z,j6,Z,Z,j9,j10,j11]++List.replicate 83 Z) H kp=zbY j1 j3 j6 j9 j10 j11 H self kp:=by kernel_rfl
theorem zdz (H:List Ob) (kp:Ko):awp Tryz.prog zf zF (keepS [1,3,6,9,10,11,9999] 0 [j0,j1,j2,j3,j4,j5,j6,j7,j8,j9,j10,j11,j12,j13,j14,j15,j16,j17,j18,j19,j20,j21,j22,j23,j24,j25,j26,j27,j28,j29,j30,j31,j32,j33,j34,j35,j36,j37,j38,j39,j40,j41,j42,j43,j44,j45,j46,j47,j48,j49,j50,j51,j52,j53,j54,j55,j56,j57,j58,j59,j60,j61,j62,j63,j64,j65,j66,j67,j68,j69,j70,j71,j72,j73,j74,j75,j76,j77,j78,j79,j80,j81,j82,j83,j84,j85,j86,j87,j88,j89,j90,j91,j92,j93,j94]) H kp=zbY j1 j3 j6 j9 j10 j11 H (awp Tryz.prog zf) kp :=
 Eq.trans (by kernel_rfl) ((zcQ Tryz.prog zf zw _ _ _ _).symm.trans (znv j1 j3 j6 j9 j10 j11 H _ kp))
def zbk (j6 j10 j11:AV) (H:List Ob) (_:Code→List AV→List Ob→Ko→Prop) (kp:Ko):Prop :=
 aLoad true 2 j10 H fun v132 =>
 zj 2 j6 v132 H fun _ h134 =>
 kp .ret [Z,Z,Z,Z,Z,Z,j6,j11,Z,Z,j10,j11,Z,Z,Z,Z,Z,Z,Z,Z,Z,Z,Z,Z,Z,Z,Z,Z,Z,Z,Z,Z,Z,Z,Z,Z,Z,Z,Z,Z,Z,Z,Z,Z,Z,Z,Z,Z,Z,Z,Z,Z,Z,Z,Z,Z,Z,Z,Z,Z,Z,Z,Z,Z,Z,Z,Z,Z,Z,Z,Z,Z,Z,Z,Z,Z,Z,Z,Z,Z,Z,Z,Z,Z,Z,Z,Z,Z,Z,Z,Z,Z,Z,v132,j11] h134
theorem zmP (j6 j10 j11:AV) (H:List Ob) (self:Code→List AV→List Ob→Ko→Prop) (kp:Ko):awpX Tryz.prog zf self zw zc4 (List.replicate 6 Z++[j6,Z,Z,Z,j10,j11]++List.replicate 83 Z) H kp=zbk j6 j10 j11 H self kp:=by kernel_rfl
theorem zb7 (H:List Ob) (kp:Ko):awp Tryz.prog zf zc4 (keepS [6,10,11,9999] 0 [j0,j1,j2,j3,j4,j5,j6,j7,j8,j9,j10,j11,j12,j13,j14,j15,j16,j17,j18,j19,j20,j21,j22,j23,j24,j25,j26,j27,j28,j29,j30,j31,j32,j33,j34,j35,j36,j37,j38,j39,j40,j41,j42,j43,j44,j45,j46,j47,j48,j49,j50,j51,j52,j53,j54,j55,j56,j57,j58,j59,j60,j61,j62,j63,j64,j65,j66,j67,j68,j69,j70,j71,j72,j73,j74,j75,j76,j77,j78,j79,j80,j81,j82,j83,j84,j85,j86,j87,j88,j89,j90,j91,j92,j93,j94]) H kp=zbk j6 j10 j11 H (awp Tryz.prog zf) kp :=
 Eq.trans (by kernel_rfl) ((zcQ Tryz.prog zf zw _ _ _ _).symm.trans (zmP j6 j10 j11 H _ kp))
def zrL (x0 x1:AV) (H:List Ob) (K:AV→List Ob→Prop):Prop :=
 aBox x1 H fun v0 h1 =>
 zaA zkt [v0] h1 fun v2 h3 =>
 aCall Tryz.prog (.p (.func zbR [])) [x0,v2] h3 fun v4 h5 =>
 K v4 h5
def zov:Nat→List Nat:=fun _=>[]
theorem zyf (x0 x1:AV) (H:List Ob) (r:AV) (Ho:List Ob):aBody Tryz.prog zov Tryz.f87 H [x0,x1] r Ho=zrL x0 x1 H (fun v H'=>Gives H.length v H' r Ho):=by kernel_rfl
theorem zx5 {x0 x1:AV} {r:AV} {Ho:List Ob} (h:zrL x0 x1 [] (fun v H'=>Gives 0 v H' r Ho)):Abs.Fn Tryz.prog zmM [] [x0,x1] r Ho :=
 zh mixed zov (fn:=Tryz.f87) (by kernel_rfl) (by kernel_rfl) (by rw [zyf]; exact h)
def zfu (q1s1 q1s8 q1s9 y0 y1:AV) (H:List Ob) (B1:List AV→List Ob→Prop) (K:AV→List Ob→Prop):Prop :=
 aBin false false .lss y1 q1s9 fun v1 =>
 ze v1
 (zb 21 q1s8 y1 fun v2 =>
 aLoad true 21 v2 H fun v3 =>
 zy [(.p (.str [])),(.p (.int .i64 0)),(.p (.str [])),(.p (.int .i64 0)),(.full []),(.full []),(.p (.str [])),(.p (.int .i64 0)),(.p (.int .i64 0)),(.p (.bool false)),(.p (.str [])),(.full []),(.p (.int .i64 0)),(.full []),(.p (.int .i64 0)),(.p (.int .i64 0)),(.full []),(.p (.int .i64 0)),(.p (.int .i64 0)),(.p (.str [])),(.p (.bool false))] H fun v4 h5 =>
 zj 21 v4 v3 h5 fun _ h7 =>
 aLoad true 21 v4 h7 fun v8 =>
 aCall Tryz.prog q1s1 [v8] h7 fun v9 h10 =>
 ze v9
 (zn 1 [y1] fun v11 =>
 zI false 1 8 y0 v11 h10 fun v12 h13 =>
 aBin false false .add y1 (.p (.int .i64 1)) fun v14 =>
 B1 [v12,v14] h13)
 (aBin false false .add y1 (.p (.int .i64 1)) fun v15 =>
 B1 [y0,v15] h10))
 (aCall Tryz.prog (.p (.func zed [])) [y0] H fun v16 h17 =>
 K v16 h17)
def zdK (x0 x1:AV) (H:List Ob) (K:AV→List Ob→Prop):Prop :=
 aLen false false x0 fun v0 =>
 zG 2 [(.full []),(.p (.int .i64 0))] H fun xs H B1=>zfu x1 x0 v0 (xs.getD 0 Z) (xs.getD 1 Z) H B1 K
def zeQ:Nat→List Nat:=fun k=>match k with | 3=>[5,10] | _=>[]
theorem zk3 (x0 x1:AV) (H:List Ob) (r:AV) (Ho:List Ob):aBody Tryz.prog zeQ Tryz.f88 H [x0,x1] r Ho=zdK x0 x1 H (fun v H'=>Gives H.length v H' r Ho):=by kernel_rfl
theorem zk4 {x0 x1:AV} {r:AV} {Ho:List Ob} (h:zdK x0 x1 [] (fun v H'=>Gives 0 v H' r Ho)):Abs.Fn Tryz.prog zbR [] [x0,x1] r Ho :=
 zh mixed zeQ (fn:=Tryz.f88) (by kernel_rfl) (by kernel_rfl) (by rw [zk3]; exact h)
def zlR (x0 x1:AV) (H:List Ob) (K:AV→List Ob→Prop):Prop :=
 aBox x0 H fun v0 h1 =>
 za 1 v0 fun v2 =>
 za 0 v2 fun v3 =>
 aLoad false 1 v3 h1 fun v4 =>
 aLoad false 1 x1 h1 fun v5 =>
 aBin false false .eql v4 v5 fun v6 =>
 K v6 h1
def zk7:Nat→List Nat:=fun _=>[]
theorem zt7 (x0 x1:AV) (H:List Ob) (r:AV) (Ho:List Ob):aBody Tryz.prog zk7 Tryz.f89 H [x0,x1] r Ho=zlR x0 x1 H (fun v H'=>Gives H.length v H' r Ho):=by kernel_rfl
theorem zul {x0 x1:AV} {r:AV} {Ho:List Ob} (h:zlR x0 x1 [] (fun v H'=>Gives 0 v H' r Ho)):Abs.Fn Tryz.prog zjp [] [x0,x1] r Ho :=
 zh mixed zk7 (fn:=Tryz.f89) (by kernel_rfl) (by kernel_rfl) (by rw [zt7]; exact h)
def zgu (x0 x1:AV) (H:List Ob) (K:AV→List Ob→Prop):Prop :=
 aBox x0 H fun v0 h1 =>
 za 0 v0 fun v2 =>
 aLoad false 1 v2 h1 fun v3 =>
 za 0 x1 fun v4 =>
 aLoad false 1 v4 h1 fun v5 =>
 aBin false false .eql v3 v5 fun v6 =>
 K v6 h1
def zho:Nat→List Nat:=fun _=>[]
theorem zn8 (x0 x1:AV) (H:List Ob) (r:AV) (Ho:List Ob):aBody Tryz.prog zho Tryz.f124 H [x0,x1] r Ho=zgu x0 x1 H (fun v H'=>Gives H.length v H' r Ho):=by kernel_rfl
theorem zom {x0 x1:AV} {r:AV} {Ho:List Ob} (h:zgu x0 x1 [] (fun v H'=>Gives 0 v H' r Ho)):Abs.Fn Tryz.prog zeL [] [x0,x1] r Ho :=
 zh mixed zho (fn:=Tryz.f124) (by kernel_rfl) (by kernel_rfl) (by rw [zn8]; exact h)
def zgN (x0 x1:AV) (H:List Ob) (K:AV→List Ob→Prop):Prop :=
 aBox x0 H fun v0 h1 =>
 za 1 v0 fun v2 =>
 za 0 v2 fun v3 =>
 aLoad false 1 v3 h1 fun v4 =>
 za 1 x1 fun v5 =>
 za 0 v5 fun v6 =>
 aLoad false 1 v6 h1 fun v7 =>
 aBin false false .eql v4 v7 fun v8 =>
 zl true v8 (fun Q9 =>
 za 1 v0 fun v10 =>
 za 1 v10 fun v11 =>
 aLoad false 1 v11 h1 fun v12 =>
 za 1 x1 fun v13 =>
 za 1 v13 fun v14 =>
 aLoad false 1 v14 h1 fun v15 =>
 aBin false false .eql v12 v15 fun v16 =>
 (h1=h1∧Q9 v16)) fun v17 =>
 K v17 h1
def zhy:Nat→List Nat:=fun _=>[]
theorem zn9 (x0 x1:AV) (H:List Ob) (r:AV) (Ho:List Ob):aBody Tryz.prog zhy Tryz.f125 H [x0,x1] r Ho=zgN x0 x1 H (fun v H'=>Gives H.length v H' r Ho):=by kernel_rfl
theorem zog {x0 x1:AV} {r:AV} {Ho:List Ob} (h:zgN x0 x1 [] (fun v H'=>Gives 0 v H' r Ho)):Abs.Fn Tryz.prog ze2 [] [x0,x1] r Ho :=
 zh mixed zhy (fn:=Tryz.f125) (by kernel_rfl) (by kernel_rfl) (by rw [zn9]; exact h)
def zaE (x0 x1:AV) (H:List Ob) (K:AV→List Ob→Prop):Prop :=
 aCall Tryz.prog (.p (.func zaI [])) [x0,x1] H fun v0 h1 =>
 aBin false false .geq v0 (.p (.int .i64 0)) fun v2 =>
 K v2 h1
def zbd:Nat→List Nat:=fun _=>[]
theorem zdi (x0 x1:AV) (H:List Ob) (r:AV) (Ho:List Ob):aBody Tryz.prog zbd Tryz.f127 H [x0,x1] r Ho=zaE x0 x1 H (fun v H'=>Gives H.length v H' r Ho):=by kernel_rfl
theorem zdh {x0 x1:AV} {r:AV} {Ho:List Ob} (h:zaE x0 x1 [] (fun v H'=>Gives 0 v H' r Ho)):Abs.Fn Tryz.prog zX [] [x0,x1] r Ho :=
 zh mixed zbd (fn:=Tryz.f127) (by kernel_rfl) (by kernel_rfl) (by rw [zdi]; exact h)
def zln (q1s1 q1s2 q1s8 q1s9 y0:AV) (H:List Ob) (B1:List AV→List Ob→Prop) (K:AV→List Ob→Prop):Prop :=
 aBin false false .lss y0 q1s9 fun v5 =>
 ze v5
 (zb 1 q1s8 y0 fun v6 =>
 aLoad false 1 v6 H fun v7 =>
 aBin false false .lss v7 (.p (.int .i64 0)) fun v8 =>
 zl false v8 (fun Q9 =>
 aLenS false q1s1 fun v10 =>
 aBin false false .geq v7 v10 fun v11 =>
 (H=H∧Q9 v11)) fun v12 =>
 zl false v12 (fun Q13 =>
 zb 21 q1s1 v7 fun v14 =>
 za 1 v14 fun v15 =>
 za 0 v15 fun v16 =>
 aLoad false 1 v16 H fun v17 =>
 aBin false false .eql v17 (.p (.int .i64 9)) fun v18 =>
 (H=H∧Q13 v18)) fun v19 =>
 zl false v19 (fun Q20 =>
 za 16 q1s2 fun v21 =>
 aLoad false 1 v21 H fun v22 =>
 zbM false 1 v22 none (some y0) none fun v23 =>
 aCall Tryz.prog (.p (.func zbE [])) [v23,v7] H fun v24 h25 =>
 (h25=H∧Q20 v24)) fun v26 =>
 ze v26
 (K (.p (.bool false)) H)
 (aBin false false .add y0 (.p (.int .i64 1)) fun v27 =>
 B1 [v27] H))
 (K (.p (.bool true)) H)
def zkm (x0 x1:AV) (H:List Ob) (K:AV→List Ob→Prop):Prop :=
 aBox x0 H fun v0 h1 =>
 za 16 v0 fun v2 =>
 aLoad false 1 v2 h1 fun v3 =>
 aLen false false v3 fun v4 =>
 zG 1 [(.p (.int .i64 0))] h1 fun xs H B1=>zln x1 v0 v3 v4 (xs.getD 0 Z) H B1 K
def zkh:Nat→List Nat:=fun k=>match k with | 2=>[10] | _=>[]
theorem zsP (x0 x1:AV) (H:List Ob) (r:AV) (Ho:List Ob):aBody Tryz.prog zkh Tryz.f128 H [x0,x1] r Ho=zkm x0 x1 H (fun v H'=>Gives H.length v H' r Ho):=by kernel_rfl
theorem zs5 {x0 x1:AV} {r:AV} {Ho:List Ob} (h:zkm x0 x1 [] (fun v H'=>Gives 0 v H' r Ho)):Abs.Fn Tryz.prog zh4 [] [x0,x1] r Ho :=
 zh mixed zkh (fn:=Tryz.f128) (by kernel_rfl) (by kernel_rfl) (by rw [zsP]; exact h)
def zuY (q1s0 q1s8 q1s9 y0 y1:AV) (H:List Ob) (B1:List AV→List Ob→Prop) (K:AV→List Ob→Prop):Prop :=
 aBin false false .lss y1 q1s9 fun v1 =>
 ze v1
 (zb 1 q1s8 y1 fun v2 =>
 aLoad false 1 v2 H fun v3 =>
 zb 2 q1s0 v3 fun v4 =>
 aLoad true 2 v4 H fun v5 =>
 zn 2 [v5] fun v6 =>
 zI false 2 32 y0 v6 H fun v7 h8 =>
 aBin false false .add y1 (.p (.int .i64 1)) fun v9 =>
 B1 [v7,v9] h8)
 (K y0 H)
def zwn (x0 x1:AV) (H:List Ob) (K:AV→List Ob→Prop):Prop :=
 aLen false false x1 fun v0 =>
 zG 2 [(.full []),(.p (.int .i64 0))] H fun xs H B1=>zuY x0 x1 v0 (xs.getD 0 Z) (xs.getD 1 Z) H B1 K
def zs8:Nat→List Nat:=fun k=>match k with | 3=>[5,10] | _=>[]
theorem zAt (x0 x1:AV) (H:List Ob) (r:AV) (Ho:List Ob):aBody Tryz.prog zs8 Tryz.f130 H [x0,x1] r Ho=zwn x0 x1 H (fun v H'=>Gives H.length v H' r Ho):=by kernel_rfl
theorem zAl {x0 x1:AV} {r:AV} {Ho:List Ob} (h:zwn x0 x1 [] (fun v H'=>Gives 0 v H' r Ho)):Abs.Fn Tryz.prog zrV [] [x0,x1] r Ho :=
 zh mixed zs8 (fn:=Tryz.f130) (by kernel_rfl) (by kernel_rfl) (by rw [zAt]; exact h)
def znR (q2s3 q2s5 q2s11 q2s16 q2s17 y0 y1:AV) (H:List Ob) (B2:List AV→List Ob→Prop) (B1:List AV→List Ob→Prop) (K:AV→List Ob→Prop):Prop :=
 aBin false false .lss y1 q2s17 fun v11 =>
 ze v11
 (zb 1 q2s16 y1 fun v12 =>
 aLoad false 1 v12 H fun v13 =>
 zb 1 q2s3 v13 fun v14 =>
 aLoad false 1 v14 H fun v15 =>
 aBin false false .add y0 v15 fun v16 =>
 aBin false false .add y1 (.p (.int .i64 1)) fun v17 =>
 B2 [v16,v17] H)
 (za 1 q2s5 fun v18 =>
 za 0 v18 fun v19 =>
 aLoad false 1 v19 H fun v20 =>
 aBin false false .eql v20 (.p (.int .i64 1)) fun v21 =>
 ze v21
 (zn 1 [(.p (.int .i64 1))] fun v22 =>
 zI false 1 8 q2s3 v22 H fun v23 h24 =>
 aBin false false .add q2s11 (.p (.int .i64 1)) fun v25 =>
 B1 [v23,v25] h24)
 (aBin false false .eql v20 (.p (.int .i64 4)) fun v26 =>
 ze v26
 (za 1 q2s5 fun v27 =>
 za 4 v27 fun v28 =>
 aLoad false 1 v28 H fun v29 =>
 aLen false false v29 fun v30 =>
 aBin false false .mul y0 v30 fun v31 =>
 zn 1 [v31] fun v32 =>
 zI false 1 8 q2s3 v32 H fun v33 h34 =>
 aBin false false .add q2s11 (.p (.int .i64 1)) fun v35 =>
 B1 [v33,v35] h34)
 (zn 1 [y0] fun v36 =>
 zI false 1 8 q2s3 v36 H fun v37 h38 =>
 aBin false false .add q2s11 (.p (.int .i64 1)) fun v39 =>
 B1 [v37,v39] h38)))
def znA (q1s9 q1s10 y0 y1:AV) (H:List Ob) (B1:List AV→List Ob→Prop) (K:AV→List Ob→Prop):Prop :=
 aBin false false .lss y1 q1s10 fun v1 =>
 ze v1
 (zb 21 q1s9 y1 fun v2 =>
 aLoad true 21 v2 H fun v3 =>
 zy [(.p (.str [])),(.p (.int .i64 0)),(.p (.str [])),(.p (.int .i64 0)),(.full []),(.full []),(.p (.str [])),(.p (.int .i64 0)),(.p (.int .i64 0)),(.p (.bool false)),(.p (.str [])),(.full []),(.p (.int .i64 0)),(.full []),(.p (.int .i64 0)),(.p (.int .i64 0)),(.full []),(.p (.int .i64 0)),(.p (.int .i64 0)),(.p (.str [])),(.p (.bool false))] H fun v4 h5 =>
 zj 21 v4 v3 h5 fun _ h7 =>
 za 16 v4 fun v8 =>
 aLoad false 1 v8 h7 fun v9 =>
 aLen false false v9 fun v10 =>
 zG 2 [(.p (.int .i64 0)),(.p (.int .i64 0))] h7 fun xs H B2=>znR y0 v4 y1 v9 v10 (xs.getD 0 Z) (xs.getD 1 Z) H B2 B1 K)
 (aLen false false y0 fun v40 =>
 aBin false false .sub v40 (.p (.int .i64 1)) fun v41 =>
 zb 1 y0 v41 fun v42 =>
 aLoad false 1 v42 H fun v43 =>
 K v43 H)
def znk (x0:AV) (H:List Ob) (K:AV→List Ob→Prop):Prop :=
 aLen false false x0 fun v0 =>
 zG 2 [(.full []),(.p (.int .i64 0))] H fun xs H B1=>znA x0 v0 (xs.getD 0 Z) (xs.getD 1 Z) H B1 K
def zl6:Nat→List Nat:=fun k=>match k with | 3=>[3,11] | 7=>[6,18] | _=>[]
theorem zu6 (x0:AV) (H:List Ob) (r:AV) (Ho:List Ob):aBody Tryz.prog zl6 Tryz.f131 H [x0] r Ho=znk x0 H (fun v H'=>Gives H.length v H' r Ho):=by kernel_rfl
theorem zvc {x0:AV} {r:AV} {Ho:List Ob} (h:znk x0 [] (fun v H'=>Gives 0 v H' r Ho)):Abs.Fn Tryz.prog zbS [] [x0] r Ho :=
 zh mixed zl6 (fn:=Tryz.f131) (by kernel_rfl) (by kernel_rfl) (by rw [zu6]; exact h)
def zaw (x0:AV) (H:List Ob) (K:AV→List Ob→Prop):Prop :=
 aNil true .eql x0 fun v0 =>
 ze v0
 (K (.full []) H)
 (zn 21 [] fun v1 =>
 zI false 21 288 v1 x0 H fun v2 h3 =>
 K v2 h3)
def zbO:Nat→List Nat:=fun _=>[]
theorem zeJ (x0:AV) (H:List Ob) (r:AV) (Ho:List Ob):aBody Tryz.prog zbO Tryz.f132 H [x0] r Ho=zaw x0 H (fun v H'=>Gives H.length v H' r Ho):=by kernel_rfl
theorem zb2 {x0:AV} {r:AV} {Ho:List Ob} (h:zaw x0 [] (fun v H'=>Gives 0 v H' r Ho)):Abs.Fn Tryz.prog zJ [] [x0] r Ho :=
 zh mixed zbO (fn:=Tryz.f132) (by kernel_rfl) (by kernel_rfl) (by rw [zeJ]; exact h)
def zni (x0 x1:AV) (H:List Ob) (K:AV→List Ob→Prop):Prop :=
 aBox x0 H fun v0 h1 =>
 za 16 v0 fun v2 =>
 aLoad false 1 v2 h1 fun v3 =>
 aLoad false 1 x1 h1 fun v4 =>
 aCall Tryz.prog (.p (.func zbE [])) [v3,v4] h1 fun v5 h6 =>
 K v5 h6
def zmD:Nat→List Nat:=fun _=>[]
theorem zu7 (x0 x1:AV) (H:List Ob) (r:AV) (Ho:List Ob):aBody Tryz.prog zmD Tryz.f133 H [x0,x1] r Ho=zni x0 x1 H (fun v H'=>Gives H.length v H' r Ho):=by kernel_rfl
theorem zu3 {x0 x1:AV} {r:AV} {Ho:List Ob} (h:zni x0 x1 [] (fun v H'=>Gives 0 v H' r Ho)):Abs.Fn Tryz.prog zkt [] [x0,x1] r Ho :=
 zh mixed zmD (fn:=Tryz.f133) (by kernel_rfl) (by kernel_rfl) (by rw [zu7]; exact h)
def zbu (q1s0 q1s1 q1s7 y0:AV) (H:List Ob) (B1:List AV→List Ob→Prop) (K:AV→List Ob→Prop):Prop :=
 aBin false false .lss y0 q1s7 fun v1 =>
 ze v1
 (zb 21 q1s0 y0 fun v2 =>
 aLoad true 21 v2 H fun v3 =>
 aCall Tryz.prog q1s1 [v3] H fun v4 h5 =>
 ze v4
 (K y0 h5)
 (aBin false false .add y0 (.p (.int .i64 1)) fun v6 =>
 B1 [v6] h5))
 (K (.p (.int .i64 (-1))) H)
def zaS (x0 x1:AV) (H:List Ob) (K:AV→List Ob→Prop):Prop :=
 aLen false false x0 fun v0 =>
 zG 1 [(.p (.int .i64 0))] H fun xs H B1=>zbu x0 x1 v0 (xs.getD 0 Z) H B1 K
def zbq:Nat→List Nat:=fun k=>match k with | 2=>[8] | _=>[]
theorem zdP (x0 x1:AV) (H:List Ob) (r:AV) (Ho:List Ob):aBody Tryz.prog zbq Tryz.f160 H [x0,x1] r Ho=zaS x0 x1 H (fun v H'=>Gives H.length v H' r Ho):=by kernel_rfl
theorem zdV {x0 x1:AV} {r:AV} {Ho:List Ob} (h:zaS x0 x1 [] (fun v H'=>Gives 0 v H' r Ho)):Abs.Fn Tryz.prog zaI [] [x0,x1] r Ho :=
 zh mixed zbq (fn:=Tryz.f160) (by kernel_rfl) (by kernel_rfl) (by rw [zdP]; exact h)
end Go.Proofs.YtdmgbhamigegfaaGreatDoor
end
