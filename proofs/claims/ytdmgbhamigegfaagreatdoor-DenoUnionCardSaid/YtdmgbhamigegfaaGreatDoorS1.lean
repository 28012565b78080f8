/- Made by program (Gen.lean): the functions' numbers. -/
import Derived.Test.YtdmgbhamigegfaaGreatDoorProg
import Derived.KernelRfl
import Derived.Test.YtdmgbhamigegfaaGreatDoorA3

section
/- Made by program (Gen.lean): the functions' numbers. -/
namespace Go.Proofs.YtdmgbhamigegfaaGreatDoor
open Go Go.Abs
abbrev Z:AV:=.top
theorem mixed:Tryz.prog.follows .mixedOrders=true:=by kernel_rfl
abbrev zg7:Nat:=4
abbrev zfW:Nat:=9
abbrev zgz:Nat:=10
abbrev ziw:Nat:=11
abbrev zcY:Nat:=12
abbrev zhB:Nat:=13
abbrev zfr:Nat:=14
abbrev zgJ:Nat:=16
abbrev zhD:Nat:=17
abbrev zdb:Nat:=18
abbrev zdO:Nat:=19
abbrev ze7:Nat:=20
abbrev zdP:Nat:=21
abbrev ziy:Nat:=22
abbrev zjD:Nat:=24
abbrev zj9:Nat:=27
abbrev zhm:Nat:=29
abbrev zlj:Nat:=32
abbrev ziJ:Nat:=34
abbrev zgK:Nat:=36
abbrev zfq:Nat:=37
abbrev zdE:Nat:=38
abbrev zfX:Nat:=39
abbrev zdU:Nat:=40
abbrev zeC:Nat:=41
abbrev zcW:Nat:=42
abbrev zbZ:Nat:=43
abbrev zix:Nat:=44
abbrev ziu:Nat:=45
abbrev zjB:Nat:=46
abbrev zlW:Nat:=48
abbrev ziT:Nat:=49
abbrev zaG:Nat:=50
abbrev zhl:Nat:=51
abbrev zx2:Nat:=52
abbrev zdB:Nat:=53
abbrev zT:Nat:=54
abbrev zlN:Nat:=55
abbrev zS:Nat:=56
abbrev zgZ:Nat:=57
abbrev zZ:Nat:=58
abbrev zlO:Nat:=59
abbrev zeO:Nat:=60
abbrev zdu:Nat:=63
abbrev zbe:Nat:=64
abbrev zdK:Nat:=65
abbrev zcq:Nat:=68
abbrev zo8:Nat:=69
abbrev zr7:Nat:=70
abbrev zkA:Nat:=71
abbrev zgC:Nat:=72
abbrev zlP:Nat:=73
abbrev zjA:Nat:=74
abbrev zgQ:Nat:=75
abbrev zf0:Nat:=76
abbrev zgM:Nat:=77
abbrev zbw:Nat:=78
abbrev zit:Nat:=79
abbrev zfw:Nat:=80
abbrev zdo:Nat:=81
abbrev zgy:Nat:=82
abbrev zea:Nat:=83
abbrev zan:Nat:=84
abbrev zdr:Nat:=85
abbrev zgG:Nat:=86
abbrev zns:Nat:=87
abbrev zbS:Nat:=88
abbrev zjy:Nat:=89
abbrev zaV:Nat:=90
abbrev zjs:Nat:=91
abbrev zgY:Nat:=92
abbrev zlc:Nat:=93
abbrev zcb:Nat:=94
abbrev zj8:Nat:=95
abbrev zc1:Nat:=96
abbrev zay:Nat:=97
abbrev zaa:Nat:=98
abbrev zfG:Nat:=99
abbrev zlF:Nat:=100
abbrev zhU:Nat:=101
abbrev zfm:Nat:=102
abbrev zaI:Nat:=103
abbrev zac:Nat:=104
abbrev zft:Nat:=106
abbrev zlu:Nat:=107
abbrev zg5:Nat:=110
abbrev zuz:Nat:=113
abbrev zr6:Nat:=114
abbrev zaJ:Nat:=115
abbrev zbC:Nat:=116
abbrev zhw:Nat:=118
abbrev zcI:Nat:=119
abbrev zeB:Nat:=120
abbrev zfc:Nat:=121
abbrev zdn:Nat:=122
abbrev zdp:Nat:=123
abbrev zeR:Nat:=124
abbrev zeS:Nat:=125
abbrev zmC:Nat:=126
abbrev zX:Nat:=127
abbrev zio:Nat:=128
abbrev zxw:Nat:=129
abbrev zr2:Nat:=130
abbrev zbY:Nat:=131
abbrev zK:Nat:=132
abbrev zkI:Nat:=133
abbrev zbG:Nat:=134
abbrev zeu:Nat:=135
abbrev zlE:Nat:=136
abbrev z1:Nat:=137
abbrev zgw:Nat:=138
abbrev zcL:Nat:=139
abbrev zcc:Nat:=140
abbrev zY:Nat:=141
abbrev zey:Nat:=142
abbrev zc5:Nat:=143
abbrev zP:Nat:=144
abbrev zcT:Nat:=145
abbrev zcx:Nat:=146
abbrev z8:Nat:=147
abbrev zlT:Nat:=148
abbrev zrV:Nat:=149
abbrev zrU:Nat:=150
abbrev zlk:Nat:=151
abbrev zbh:Nat:=153
abbrev ze8:Nat:=154
abbrev zhI:Nat:=155
abbrev zaC:Nat:=156
abbrev zdq:Nat:=157
abbrev zco:Nat:=158
abbrev zdS:Nat:=159
abbrev zaH:Nat:=160
abbrev zkL:Nat:=161
abbrev znz:Nat:=162
abbrev zkd:Nat:=163
abbrev zr8:Nat:=164
abbrev znv:Nat:=165
abbrev znw:Nat:=166
abbrev zhf:Nat:=167
abbrev zqi:Nat:=168
abbrev zqD:Nat:=169
abbrev zb0:Nat:=170
abbrev zci:Nat:=174
abbrev zpg:Nat:=176
abbrev zar:Nat:=177
abbrev zpo:Nat:=178
abbrev zcF:Nat:=179
abbrev zgO:Nat:=184
abbrev zcp:Nat:=185
abbrev zeD:Nat:=186
abbrev zdV:Nat:=187
abbrev zcJ:Nat:=188
abbrev zny:Nat:=189
abbrev zfu:Nat:=190
abbrev zlm:Nat:=191
abbrev zke:Nat:=192
abbrev znx:Nat:=193
abbrev zlD:Nat:=194
abbrev ziK:Nat:=213
abbrev ziL:Nat:=214
abbrev zlb:Nat:=215
abbrev ziM:Nat:=216
abbrev zgc:Nat:=217
abbrev ziN:Nat:=218
abbrev ziO:Nat:=219
abbrev ziP:Nat:=220
abbrev zhq:Nat:=221
abbrev ziQ:Nat:=222
abbrev ziR:Nat:=223
abbrev zgd:Nat:=224
abbrev zge:Nat:=225
abbrev zkB:Nat:=226
abbrev zgS:Nat:=232
abbrev zf3:Nat:=233
abbrev zf1:Nat:=234
abbrev zbV:Nat:=235
abbrev zlV:Nat:=236
abbrev zgD:Nat:=237
abbrev zpr:Nat:=238
abbrev zhr:Nat:=239
abbrev zbD:Nat:=240
abbrev zf7:Nat:=241
abbrev zrz:Nat:=242
abbrev zcf:Nat:=251
abbrev zcz:Nat:=252
abbrev zuy:Nat:=253
abbrev zps:Nat:=260
abbrev znN:Nat:=261
end Go.Proofs.YtdmgbhamigegfaaGreatDoor
end

section
/- Made by program (Gen.lean): functions of the dump, over trees. -/
set_option maxRecDepth 4000
set_option linter.unusedVariables false
namespace Go.Proofs.YtdmgbhamigegfaaGreatDoor
open Go Go.Abs
def zkS (x0:AV) (H:List Ob) (K:AV→List Ob→Prop):Prop :=
 aBox x0 H fun v0 h1 =>
 aLoad true 2 v0 h1 fun v2 =>
 aCall Tryz.prog (.p (.func zdn [])) [v2,(.p (.int .i64 12)),(.p (.int .i64 300))] h1 fun v3 h4 =>
 aBin false false .gtr v3 (.p (.int .i64 0)) fun v5 =>
 K v5 h4
def zkT:Nat→List Nat:=fun _=>[]
theorem zti (x0:AV) (H:List Ob) (r:AV) (Ho:List Ob):aBody Tryz.prog zkT Tryz.f79 H [x0] r Ho=zkS x0 H (fun v H'=>Gives H.length v H' r Ho):=by kernel_rfl
theorem ztj {x0:AV} {r:AV} {Ho:List Ob} (h:zkS x0 [] (fun v H'=>Gives 0 v H' r Ho)):Abs.Fn Tryz.prog zit [] [x0] r Ho :=
 zh mixed zkT (fn:=Tryz.f79) (by kernel_rfl) (by kernel_rfl) (by rw [zti]; exact h)
def zmG (q1s1 q1s2 q1s3 y0:AV) (H:List Ob) (B1:List AV→List Ob→Prop) (K:AV→List Ob→Prop):Prop :=
 za 1 q1s1 fun v11 =>
 aLoad false 1 v11 H fun v12 =>
 aLen false false v12 fun v13 =>
 aBin false false .lss y0 v13 fun v14 =>
 ze v14
 (za 1 q1s3 fun v15 =>
 aLoad false 1 v15 H fun v16 =>
 za 1 q1s1 fun v17 =>
 aLoad false 1 v17 H fun v18 =>
 zb 2 v18 y0 fun v19 =>
 aLoad true 2 v19 H fun v20 =>
 zJ Tryz.prog (.p (.func zgy [])) [v20] fun v21 =>
 zk 2 [v21] fun v22 =>
 aCalm [v16,v22] <|
 zH false 2 32 v16 v22 H fun v23 h24 =>
 za 1 q1s3 fun v25 =>
 zi 1 v25 v23 h24 fun _ h27 =>
 aBin false false .add y0 (.p (.int .i64 1)) fun v28 =>
 B1 [v28] h27)
 (aLoad true 2 q1s3 H fun v29 =>
 zi 2 q1s2 v29 H fun _ h31 =>
 aLoad true 2 q1s2 h31 fun v32 =>
 K v32 h31)
def zl1 (x0:AV) (H:List Ob) (K:AV→List Ob→Prop):Prop :=
 aBox x0 H fun v0 h1 =>
 zy [(.p (.int .i64 0)),(.full [])] h1 fun v2 h3 =>
 za 0 v0 fun v4 =>
 aLoad false 1 v4 h3 fun v5 =>
 zp [(.p (.int .i64 0)),(.full [])] [(0,1,v5)] fun v6 =>
 zy [(.p (.int .i64 0)),(.full [])] h3 fun v7 h8 =>
 zi 2 v7 v6 h8 fun _ h10 =>
 zD 1 [(.p (.int .i64 0))] h10 fun xs H B1=>zmG v0 v2 v7 (xs.getD 0 Z) H B1 K
def zlv:Nat→List Nat:=fun k=>match k with | 3=>[4] | _=>[]
theorem zug (x0:AV) (H:List Ob) (r:AV) (Ho:List Ob):aBody Tryz.prog zlv Tryz.f82 H [x0] r Ho=zl1 x0 H (fun v H'=>Gives H.length v H' r Ho):=by kernel_rfl
theorem zuh {x0:AV} {r:AV} {Ho:List Ob} (h:zl1 x0 [] (fun v H'=>Gives 0 v H' r Ho)):Abs.Fn Tryz.prog zgy [] [x0] r Ho :=
 zh mixed zlv (fn:=Tryz.f82) (by kernel_rfl) (by kernel_rfl) (by rw [zug]; exact h)
def zhN (q1s2 q1s3 y0:AV) (H:List Ob) (B1:List AV→List Ob→Prop) (K:AV→List Ob→Prop):Prop :=
 za 1 q1s2 fun v18 =>
 aLoad false 1 v18 H fun v19 =>
 aLen false false v19 fun v20 =>
 aBin false false .lss y0 v20 fun v21 =>
 ze v21
 (za 1 q1s2 fun v22 =>
 aLoad false 1 v22 H fun v23 =>
 zb 2 v23 y0 fun v24 =>
 aLoad true 2 v24 H fun v25 =>
 za 1 q1s3 fun v26 =>
 aLoad false 1 v26 H fun v27 =>
 zb 2 v27 y0 fun v28 =>
 aLoad true 2 v28 H fun v29 =>
 zJ Tryz.prog (.p (.func zan [])) [v25,v29] fun v30 =>
 aUn .not v30 fun v31 =>
 ze v31
 (K (.p (.bool false)) H)
 (aBin false false .add y0 (.p (.int .i64 1)) fun v32 =>
 B1 [v32] H))
 (K (.p (.bool true)) H)
def zf2 (x0 x1:AV) (H:List Ob) (K:AV→List Ob→Prop):Prop :=
 aBox x0 H fun v0 h1 =>
 aBox x1 h1 fun v2 h3 =>
 za 0 v0 fun v4 =>
 aLoad false 1 v4 h3 fun v5 =>
 za 0 v2 fun v6 =>
 aLoad false 1 v6 h3 fun v7 =>
 aBin false false .neq v5 v7 fun v8 =>
 zm false v8 (fun Q9 =>
 za 1 v0 fun v10 =>
 aLoad false 1 v10 h3 fun v11 =>
 aLenS false v11 fun v12 =>
 za 1 v2 fun v13 =>
 aLoad false 1 v13 h3 fun v14 =>
 aLenS false v14 fun v15 =>
 aBin false false .neq v12 v15 fun v16 =>
 (h3=h3∧Q9 v16)) fun v17 =>
 ze v17
 (K (.p (.bool false)) h3)
 (zD 1 [(.p (.int .i64 0))] h3 fun xs H B1=>zhN v0 v2 (xs.getD 0 Z) H B1 K)
def zhb:Nat→List Nat:=fun k=>match k with | 4=>[5] | _=>[]
theorem znE (x0 x1:AV) (H:List Ob) (r:AV) (Ho:List Ob):aBody Tryz.prog zhb Tryz.f84 H [x0,x1] r Ho=zf2 x0 x1 H (fun v H'=>Gives H.length v H' r Ho):=by kernel_rfl
theorem znF {x0 x1:AV} {r:AV} {Ho:List Ob} (h:zf2 x0 x1 [] (fun v H'=>Gives 0 v H' r Ho)):Abs.Fn Tryz.prog zan [] [x0,x1] r Ho :=
 zh mixed zhb (fn:=Tryz.f84) (by kernel_rfl) (by kernel_rfl) (by rw [znE]; exact h)
def zxU (x0 x1:AV) (H:List Ob) (K:AV→List Ob→Prop):Prop :=
 aBox x0 H fun v0 h1 =>
 aBox x1 h1 fun v2 h3 =>
 za 0 v0 fun v4 =>
 aLoad false 1 v4 h3 fun v5 =>
 za 0 v2 fun v6 =>
 aLoad false 1 v6 h3 fun v7 =>
 aBin false false .eql v5 v7 fun v8 =>
 zm true v8 (fun Q9 =>
 za 1 v0 fun v10 =>
 aLoad false 1 v10 h3 fun v11 =>
 za 1 v2 fun v12 =>
 aLoad false 1 v12 h3 fun v13 =>
 aCall Tryz.prog (.p (.func z1 [])) [v11,v13,(.p (.func zgY []))] h3 fun v14 h15 =>
 (h15=h3∧Q9 v14)) fun v16 =>
 K v16 h3
def ztv:Nat→List Nat:=fun _=>[]
theorem zB5 (x0 x1:AV) (H:List Ob) (r:AV) (Ho:List Ob):aBody Tryz.prog ztv Tryz.f92 H [x0,x1] r Ho=zxU x0 x1 H (fun v H'=>Gives H.length v H' r Ho):=by kernel_rfl
theorem zB6 {x0 x1:AV} {r:AV} {Ho:List Ob} (h:zxU x0 x1 [] (fun v H'=>Gives 0 v H' r Ho)):Abs.Fn Tryz.prog zgY [] [x0,x1] r Ho :=
 zh mixed ztv (fn:=Tryz.f92) (by kernel_rfl) (by kernel_rfl) (by rw [zB5]; exact h)
def zi4 (q1s1 q1s3 y0 y1:AV) (H:List Ob) (B1:List AV→List Ob→Prop) (K:AV→List Ob→Prop):Prop :=
 za 1 q1s3 fun v13 =>
 aLoad false 1 v13 H fun v14 =>
 aLen false false v14 fun v15 =>
 aBin false false .lss y1 v15 fun v16 =>
 zm true v16 (fun Q17 =>
 aBin false false .gtr y0 (.p (.int .i64 0)) fun v18 =>
 (H=H∧Q17 v18)) fun v19 =>
 ze v19
 (za 1 q1s3 fun v20 =>
 aLoad false 1 v20 H fun v21 =>
 zb 2 v21 y1 fun v22 =>
 aLoad true 2 v22 H fun v23 =>
 aBin false false .sub q1s1 (.p (.int .i64 1)) fun v24 =>
 aCall Tryz.prog (.p (.func zdn [])) [v23,v24,y0] H fun v25 h26 =>
 aBin false false .add y1 (.p (.int .i64 1)) fun v27 =>
 B1 [v25,v27] h26)
 (K y0 H)
def zhz (x0 x1 x2:AV) (H:List Ob) (K:AV→List Ob→Prop):Prop :=
 aBox x0 H fun v0 h1 =>
 aBin false false .leq x2 (.p (.int .i64 0)) fun v2 =>
 zm false v2 (fun Q3 =>
 aBin false false .leq x1 (.p (.int .i64 0)) fun v4 =>
 (h1=h1∧Q3 v4)) fun v5 =>
 zm false v5 (fun Q6 =>
 za 1 v0 fun v7 =>
 aLoad false 1 v7 h1 fun v8 =>
 aLenS false v8 fun v9 =>
 aBin false false .gtr v9 (.p (.int .i64 20)) fun v10 =>
 (h1=h1∧Q6 v10)) fun v11 =>
 ze v11
 (K (.p (.int .i64 0)) h1)
 (aBin false false .sub x2 (.p (.int .i64 1)) fun v12 =>
 zD 2 [v12,(.p (.int .i64 0))] h1 fun xs H B1=>zi4 x1 v0 (xs.getD 0 Z) (xs.getD 1 Z) H B1 K)
def zh0:Nat→List Nat:=fun k=>match k with | 5=>[2,7] | _=>[]
theorem zpR (x0 x1 x2:AV) (H:List Ob) (r:AV) (Ho:List Ob):aBody Tryz.prog zh0 Tryz.f122 H [x0,x1,x2] r Ho=zhz x0 x1 x2 H (fun v H'=>Gives H.length v H' r Ho):=by kernel_rfl
theorem zpS {x0 x1 x2:AV} {r:AV} {Ho:List Ob} (h:zhz x0 x1 x2 [] (fun v H'=>Gives 0 v H' r Ho)):Abs.Fn Tryz.prog zdn [] [x0,x1,x2] r Ho :=
 zh mixed zh0 (fn:=Tryz.f122) (by kernel_rfl) (by kernel_rfl) (by rw [zpR]; exact h)
def zaF (q1s1 q1s2 q1s15 q1s16 y0:AV) (H:List Ob) (B1:List AV→List Ob→Prop) (K:AV→List Ob→Prop):Prop :=
 aBin false false .lss y0 q1s16 fun v4 =>
 ze v4
 (zb 2 q1s15 y0 fun v5 =>
 aLoad true 2 v5 H fun v6 =>
 zy [(.p (.int .i64 0)),(.full [])] H fun v7 h8 =>
 zi 2 v7 v6 h8 fun _ h10 =>
 zb 2 q1s1 y0 fun v11 =>
 aLoad true 2 v11 h10 fun v12 =>
 zy [(.p (.int .i64 0)),(.full [])] h10 fun v13 h14 =>
 zi 2 v13 v12 h14 fun _ h16 =>
 aLoad true 2 v7 h16 fun v17 =>
 aLoad true 2 v13 h16 fun v18 =>
 aCall Tryz.prog q1s2 [v17,v18] h16 fun v19 h20 =>
 aUn .not v19 fun v21 =>
 ze v21
 (K (.p (.bool false)) h20)
 (aBin false false .add y0 (.p (.int .i64 1)) fun v22 =>
 B1 [v22] h20))
 (K (.p (.bool true)) H)
def z7 (x0 x1 x2:AV) (H:List Ob) (K:AV→List Ob→Prop):Prop :=
 aLen false false x0 fun v0 =>
 aLen false false x1 fun v1 =>
 aBin false false .neq v0 v1 fun v2 =>
 ze v2
 (K (.p (.bool false)) H)
 (aLen false false x0 fun v3 =>
 zD 1 [(.p (.int .i64 0))] H fun xs H B1=>zaF x1 x2 x0 v3 (xs.getD 0 Z) H B1 K)
def zax:Nat→List Nat:=fun k=>match k with | 4=>[17] | _=>[]
theorem zb8 (x0 x1 x2:AV) (H:List Ob) (r:AV) (Ho:List Ob):aBody Tryz.prog zax Tryz.f137 H [x0,x1,x2] r Ho=z7 x0 x1 x2 H (fun v H'=>Gives H.length v H' r Ho):=by kernel_rfl
theorem zb9 {x0 x1 x2:AV} {r:AV} {Ho:List Ob} (h:z7 x0 x1 x2 [] (fun v H'=>Gives 0 v H' r Ho)):Abs.Fn Tryz.prog z1 [] [x0,x1,x2] r Ho :=
 zh mixed zax (fn:=Tryz.f137) (by kernel_rfl) (by kernel_rfl) (by rw [zb8]; exact h)
def zfe (x0:AV) (H:List Ob) (K:AV→List Ob→Prop):Prop :=
 aBox x0 H fun v0 h1 =>
 aLoad true 2 v0 h1 fun v2 =>
 aCall Tryz.prog (.p (.func zcp [])) [v2,(.p (.int .i64 0))] h1 fun v3 h4 =>
 K v3 h4
def zgn:Nat→List Nat:=fun _=>[]
theorem zmR (x0:AV) (H:List Ob) (r:AV) (Ho:List Ob):aBody Tryz.prog zgn Tryz.f156 H [x0] r Ho=zfe x0 H (fun v H'=>Gives H.length v H' r Ho):=by kernel_rfl
theorem zmS {x0:AV} {r:AV} {Ho:List Ob} (h:zfe x0 [] (fun v H'=>Gives 0 v H' r Ho)):Abs.Fn Tryz.prog zaC [] [x0] r Ho :=
 zh mixed zgn (fn:=Tryz.f156) (by kernel_rfl) (by kernel_rfl) (by rw [zmR]; exact h)
def zut (x0:AV) (H:List Ob) (K:AV→List Ob→Prop):Prop :=
 aBox x0 H fun v0 h1 =>
 aLoad true 2 v0 h1 fun v2 =>
 aCall Tryz.prog (.p (.func zlD [])) [v2,(.p (.int .i64 0))] h1 fun v3 h4 =>
 K v3 h4
def zry:Nat→List Nat:=fun _=>[]
theorem zAk (x0:AV) (H:List Ob) (r:AV) (Ho:List Ob):aBody Tryz.prog zry Tryz.f167 H [x0] r Ho=zut x0 H (fun v H'=>Gives H.length v H' r Ho):=by kernel_rfl
theorem zAl {x0:AV} {r:AV} {Ho:List Ob} (h:zut x0 [] (fun v H'=>Gives 0 v H' r Ho)):Abs.Fn Tryz.prog zhf [] [x0] r Ho :=
 zh mixed zry (fn:=Tryz.f167) (by kernel_rfl) (by kernel_rfl) (by rw [zAk]; exact h)
def zAm (x0 x1:AV) (H:List Ob) (K:AV→List Ob→Prop):Prop :=
 aBin false false .eql x0 (.p (.int .i64 0)) fun v0 =>
 ze v0
 (K (.p (.int .i64 1)) H)
 (aBin false false .gtr x0 (.p (.int .i64 8)) fun v1 =>
 ze v1
 (K (.p (.int .i64 10)) H)
 (aBin false false .gtr x1 (.p (.int .i64 4)) fun v2 =>
 ze v2
 (K (.p (.int .i64 9)) H)
 (K (.p (.int .i64 0)) H)))
def zu9:Nat→List Nat:=fun _=>[]
theorem zDC (x0 x1:AV) (H:List Ob) (r:AV) (Ho:List Ob):aBody Tryz.prog zu9 Tryz.f169 H [x0,x1] r Ho=zAm x0 x1 H (fun v H'=>Gives H.length v H' r Ho):=by kernel_rfl
theorem zDD {x0 x1:AV} {r:AV} {Ho:List Ob} (h:zAm x0 x1 [] (fun v H'=>Gives 0 v H' r Ho)):Abs.Fn Tryz.prog zqD [] [x0,x1] r Ho :=
 zh mixed zu9 (fn:=Tryz.f169) (by kernel_rfl) (by kernel_rfl) (by rw [zDC]; exact h)
def zhc (q1s1 q1s2 y0:AV) (H:List Ob) (B1:List AV→List Ob→Prop) (K:AV→List Ob→Prop):Prop :=
 za 1 q1s2 fun v33 =>
 aLoad false 1 v33 H fun v34 =>
 aLen false false v34 fun v35 =>
 aBin false false .lss y0 v35 fun v36 =>
 ze v36
 (za 1 q1s2 fun v37 =>
 aLoad false 1 v37 H fun v38 =>
 zb 2 v38 y0 fun v39 =>
 aLoad true 2 v39 H fun v40 =>
 aBin false false .add q1s1 (.p (.int .i64 1)) fun v41 =>
 aCall Tryz.prog (.p (.func zcp [])) [v40,v41] H fun v42 h43 =>
 aBin false false .neq v42 (.p (.int .i64 0)) fun v44 =>
 ze v44
 (K v42 h43)
 (aBin false false .add y0 (.p (.int .i64 1)) fun v45 =>
 B1 [v45] h43))
 (K (.p (.int .i64 0)) H)
def zff (x0 x1:AV) (H:List Ob) (K:AV→List Ob→Prop):Prop :=
 aBox x0 H fun v0 h1 =>
 za 0 v0 fun v2 =>
 aLoad false 1 v2 h1 fun v3 =>
 aBin false false .lss v3 (.p (.int .i64 1)) fun v4 =>
 zm false v4 (fun Q5 =>
 za 0 v0 fun v6 =>
 aLoad false 1 v6 h1 fun v7 =>
 aBin false false .gtr v7 (.p (.int .i64 4)) fun v8 =>
 (h1=h1∧Q5 v8)) fun v9 =>
 zm false v9 (fun Q10 =>
 za 0 v0 fun v11 =>
 aLoad false 1 v11 h1 fun v12 =>
 aBin false false .neq v12 (.p (.int .i64 4)) fun v13 =>
 zm true v13 (fun Q14 =>
 za 1 v0 fun v15 =>
 aLoad false 1 v15 h1 fun v16 =>
 aLenS false v16 fun v17 =>
 aBin false false .gtr v17 (.p (.int .i64 0)) fun v18 =>
 (h1=h1∧Q14 v18)) fun v19 =>
 (h1=h1∧Q10 v19)) fun v20 =>
 ze v20
 (K (.p (.int .i64 5)) h1)
 (za 0 v0 fun v21 =>
 aLoad false 1 v21 h1 fun v22 =>
 aBin false false .neq v22 (.p (.int .i64 4)) fun v23 =>
 ze v23
 (K (.p (.int .i64 0)) h1)
 (za 1 v0 fun v24 =>
 aLoad false 1 v24 h1 fun v25 =>
 aLen false false v25 fun v26 =>
 aBin false false .eql v26 (.p (.int .i64 0)) fun v27 =>
 ze v27
 (K (.p (.int .i64 1)) h1)
 (za 1 v0 fun v28 =>
 aLoad false 1 v28 h1 fun v29 =>
 aLen false false v29 fun v30 =>
 aBin false false .gtr v30 (.p (.int .i64 8)) fun v31 =>
 ze v31
 (K (.p (.int .i64 10)) h1)
 (aBin false false .gtr x1 (.p (.int .i64 4)) fun v32 =>
 ze v32
 (K (.p (.int .i64 9)) h1)
 (zD 1 [(.p (.int .i64 0))] h1 fun xs H B1=>zhc x1 v0 (xs.getD 0 Z) H B1 K)))))
def zgo:Nat→List Nat:=fun k=>match k with | 12=>[5] | _=>[]
theorem zmT (x0 x1:AV) (H:List Ob) (r:AV) (Ho:List Ob):aBody Tryz.prog zgo Tryz.f185 H [x0,x1] r Ho=zff x0 x1 H (fun v H'=>Gives H.length v H' r Ho):=by kernel_rfl
theorem zmU {x0 x1:AV} {r:AV} {Ho:List Ob} (h:zff x0 x1 [] (fun v H'=>Gives 0 v H' r Ho)):Abs.Fn Tryz.prog zcp [] [x0,x1] r Ho :=
 zh mixed zgo (fn:=Tryz.f185) (by kernel_rfl) (by kernel_rfl) (by rw [zmT]; exact h)
def zuu (x0 x1:AV) (H:List Ob) (K:AV→List Ob→Prop):Prop :=
 aBox x0 H fun v0 h1 =>
 aBox x1 h1 fun v2 h3 =>
 za 0 v0 fun v4 =>
 aLoad false 1 v4 h3 fun v5 =>
 aBin false false .eql v5 (.p (.int .i64 1)) fun v6 =>
 zm false v6 (fun Q7 =>
 aBin false false .eql v5 (.p (.int .i64 2)) fun v8 =>
 zm false v8 (fun Q9 =>
 aBin false false .eql v5 (.p (.int .i64 3)) fun v10 =>
 (h3=h3∧Q9 v10)) fun v11 =>
 (h3=h3∧Q7 v11)) fun v12 =>
 ze v12
 (za 1 v0 fun v13 =>
 aLoad false 1 v13 h3 fun v14 =>
 aLen false false v14 fun v15 =>
 aBin false false .gtr v15 (.p (.int .i64 0)) fun v16 =>
 ze v16
 (K (.p (.int .i64 5)) h3)
 (K (.p (.int .i64 0)) h3))
 (aBin false false .eql v5 (.p (.int .i64 4)) fun v17 =>
 ze v17
 (za 1 v0 fun v18 =>
 aLoad false 1 v18 h3 fun v19 =>
 aLen false false v19 fun v20 =>
 aLoad false 1 v2 h3 fun v21 =>
 aCall Tryz.prog (.p (.func zqD [])) [v20,v21] h3 fun v22 h23 =>
 aBin false false .neq v22 (.p (.int .i64 0)) fun v24 =>
 ze v24
 (K v22 h23)
 (za 1 v0 fun v25 =>
 aLoad false 1 v25 h23 fun v26 =>
 zaA zrz [v2] h23 fun v27 h28 =>
 aCall Tryz.prog (.p (.func zf7 [])) [v26,v27] h28 fun v29 h30 =>
 K v29 h30))
 (K (.p (.int .i64 5)) h3))
def zrA:Nat→List Nat:=fun k=>match k with | 1000004=>[1] | 1000003=>[1] | _=>[]
theorem zAn (x0 x1:AV) (H:List Ob) (r:AV) (Ho:List Ob):aBody Tryz.prog zrA Tryz.f194 H [x0,x1] r Ho=zuu x0 x1 H (fun v H'=>Gives H.length v H' r Ho):=by kernel_rfl
theorem zAo {x0 x1:AV} {r:AV} {Ho:List Ob} (h:zuu x0 x1 [] (fun v H'=>Gives 0 v H' r Ho)):Abs.Fn Tryz.prog zlD [] [x0,x1] r Ho :=
 zh mixed zrA (fn:=Tryz.f194) (by kernel_rfl) (by kernel_rfl) (by rw [zAn]; exact h)
def zb2 (x0:AV) (H:List Ob) (K:AV→List Ob→Prop):Prop :=
 aLen false false x0 fun v0 =>
 aLen false false x0 fun v1 =>
 zbg false 2 x0 none (some v0) (some v1) fun v2 =>
 K v2 H
def zcQ:Nat→List Nat:=fun _=>[]
theorem zhS (x0:AV) (H:List Ob) (r:AV) (Ho:List Ob):aBody Tryz.prog zcQ Tryz.f240 H [x0] r Ho=zb2 x0 H (fun v H'=>Gives H.length v H' r Ho):=by kernel_rfl
theorem zhT {x0:AV} {r:AV} {Ho:List Ob} (h:zb2 x0 [] (fun v H'=>Gives 0 v H' r Ho)):Abs.Fn Tryz.prog zbD [] [x0] r Ho :=
 zh mixed zcQ (fn:=Tryz.f240) (by kernel_rfl) (by kernel_rfl) (by rw [zhS]; exact h)
def zjr (q1s1 q1s8 q1s9 y0:AV) (H:List Ob) (B1:List AV→List Ob→Prop) (K:AV→List Ob→Prop):Prop :=
 aBin false false .lss y0 q1s9 fun v1 =>
 ze v1
 (zb 2 q1s8 y0 fun v2 =>
 aLoad true 2 v2 H fun v3 =>
 zy [(.p (.int .i64 0)),(.full [])] H fun v4 h5 =>
 zi 2 v4 v3 h5 fun _ h7 =>
 aLoad true 2 v4 h7 fun v8 =>
 aCall Tryz.prog q1s1 [v8] h7 fun v9 h10 =>
 aBin false false .neq v9 (.p (.int .i64 0)) fun v11 =>
 ze v11
 (K v9 h10)
 (aBin false false .add y0 (.p (.int .i64 1)) fun v12 =>
 B1 [v12] h10))
 (K (.p (.int .i64 0)) H)
def zhV (x0 x1:AV) (H:List Ob) (K:AV→List Ob→Prop):Prop :=
 aLen false false x0 fun v0 =>
 zD 1 [(.p (.int .i64 0))] H fun xs H B1=>zjr x1 x0 v0 (xs.getD 0 Z) H B1 K
def zid:Nat→List Nat:=fun k=>match k with | 2=>[10] | _=>[]
theorem zqd (x0 x1:AV) (H:List Ob) (r:AV) (Ho:List Ob):aBody Tryz.prog zid Tryz.f241 H [x0,x1] r Ho=zhV x0 x1 H (fun v H'=>Gives H.length v H' r Ho):=by kernel_rfl
theorem zqe {x0 x1:AV} {r:AV} {Ho:List Ob} (h:zhV x0 x1 [] (fun v H'=>Gives 0 v H' r Ho)):Abs.Fn Tryz.prog zf7 [] [x0,x1] r Ho :=
 zh mixed zid (fn:=Tryz.f241) (by kernel_rfl) (by kernel_rfl) (by rw [zqd]; exact h)
def zqc (x0 x1:AV) (H:List Ob) (K:AV→List Ob→Prop):Prop :=
 aBox x0 H fun v0 h1 =>
 aLoad true 2 v0 h1 fun v2 =>
 aLoad false 1 x1 h1 fun v3 =>
 aBin false false .add v3 (.p (.int .i64 1)) fun v4 =>
 aCall Tryz.prog (.p (.func zlD [])) [v2,v4] h1 fun v5 h6 =>
 K v5 h6
def zog:Nat→List Nat:=fun _=>[]
theorem zxV (x0 x1:AV) (H:List Ob) (r:AV) (Ho:List Ob):aBody Tryz.prog zog Tryz.f242 H [x0,x1] r Ho=zqc x0 x1 H (fun v H'=>Gives H.length v H' r Ho):=by kernel_rfl
theorem zxW {x0 x1:AV} {r:AV} {Ho:List Ob} (h:zqc x0 x1 [] (fun v H'=>Gives 0 v H' r Ho)):Abs.Fn Tryz.prog zrz [] [x0,x1] r Ho :=
 zh mixed zog (fn:=Tryz.f242) (by kernel_rfl) (by kernel_rfl) (by rw [zxV]; exact h)
end Go.Proofs.YtdmgbhamigegfaaGreatDoor
end

section
/- Made by program (Gen.lean): functions of the dump, over trees. -/
set_option maxRecDepth 4000
set_option linter.unusedVariables false
namespace Go.Proofs.YtdmgbhamigegfaaGreatDoor
open Go Go.Abs
def zAs (x0:AV) (H:List Ob) (K:AV→List Ob→Prop):Prop :=
 zy [(.p (.int .i64 0)),(.p (.int .i64 0)),(.p (.bool false)),(.p (.str [])),(.full [])] H fun v0 h1 =>
 zp [(.p (.int .i64 0)),(.p (.int .i64 0)),(.p (.bool false)),(.p (.str [])),(.full [])] [(0,1,(.p (.int .i64 1))),(1,1,x0)] fun v2 =>
 zi 5 v0 v2 h1 fun _ h4 =>
 aLoad true 5 v0 h4 fun v5 =>
 K v5 h4
def zvb:Nat→List Nat:=fun _=>[]
theorem zDE (x0:AV) (H:List Ob) (r:AV) (Ho:List Ob):aBody Tryz.prog zvb Tryz.f12 H [x0] r Ho=zAs x0 H (fun v H'=>Gives H.length v H' r Ho):=by kernel_rfl
theorem zDF {x0:AV} {r:AV} {Ho:List Ob} (h:zAs x0 [] (fun v H'=>Gives 0 v H' r Ho)):Abs.Fn Tryz.prog zcY [] [x0] r Ho :=
 zh mixed zvb (fn:=Tryz.f12) (by kernel_rfl) (by kernel_rfl) (by rw [zDE]; exact h)
def zjR (q1s0 y0 y1:AV) (H:List Ob) (B1:List AV→List Ob→Prop) (K:AV→List Ob→Prop):Prop :=
 aLen false false q1s0 fun v0 =>
 aBin false false .lss y1 v0 fun v1 =>
 ze v1
 (zb 5 q1s0 y1 fun v2 =>
 aLoad true 5 v2 H fun v3 =>
 aCall Tryz.prog (.p (.func zcW [])) [v3] H fun v4 h5 =>
 zk 5 [v4] fun v6 =>
 zH false 5 64 y0 v6 h5 fun v7 h8 =>
 aBin false false .add y1 (.p (.int .i64 1)) fun v9 =>
 B1 [v7,v9] h8)
 (K y0 H)
def ziv (x0:AV) (H:List Ob) (K:AV→List Ob→Prop):Prop :=
 zD 2 [(.full []),(.p (.int .i64 0))] H fun xs H B1=>zjR x0 (xs.getD 0 Z) (xs.getD 1 Z) H B1 K
def zi5:Nat→List Nat:=fun k=>match k with | 3=>[3,4] | _=>[]
theorem zqO (x0:AV) (H:List Ob) (r:AV) (Ho:List Ob):aBody Tryz.prog zi5 Tryz.f21 H [x0] r Ho=ziv x0 H (fun v H'=>Gives H.length v H' r Ho):=by kernel_rfl
theorem zqP {x0:AV} {r:AV} {Ho:List Ob} (h:ziv x0 [] (fun v H'=>Gives 0 v H' r Ho)):Abs.Fn Tryz.prog zdP [] [x0] r Ho :=
 zh mixed zi5 (fn:=Tryz.f21) (by kernel_rfl) (by kernel_rfl) (by rw [zqO]; exact h)
def zjG (x0 x1:AV) (H:List Ob) (K:AV→List Ob→Prop):Prop :=
 aBox x0 H fun v0 h1 =>
 aBox x1 h1 fun v2 h3 =>
 aLoad true 5 v0 h3 fun v4 =>
 aLoad true 5 v2 h3 fun v5 =>
 aCall Tryz.prog (.p (.func zbZ [])) [v4,v5] h3 fun v6 h7 =>
 aBin false false .eql v6 (.p (.int .i64 0)) fun v8 =>
 K v8 h7
def zj2:Nat→List Nat:=fun _=>[]
theorem zsn (x0 x1:AV) (H:List Ob) (r:AV) (Ho:List Ob):aBody Tryz.prog zj2 Tryz.f41 H [x0,x1] r Ho=zjG x0 x1 H (fun v H'=>Gives H.length v H' r Ho):=by kernel_rfl
theorem zso {x0 x1:AV} {r:AV} {Ho:List Ob} (h:zjG x0 x1 [] (fun v H'=>Gives 0 v H' r Ho)):Abs.Fn Tryz.prog zeC [] [x0,x1] r Ho :=
 zh mixed zj2 (fn:=Tryz.f41) (by kernel_rfl) (by kernel_rfl) (by rw [zsn]; exact h)
def zmH (q1s1 q1s2 q1s3 y0:AV) (H:List Ob) (B1:List AV→List Ob→Prop) (K:AV→List Ob→Prop):Prop :=
 za 4 q1s1 fun v17 =>
 aLoad false 1 v17 H fun v18 =>
 aLen false false v18 fun v19 =>
 aBin false false .lss y0 v19 fun v20 =>
 ze v20
 (za 4 q1s3 fun v21 =>
 aLoad false 1 v21 H fun v22 =>
 za 4 q1s1 fun v23 =>
 aLoad false 1 v23 H fun v24 =>
 zb 5 v24 y0 fun v25 =>
 aLoad true 5 v25 H fun v26 =>
 zJ Tryz.prog (.p (.func zcW [])) [v26] fun v27 =>
 zk 5 [v27] fun v28 =>
 aCalm [v22,v28] <|
 zH false 5 64 v22 v28 H fun v29 h30 =>
 za 4 q1s3 fun v31 =>
 zi 1 v31 v29 h30 fun _ h33 =>
 aBin false false .add y0 (.p (.int .i64 1)) fun v34 =>
 B1 [v34] h33)
 (aLoad true 5 q1s3 H fun v35 =>
 zi 5 q1s2 v35 H fun _ h37 =>
 aLoad true 5 q1s2 h37 fun v38 =>
 K v38 h37)
def zl2 (x0:AV) (H:List Ob) (K:AV→List Ob→Prop):Prop :=
 aBox x0 H fun v0 h1 =>
 zy [(.p (.int .i64 0)),(.p (.int .i64 0)),(.p (.bool false)),(.p (.str [])),(.full [])] h1 fun v2 h3 =>
 za 0 v0 fun v4 =>
 aLoad false 1 v4 h3 fun v5 =>
 za 1 v0 fun v6 =>
 aLoad false 1 v6 h3 fun v7 =>
 za 2 v0 fun v8 =>
 aLoad false 1 v8 h3 fun v9 =>
 za 3 v0 fun v10 =>
 aLoad false 1 v10 h3 fun v11 =>
 zp [(.p (.int .i64 0)),(.p (.int .i64 0)),(.p (.bool false)),(.p (.str [])),(.full [])] [(0,1,v5),(1,1,v7),(2,1,v9),(3,1,v11)] fun v12 =>
 zy [(.p (.int .i64 0)),(.p (.int .i64 0)),(.p (.bool false)),(.p (.str [])),(.full [])] h3 fun v13 h14 =>
 zi 5 v13 v12 h14 fun _ h16 =>
 zD 1 [(.p (.int .i64 0))] h16 fun xs H B1=>zmH v0 v2 v13 (xs.getD 0 Z) H B1 K
def zlw:Nat→List Nat:=fun k=>match k with | 3=>[4] | _=>[]
theorem zui (x0:AV) (H:List Ob) (r:AV) (Ho:List Ob):aBody Tryz.prog zlw Tryz.f42 H [x0] r Ho=zl2 x0 H (fun v H'=>Gives H.length v H' r Ho):=by kernel_rfl
theorem zuj {x0:AV} {r:AV} {Ho:List Ob} (h:zl2 x0 [] (fun v H'=>Gives 0 v H' r Ho)):Abs.Fn Tryz.prog zcW [] [x0] r Ho :=
 zh mixed zlw (fn:=Tryz.f42) (by kernel_rfl) (by kernel_rfl) (by rw [zui]; exact h)
def zh9 (q1s2 q1s3 y0:AV) (H:List Ob) (B1:List AV→List Ob→Prop) (K:AV→List Ob→Prop):Prop :=
 za 4 q1s2 fun v49 =>
 aLoad false 1 v49 H fun v50 =>
 aLen false false v50 fun v51 =>
 aBin false false .lss y0 v51 fun v52 =>
 zm true v52 (fun Q53 =>
 za 4 q1s3 fun v54 =>
 aLoad false 1 v54 H fun v55 =>
 aLenS false v55 fun v56 =>
 aBin false false .lss y0 v56 fun v57 =>
 (H=H∧Q53 v57)) fun v58 =>
 ze v58
 (za 4 q1s2 fun v59 =>
 aLoad false 1 v59 H fun v60 =>
 zb 5 v60 y0 fun v61 =>
 aLoad true 5 v61 H fun v62 =>
 za 4 q1s3 fun v63 =>
 aLoad false 1 v63 H fun v64 =>
 zb 5 v64 y0 fun v65 =>
 aLoad true 5 v65 H fun v66 =>
 zJ Tryz.prog (.p (.func zbZ [])) [v62,v66] fun v67 =>
 aBin false false .neq v67 (.p (.int .i64 0)) fun v68 =>
 ze v68
 (K v67 H)
 (aBin false false .add y0 (.p (.int .i64 1)) fun v69 =>
 B1 [v69] H))
 (za 4 q1s2 fun v70 =>
 aLoad false 1 v70 H fun v71 =>
 aLen false false v71 fun v72 =>
 za 4 q1s3 fun v73 =>
 aLoad false 1 v73 H fun v74 =>
 aLen false false v74 fun v75 =>
 aBin false false .neq v72 v75 fun v76 =>
 ze v76
 (za 4 q1s2 fun v77 =>
 aLoad false 1 v77 H fun v78 =>
 aLen false false v78 fun v79 =>
 za 4 q1s3 fun v80 =>
 aLoad false 1 v80 H fun v81 =>
 aLen false false v81 fun v82 =>
 aBin false false .lss v79 v82 fun v83 =>
 aCall Tryz.prog (.p (.func zbw [])) [v83] H fun v84 h85 =>
 K v84 h85)
 (K (.p (.int .i64 0)) H))
def zgT (x0 x1:AV) (H:List Ob) (K:AV→List Ob→Prop):Prop :=
 aBox x0 H fun v0 h1 =>
 aBox x1 h1 fun v2 h3 =>
 za 0 v0 fun v4 =>
 aLoad false 1 v4 h3 fun v5 =>
 za 0 v2 fun v6 =>
 aLoad false 1 v6 h3 fun v7 =>
 aBin false false .neq v5 v7 fun v8 =>
 ze v8
 (za 0 v0 fun v9 =>
 aLoad false 1 v9 h3 fun v10 =>
 za 0 v2 fun v11 =>
 aLoad false 1 v11 h3 fun v12 =>
 aBin false false .lss v10 v12 fun v13 =>
 aCall Tryz.prog (.p (.func zbw [])) [v13] h3 fun v14 h15 =>
 K v14 h15)
 (za 1 v0 fun v16 =>
 aLoad false 1 v16 h3 fun v17 =>
 za 1 v2 fun v18 =>
 aLoad false 1 v18 h3 fun v19 =>
 aBin false false .neq v17 v19 fun v20 =>
 ze v20
 (za 1 v0 fun v21 =>
 aLoad false 1 v21 h3 fun v22 =>
 za 1 v2 fun v23 =>
 aLoad false 1 v23 h3 fun v24 =>
 aBin false false .lss v22 v24 fun v25 =>
 aCall Tryz.prog (.p (.func zbw [])) [v25] h3 fun v26 h27 =>
 K v26 h27)
 (za 2 v0 fun v28 =>
 aLoad false 1 v28 h3 fun v29 =>
 za 2 v2 fun v30 =>
 aLoad false 1 v30 h3 fun v31 =>
 aBin true false .neq v29 v31 fun v32 =>
 ze v32
 (za 2 v2 fun v33 =>
 aLoad false 1 v33 h3 fun v34 =>
 aCall Tryz.prog (.p (.func zbw [])) [v34] h3 fun v35 h36 =>
 K v35 h36)
 (za 3 v0 fun v37 =>
 aLoad false 1 v37 h3 fun v38 =>
 za 3 v2 fun v39 =>
 aLoad false 1 v39 h3 fun v40 =>
 aBin false false .neq v38 v40 fun v41 =>
 ze v41
 (za 3 v0 fun v42 =>
 aLoad false 1 v42 h3 fun v43 =>
 za 3 v2 fun v44 =>
 aLoad false 1 v44 h3 fun v45 =>
 aBin false false .lss v43 v45 fun v46 =>
 aCall Tryz.prog (.p (.func zbw [])) [v46] h3 fun v47 h48 =>
 K v47 h48)
 (zD 1 [(.p (.int .i64 0))] h3 fun xs H B1=>zh9 v0 v2 (xs.getD 0 Z) H B1 K))))
def zhL:Nat→List Nat:=fun k=>match k with | 10=>[5] | _=>[]
theorem zoE (x0 x1:AV) (H:List Ob) (r:AV) (Ho:List Ob):aBody Tryz.prog zhL Tryz.f43 H [x0,x1] r Ho=zgT x0 x1 H (fun v H'=>Gives H.length v H' r Ho):=by kernel_rfl
theorem zoF {x0 x1:AV} {r:AV} {Ho:List Ob} (h:zgT x0 x1 [] (fun v H'=>Gives 0 v H' r Ho)):Abs.Fn Tryz.prog zbZ [] [x0,x1] r Ho :=
 zh mixed zhL (fn:=Tryz.f43) (by kernel_rfl) (by kernel_rfl) (by rw [zoE]; exact h)
def zkU (x0:AV) (H:List Ob) (K:AV→List Ob→Prop):Prop :=
 aBox x0 H fun v0 h1 =>
 aLoad true 5 v0 h1 fun v2 =>
 aCall Tryz.prog (.p (.func zdo [])) [v2,(.p (.int .i64 12)),(.p (.int .i64 300))] h1 fun v3 h4 =>
 aBin false false .gtr v3 (.p (.int .i64 0)) fun v5 =>
 K v5 h4
def zkV:Nat→List Nat:=fun _=>[]
theorem ztk (x0:AV) (H:List Ob) (r:AV) (Ho:List Ob):aBody Tryz.prog zkV Tryz.f45 H [x0] r Ho=zkU x0 H (fun v H'=>Gives H.length v H' r Ho):=by kernel_rfl
theorem ztl {x0:AV} {r:AV} {Ho:List Ob} (h:zkU x0 [] (fun v H'=>Gives 0 v H' r Ho)):Abs.Fn Tryz.prog ziu [] [x0] r Ho :=
 zh mixed zkV (fn:=Tryz.f45) (by kernel_rfl) (by kernel_rfl) (by rw [ztk]; exact h)
def zDG (x0 x1:AV) (H:List Ob) (K:AV→List Ob→Prop):Prop :=
 aBox x0 H fun v0 h1 =>
 aBox x1 h1 fun v2 h3 =>
 aLoad true 5 v0 h3 fun v4 =>
 zJ Tryz.prog (.p (.func zjs [])) [v4] fun v5 =>
 aBin false false .eql v5 (.p (.int .i64 0)) fun v6 =>
 ze v6
 (aLoad true 5 v0 h3 fun v7 =>
 zJ Tryz.prog (.p (.func zlc [])) [v7] fun v8 =>
 aLoad true 2 v2 h3 fun v9 =>
 zJ Tryz.prog (.p (.func zgY [])) [v8,v9] fun v10 =>
 K v10 h3)
 (K (.p (.bool false)) h3)
def zx1:Nat→List Nat:=fun _=>[]
theorem zE4 (x0 x1:AV) (H:List Ob) (r:AV) (Ho:List Ob):aBody Tryz.prog zx1 Tryz.f52 H [x0,x1] r Ho=zDG x0 x1 H (fun v H'=>Gives H.length v H' r Ho):=by kernel_rfl
theorem zE5 {x0 x1:AV} {r:AV} {Ho:List Ob} (h:zDG x0 x1 [] (fun v H'=>Gives 0 v H' r Ho)):Abs.Fn Tryz.prog zx2 [] [x0,x1] r Ho :=
 zh mixed zx1 (fn:=Tryz.f52) (by kernel_rfl) (by kernel_rfl) (by rw [zE4]; exact h)
def zen (x0:AV) (H:List Ob) (K:AV→List Ob→Prop):Prop :=
 aBox x0 H fun v0 h1 =>
 aLoad true 5 v0 h1 fun v2 =>
 aCall Tryz.prog (.p (.func zcb [])) [v2,(.p (.int .i64 0))] h1 fun v3 h4 =>
 K v3 h4
def zfD:Nat→List Nat:=fun _=>[]
theorem zl7 (x0:AV) (H:List Ob) (r:AV) (Ho:List Ob):aBody Tryz.prog zfD Tryz.f53 H [x0] r Ho=zen x0 H (fun v H'=>Gives H.length v H' r Ho):=by kernel_rfl
theorem zl8 {x0:AV} {r:AV} {Ho:List Ob} (h:zen x0 [] (fun v H'=>Gives 0 v H' r Ho)):Abs.Fn Tryz.prog zdB [] [x0] r Ho :=
 zh mixed zfD (fn:=Tryz.f53) (by kernel_rfl) (by kernel_rfl) (by rw [zl7]; exact h)
def zx3 (x0 x1:AV) (H:List Ob) (K:AV→List Ob→Prop):Prop :=
 aBox x0 H fun v0 h1 =>
 aBox x1 h1 fun v2 h3 =>
 aLoad true 5 v0 h3 fun v4 =>
 aLoad true 5 v2 h3 fun v5 =>
 aCall Tryz.prog (.p (.func zbe [])) [v4,v5] h3 fun v6 h7 =>
 aBin false false .eql v6 (.p (.int .i64 0)) fun v8 =>
 K v8 h7
def ztx:Nat→List Nat:=fun _=>[]
theorem zCb (x0 x1:AV) (H:List Ob) (r:AV) (Ho:List Ob):aBody Tryz.prog ztx Tryz.f57 H [x0,x1] r Ho=zx3 x0 x1 H (fun v H'=>Gives H.length v H' r Ho):=by kernel_rfl
theorem zCc {x0 x1:AV} {r:AV} {Ho:List Ob} (h:zx3 x0 x1 [] (fun v H'=>Gives 0 v H' r Ho)):Abs.Fn Tryz.prog zgZ [] [x0,x1] r Ho :=
 zh mixed ztx (fn:=Tryz.f57) (by kernel_rfl) (by kernel_rfl) (by rw [zCb]; exact h)
def zqg (x0 x1:AV) (H:List Ob) (K:AV→List Ob→Prop):Prop :=
 aBox x0 H fun v0 h1 =>
 aBox x1 h1 fun v2 h3 =>
 za 0 v0 fun v4 =>
 aLoad false 1 v4 h3 fun v5 =>
 za 0 v2 fun v6 =>
 aLoad false 1 v6 h3 fun v7 =>
 zJ Tryz.prog (.p (.func zc1 [])) [v5,v7] fun v8 =>
 za 1 v0 fun v9 =>
 aLoad false 1 v9 h3 fun v10 =>
 za 1 v2 fun v11 =>
 aLoad false 1 v11 h3 fun v12 =>
 zJ Tryz.prog (.p (.func zfG [])) [v10,v12] fun v13 =>
 za 2 v0 fun v14 =>
 aLoad false 1 v14 h3 fun v15 =>
 zJ Tryz.prog (.p (.func zlF [])) [v15] fun v16 =>
 za 2 v2 fun v17 =>
 aLoad false 1 v17 h3 fun v18 =>
 zJ Tryz.prog (.p (.func zlF [])) [v18] fun v19 =>
 zJ Tryz.prog (.p (.func zc1 [])) [v16,v19] fun v20 =>
 za 3 v0 fun v21 =>
 aLoad false 1 v21 h3 fun v22 =>
 za 3 v2 fun v23 =>
 aLoad false 1 v23 h3 fun v24 =>
 zJ Tryz.prog (.p (.func zhU [])) [v22,v24] fun v25 =>
 zk 1 [v8,v13,v20,v25] fun v26 =>
 zJ Tryz.prog (.p (.func zj8 [])) [v26] fun v27 =>
 aBin false false .neq v27 (.p (.int .i64 0)) fun v28 =>
 ze v28
 (K v27 h3)
 (za 4 v0 fun v29 =>
 aLoad false 1 v29 h3 fun v30 =>
 za 4 v2 fun v31 =>
 aLoad false 1 v31 h3 fun v32 =>
 aCall Tryz.prog (.p (.func zfm [])) [v30,v32,(.p (.func zbe []))] h3 fun v33 h34 =>
 K v33 h34)
def zoh:Nat→List Nat:=fun _=>[]
theorem zxZ (x0 x1:AV) (H:List Ob) (r:AV) (Ho:List Ob):aBody Tryz.prog zoh Tryz.f64 H [x0,x1] r Ho=zqg x0 x1 H (fun v H'=>Gives H.length v H' r Ho):=by kernel_rfl
theorem zx0 {x0 x1:AV} {r:AV} {Ho:List Ob} (h:zqg x0 x1 [] (fun v H'=>Gives 0 v H' r Ho)):Abs.Fn Tryz.prog zbe [] [x0,x1] r Ho :=
 zh mixed zoh (fn:=Tryz.f64) (by kernel_rfl) (by kernel_rfl) (by rw [zxZ]; exact h)
def zjI (x0:AV) (H:List Ob) (K:AV→List Ob→Prop):Prop :=
 ze x0
 (K (.p (.int .i64 (-1))) H)
 (K (.p (.int .i64 1)) H)
def zj5:Nat→List Nat:=fun _=>[]
theorem zsr (x0:AV) (H:List Ob) (r:AV) (Ho:List Ob):aBody Tryz.prog zj5 Tryz.f78 H [x0] r Ho=zjI x0 H (fun v H'=>Gives H.length v H' r Ho):=by kernel_rfl
theorem zss {x0:AV} {r:AV} {Ho:List Ob} (h:zjI x0 [] (fun v H'=>Gives 0 v H' r Ho)):Abs.Fn Tryz.prog zbw [] [x0] r Ho :=
 zh mixed zj5 (fn:=Tryz.f78) (by kernel_rfl) (by kernel_rfl) (by rw [zsr]; exact h)
def zi6 (q1s1 q1s3 y0 y1:AV) (H:List Ob) (B1:List AV→List Ob→Prop) (K:AV→List Ob→Prop):Prop :=
 za 4 q1s3 fun v19 =>
 aLoad false 1 v19 H fun v20 =>
 aLen false false v20 fun v21 =>
 aBin false false .lss y1 v21 fun v22 =>
 zm true v22 (fun Q23 =>
 aBin false false .gtr y0 (.p (.int .i64 0)) fun v24 =>
 (H=H∧Q23 v24)) fun v25 =>
 ze v25
 (za 4 q1s3 fun v26 =>
 aLoad false 1 v26 H fun v27 =>
 zb 5 v27 y1 fun v28 =>
 aLoad true 5 v28 H fun v29 =>
 aBin false false .sub q1s1 (.p (.int .i64 1)) fun v30 =>
 aCall Tryz.prog (.p (.func zdo [])) [v29,v30,y0] H fun v31 h32 =>
 aBin false false .add y1 (.p (.int .i64 1)) fun v33 =>
 B1 [v31,v33] h32)
 (K y0 H)
def zhA (x0 x1 x2:AV) (H:List Ob) (K:AV→List Ob→Prop):Prop :=
 aBox x0 H fun v0 h1 =>
 aBin false false .leq x2 (.p (.int .i64 0)) fun v2 =>
 zm false v2 (fun Q3 =>
 aBin false false .leq x1 (.p (.int .i64 0)) fun v4 =>
 (h1=h1∧Q3 v4)) fun v5 =>
 zm false v5 (fun Q6 =>
 za 4 v0 fun v7 =>
 aLoad false 1 v7 h1 fun v8 =>
 aLenS false v8 fun v9 =>
 aBin false false .gtr v9 (.p (.int .i64 20)) fun v10 =>
 (h1=h1∧Q6 v10)) fun v11 =>
 zm false v11 (fun Q12 =>
 za 3 v0 fun v13 =>
 aLoad false 1 v13 h1 fun v14 =>
 aLenS true v14 fun v15 =>
 aBin false false .gtr v15 (.p (.int .i64 300)) fun v16 =>
 (h1=h1∧Q12 v16)) fun v17 =>
 ze v17
 (K (.p (.int .i64 0)) h1)
 (aBin false false .sub x2 (.p (.int .i64 1)) fun v18 =>
 zD 2 [v18,(.p (.int .i64 0))] h1 fun xs H B1=>zi6 x1 v0 (xs.getD 0 Z) (xs.getD 1 Z) H B1 K)
def zh1:Nat→List Nat:=fun k=>match k with | 5=>[2,7] | _=>[]
theorem zpT (x0 x1 x2:AV) (H:List Ob) (r:AV) (Ho:List Ob):aBody Tryz.prog zh1 Tryz.f81 H [x0,x1,x2] r Ho=zhA x0 x1 x2 H (fun v H'=>Gives H.length v H' r Ho):=by kernel_rfl
theorem zpU {x0 x1 x2:AV} {r:AV} {Ho:List Ob} (h:zhA x0 x1 x2 [] (fun v H'=>Gives 0 v H' r Ho)):Abs.Fn Tryz.prog zdo [] [x0,x1,x2] r Ho :=
 zh mixed zh1 (fn:=Tryz.f81) (by kernel_rfl) (by kernel_rfl) (by rw [zpT]; exact h)
def zjk (q1s1 q1s2 q1s3 y0:AV) (H:List Ob) (B1:List AV→List Ob→Prop) (K:AV→List Ob→Prop):Prop :=
 za 4 q1s1 fun v11 =>
 aLoad false 1 v11 H fun v12 =>
 aLen false false v12 fun v13 =>
 aBin false false .lss y0 v13 fun v14 =>
 ze v14
 (za 1 q1s3 fun v15 =>
 aLoad false 1 v15 H fun v16 =>
 za 4 q1s1 fun v17 =>
 aLoad false 1 v17 H fun v18 =>
 zb 5 v18 y0 fun v19 =>
 aLoad true 5 v19 H fun v20 =>
 zJ Tryz.prog (.p (.func zdr [])) [v20] fun v21 =>
 zk 2 [v21] fun v22 =>
 aCalm [v16,v22] <|
 zH false 2 32 v16 v22 H fun v23 h24 =>
 za 1 q1s3 fun v25 =>
 zi 1 v25 v23 h24 fun _ h27 =>
 aBin false false .add y0 (.p (.int .i64 1)) fun v28 =>
 B1 [v28] h27)
 (aLoad true 2 q1s3 H fun v29 =>
 zi 2 q1s2 v29 H fun _ h31 =>
 aLoad true 2 q1s2 h31 fun v32 =>
 K v32 h31)
def zhO (x0:AV) (H:List Ob) (K:AV→List Ob→Prop):Prop :=
 aBox x0 H fun v0 h1 =>
 zy [(.p (.int .i64 0)),(.full [])] h1 fun v2 h3 =>
 za 0 v0 fun v4 =>
 aLoad false 1 v4 h3 fun v5 =>
 zp [(.p (.int .i64 0)),(.full [])] [(0,1,v5)] fun v6 =>
 zy [(.p (.int .i64 0)),(.full [])] h3 fun v7 h8 =>
 zi 2 v7 v6 h8 fun _ h10 =>
 zD 1 [(.p (.int .i64 0))] h10 fun xs H B1=>zjk v0 v2 v7 (xs.getD 0 Z) H B1 K
def zib:Nat→List Nat:=fun k=>match k with | 3=>[4] | _=>[]
theorem zp5 (x0:AV) (H:List Ob) (r:AV) (Ho:List Ob):aBody Tryz.prog zib Tryz.f85 H [x0] r Ho=zhO x0 H (fun v H'=>Gives H.length v H' r Ho):=by kernel_rfl
theorem zp6 {x0:AV} {r:AV} {Ho:List Ob} (h:zhO x0 [] (fun v H'=>Gives 0 v H' r Ho)):Abs.Fn Tryz.prog zdr [] [x0] r Ho :=
 zh mixed zib (fn:=Tryz.f85) (by kernel_rfl) (by kernel_rfl) (by rw [zp5]; exact h)
def zux (x0:AV) (H:List Ob) (K:AV→List Ob→Prop):Prop :=
 aBox x0 H fun v0 h1 =>
 aLoad true 5 v0 h1 fun v2 =>
 aCall Tryz.prog (.p (.func zlE [])) [v2,(.p (.int .i64 0))] h1 fun v3 h4 =>
 K v3 h4
def zrB:Nat→List Nat:=fun _=>[]
theorem zAq (x0:AV) (H:List Ob) (r:AV) (Ho:List Ob):aBody Tryz.prog zrB Tryz.f91 H [x0] r Ho=zux x0 H (fun v H'=>Gives H.length v H' r Ho):=by kernel_rfl
theorem zAr {x0:AV} {r:AV} {Ho:List Ob} (h:zux x0 [] (fun v H'=>Gives 0 v H' r Ho)):Abs.Fn Tryz.prog zjs [] [x0] r Ho :=
 zh mixed zrB (fn:=Tryz.f91) (by kernel_rfl) (by kernel_rfl) (by rw [zAq]; exact h)
def zve (q1s2 q1s3 q1s10 q1s11 y0:AV) (H:List Ob) (B1:List AV→List Ob→Prop) (K:AV→List Ob→Prop):Prop :=
 aBin false false .lss y0 q1s11 fun v14 =>
 ze v14
 (zb 5 q1s10 y0 fun v15 =>
 aLoad true 5 v15 H fun v16 =>
 zy [(.p (.int .i64 0)),(.p (.int .i64 0)),(.p (.bool false)),(.p (.str [])),(.full [])] H fun v17 h18 =>
 zi 5 v17 v16 h18 fun _ h20 =>
 za 1 q1s3 fun v21 =>
 aLoad false 1 v21 h20 fun v22 =>
 aLoad true 5 v17 h20 fun v23 =>
 zJ Tryz.prog (.p (.func zlc [])) [v23] fun v24 =>
 zk 2 [v24] fun v25 =>
 aCalm [v22,v25] <|
 zH false 2 32 v22 v25 h20 fun v26 h27 =>
 za 1 q1s3 fun v28 =>
 zi 1 v28 v26 h27 fun _ h30 =>
 aBin false false .add y0 (.p (.int .i64 1)) fun v31 =>
 B1 [v31] h30)
 (aLoad true 2 q1s3 H fun v32 =>
 zi 2 q1s2 v32 H fun _ h34 =>
 aLoad true 2 q1s2 h34 fun v35 =>
 K v35 h34)
def zx4 (x0:AV) (H:List Ob) (K:AV→List Ob→Prop):Prop :=
 aBox x0 H fun v0 h1 =>
 zy [(.p (.int .i64 0)),(.full [])] h1 fun v2 h3 =>
 za 0 v0 fun v4 =>
 aLoad false 1 v4 h3 fun v5 =>
 zp [(.p (.int .i64 0)),(.full [])] [(0,1,v5)] fun v6 =>
 zy [(.p (.int .i64 0)),(.full [])] h3 fun v7 h8 =>
 zi 2 v7 v6 h8 fun _ h10 =>
 za 4 v0 fun v11 =>
 aLoad false 1 v11 h10 fun v12 =>
 aLen false false v12 fun v13 =>
 zD 1 [(.p (.int .i64 0))] h10 fun xs H B1=>zve v2 v7 v12 v13 (xs.getD 0 Z) H B1 K
def ztz:Nat→List Nat:=fun k=>match k with | 3=>[12] | _=>[]
theorem zCd (x0:AV) (H:List Ob) (r:AV) (Ho:List Ob):aBody Tryz.prog ztz Tryz.f93 H [x0] r Ho=zx4 x0 H (fun v H'=>Gives H.length v H' r Ho):=by kernel_rfl
theorem zCe {x0:AV} {r:AV} {Ho:List Ob} (h:zx4 x0 [] (fun v H'=>Gives 0 v H' r Ho)):Abs.Fn Tryz.prog zlc [] [x0] r Ho :=
 zh mixed ztz (fn:=Tryz.f93) (by kernel_rfl) (by kernel_rfl) (by rw [zCd]; exact h)
def zgp (q1s1 q1s2 y0:AV) (H:List Ob) (B1:List AV→List Ob→Prop) (K:AV→List Ob→Prop):Prop :=
 za 4 q1s2 fun v64 =>
 aLoad false 1 v64 H fun v65 =>
 aLen false false v65 fun v66 =>
 aBin false false .lss y0 v66 fun v67 =>
 ze v67
 (za 4 q1s2 fun v68 =>
 aLoad false 1 v68 H fun v69 =>
 zb 5 v69 y0 fun v70 =>
 aLoad true 5 v70 H fun v71 =>
 aBin false false .add q1s1 (.p (.int .i64 1)) fun v72 =>
 aCall Tryz.prog (.p (.func zcb [])) [v71,v72] H fun v73 h74 =>
 aBin false false .neq v73 (.p (.int .i64 0)) fun v75 =>
 ze v75
 (K v73 h74)
 (aBin false false .add y0 (.p (.int .i64 1)) fun v76 =>
 B1 [v76] h74))
 (K (.p (.int .i64 0)) H)
def zeo (x0 x1:AV) (H:List Ob) (K:AV→List Ob→Prop):Prop :=
 aBox x0 H fun v0 h1 =>
 za 0 v0 fun v2 =>
 aLoad false 1 v2 h1 fun v3 =>
 aBin false false .lss v3 (.p (.int .i64 1)) fun v4 =>
 zm false v4 (fun Q5 =>
 za 0 v0 fun v6 =>
 aLoad false 1 v6 h1 fun v7 =>
 aBin false false .gtr v7 (.p (.int .i64 4)) fun v8 =>
 (h1=h1∧Q5 v8)) fun v9 =>
 ze v9
 (K (.p (.int .i64 5)) h1)
 (za 0 v0 fun v10 =>
 aLoad false 1 v10 h1 fun v11 =>
 aBin false false .neq v11 (.p (.int .i64 1)) fun v12 =>
 zm true v12 (fun Q13 =>
 za 1 v0 fun v14 =>
 aLoad false 1 v14 h1 fun v15 =>
 aBin false false .neq v15 (.p (.int .i64 0)) fun v16 =>
 (h1=h1∧Q13 v16)) fun v17 =>
 zm false v17 (fun Q18 =>
 za 0 v0 fun v19 =>
 aLoad false 1 v19 h1 fun v20 =>
 aBin false false .neq v20 (.p (.int .i64 2)) fun v21 =>
 zm true v21 (fun Q22 =>
 za 2 v0 fun v23 =>
 aLoad false 1 v23 h1 fun v24 =>
 (h1=h1∧Q22 v24)) fun v25 =>
 (h1=h1∧Q18 v25)) fun v26 =>
 zm false v26 (fun Q27 =>
 za 0 v0 fun v28 =>
 aLoad false 1 v28 h1 fun v29 =>
 aBin false false .neq v29 (.p (.int .i64 3)) fun v30 =>
 zm true v30 (fun Q31 =>
 za 3 v0 fun v32 =>
 aLoad false 1 v32 h1 fun v33 =>
 aBin false false .neq v33 (.p (.str [])) fun v34 =>
 (h1=h1∧Q31 v34)) fun v35 =>
 (h1=h1∧Q27 v35)) fun v36 =>
 zm false v36 (fun Q37 =>
 za 0 v0 fun v38 =>
 aLoad false 1 v38 h1 fun v39 =>
 aBin false false .neq v39 (.p (.int .i64 4)) fun v40 =>
 zm true v40 (fun Q41 =>
 za 4 v0 fun v42 =>
 aLoad false 1 v42 h1 fun v43 =>
 aLenS false v43 fun v44 =>
 aBin false false .gtr v44 (.p (.int .i64 0)) fun v45 =>
 (h1=h1∧Q41 v45)) fun v46 =>
 (h1=h1∧Q37 v46)) fun v47 =>
 ze v47
 (K (.p (.int .i64 2)) h1)
 (za 3 v0 fun v48 =>
 aLoad false 1 v48 h1 fun v49 =>
 aLen false true v49 fun v50 =>
 aBin false false .gtr v50 (.p (.int .i64 255)) fun v51 =>
 ze v51
 (K (.p (.int .i64 4)) h1)
 (za 0 v0 fun v52 =>
 aLoad false 1 v52 h1 fun v53 =>
 aBin false false .neq v53 (.p (.int .i64 4)) fun v54 =>
 ze v54
 (K (.p (.int .i64 0)) h1)
 (za 4 v0 fun v55 =>
 aLoad false 1 v55 h1 fun v56 =>
 aLen false false v56 fun v57 =>
 aBin false false .eql v57 (.p (.int .i64 0)) fun v58 =>
 ze v58
 (K (.p (.int .i64 1)) h1)
 (za 4 v0 fun v59 =>
 aLoad false 1 v59 h1 fun v60 =>
 aLen false false v60 fun v61 =>
 aBin false false .gtr v61 (.p (.int .i64 8)) fun v62 =>
 ze v62
 (K (.p (.int .i64 10)) h1)
 (aBin false false .gtr x1 (.p (.int .i64 4)) fun v63 =>
 ze v63
 (K (.p (.int .i64 9)) h1)
 (zD 1 [(.p (.int .i64 0))] h1 fun xs H B1=>zgp x1 v0 (xs.getD 0 Z) H B1 K)))))))
def zfE:Nat→List Nat:=fun k=>match k with | 16=>[5] | _=>[]
theorem zl9 (x0 x1:AV) (H:List Ob) (r:AV) (Ho:List Ob):aBody Tryz.prog zfE Tryz.f94 H [x0,x1] r Ho=zeo x0 x1 H (fun v H'=>Gives H.length v H' r Ho):=by kernel_rfl
theorem zma {x0 x1:AV} {r:AV} {Ho:List Ob} (h:zeo x0 x1 [] (fun v H'=>Gives 0 v H' r Ho)):Abs.Fn Tryz.prog zcb [] [x0,x1] r Ho :=
 zh mixed zfE (fn:=Tryz.f94) (by kernel_rfl) (by kernel_rfl) (by rw [zl9]; exact h)
def zq8 (q1s3 q1s6 q1s7 y0:AV) (H:List Ob) (B1:List AV→List Ob→Prop) (K:AV→List Ob→Prop):Prop :=
 aBin false false .lss y0 q1s7 fun v1 =>
 ze v1
 (zb 1 q1s6 y0 fun v2 =>
 aLoad false 1 v2 H fun v3 =>
 aBin false false .neq v3 q1s3 fun v4 =>
 ze v4
 (K v3 H)
 (aBin false false .add y0 (.p (.int .i64 1)) fun v5 =>
 B1 [v5] H))
 (K q1s3 H)
def zrN (x0:AV) (H:List Ob) (K:AV→List Ob→Prop):Prop :=
 aLen false false x0 fun v0 =>
 zD 1 [(.p (.int .i64 0))] H fun xs H B1=>zq8 (.p (.int .i64 0)) x0 v0 (xs.getD 0 Z) H B1 K
def zoV:Nat→List Nat:=fun k=>match k with | 3=>[8] | _=>[]
theorem zyg (x0:AV) (H:List Ob) (r:AV) (Ho:List Ob):aBody Tryz.prog zoV Tryz.f95 H [x0] r Ho=zrN x0 H (fun v H'=>Gives H.length v H' r Ho):=by kernel_rfl
theorem zyh {x0:AV} {r:AV} {Ho:List Ob} (h:zrN x0 [] (fun v H'=>Gives 0 v H' r Ho)):Abs.Fn Tryz.prog zj8 [] [x0] r Ho :=
 zh mixed zoV (fn:=Tryz.f95) (by kernel_rfl) (by kernel_rfl) (by rw [zyg]; exact h)
def zjv (x0 x1:AV) (H:List Ob) (K:AV→List Ob→Prop):Prop :=
 aCall Tryz.prog (.p (.func zgw [])) [x0] H fun v0 h1 =>
 aCall Tryz.prog (.p (.func zgw [])) [x1] h1 fun v2 h3 =>
 ze v0
 (ze v2
 (K (.p (.int .i64 0)) h3)
 (K (.p (.int .i64 (-1))) h3))
 (ze v2
 (K (.p (.int .i64 1)) h3)
 (aBin false false .lss x0 x1 fun v4 =>
 ze v4
 (K (.p (.int .i64 (-1))) h3)
 (aBin false false .gtr x0 x1 fun v5 =>
 ze v5
 (K (.p (.int .i64 1)) h3)
 (K (.p (.int .i64 0)) h3))))
def zjL:Nat→List Nat:=fun _=>[]
theorem zrL (x0 x1:AV) (H:List Ob) (r:AV) (Ho:List Ob):aBody Tryz.prog zjL Tryz.f96 H [x0,x1] r Ho=zjv x0 x1 H (fun v H'=>Gives H.length v H' r Ho):=by kernel_rfl
theorem zrM {x0 x1:AV} {r:AV} {Ho:List Ob} (h:zjv x0 x1 [] (fun v H'=>Gives 0 v H' r Ho)):Abs.Fn Tryz.prog zc1 [] [x0,x1] r Ho :=
 zh mixed zjL (fn:=Tryz.f96) (by kernel_rfl) (by kernel_rfl) (by rw [zrL]; exact h)
def zhk (x0 x1:AV) (H:List Ob) (K:AV→List Ob→Prop):Prop :=
 aCall Tryz.prog (.p (.func zey [])) [x0] H fun v0 h1 =>
 aCall Tryz.prog (.p (.func zey [])) [x1] h1 fun v2 h3 =>
 ze v0
 (ze v2
 (K (.p (.int .i64 0)) h3)
 (K (.p (.int .i64 (-1))) h3))
 (ze v2
 (K (.p (.int .i64 1)) h3)
 (aBin false false .lss x0 x1 fun v4 =>
 ze v4
 (K (.p (.int .i64 (-1))) h3)
 (aBin false false .gtr x0 x1 fun v5 =>
 ze v5
 (K (.p (.int .i64 1)) h3)
 (K (.p (.int .i64 0)) h3))))
def zhY:Nat→List Nat:=fun _=>[]
theorem zoT (x0 x1:AV) (H:List Ob) (r:AV) (Ho:List Ob):aBody Tryz.prog zhY Tryz.f99 H [x0,x1] r Ho=zhk x0 x1 H (fun v H'=>Gives H.length v H' r Ho):=by kernel_rfl
theorem zoU {x0 x1:AV} {r:AV} {Ho:List Ob} (h:zhk x0 x1 [] (fun v H'=>Gives 0 v H' r Ho)):Abs.Fn Tryz.prog zfG [] [x0,x1] r Ho :=
 zh mixed zhY (fn:=Tryz.f99) (by kernel_rfl) (by kernel_rfl) (by rw [zoT]; exact h)
def zuC (x0:AV) (H:List Ob) (K:AV→List Ob→Prop):Prop :=
 ze x0
 (K (.p (.int .i64 1)) H)
 (K (.p (.int .i64 0)) H)
def zrE:Nat→List Nat:=fun _=>[]
theorem zAz (x0:AV) (H:List Ob) (r:AV) (Ho:List Ob):aBody Tryz.prog zrE Tryz.f100 H [x0] r Ho=zuC x0 H (fun v H'=>Gives H.length v H' r Ho):=by kernel_rfl
theorem zAA {x0:AV} {r:AV} {Ho:List Ob} (h:zuC x0 [] (fun v H'=>Gives 0 v H' r Ho)):Abs.Fn Tryz.prog zlF [] [x0] r Ho :=
 zh mixed zrE (fn:=Tryz.f100) (by kernel_rfl) (by kernel_rfl) (by rw [zAz]; exact h)
def zjK (x0 x1:AV) (H:List Ob) (K:AV→List Ob→Prop):Prop :=
 aCall Tryz.prog (.p (.func zc5 [])) [x0,x1] H fun v0 h1 =>
 K v0 h1
def zj6:Nat→List Nat:=fun _=>[]
theorem zsu (x0 x1:AV) (H:List Ob) (r:AV) (Ho:List Ob):aBody Tryz.prog zj6 Tryz.f101 H [x0,x1] r Ho=zjK x0 x1 H (fun v H'=>Gives H.length v H' r Ho):=by kernel_rfl
theorem zsv {x0 x1:AV} {r:AV} {Ho:List Ob} (h:zjK x0 x1 [] (fun v H'=>Gives 0 v H' r Ho)):Abs.Fn Tryz.prog zhU [] [x0,x1] r Ho :=
 zh mixed zj6 (fn:=Tryz.f101) (by kernel_rfl) (by kernel_rfl) (by rw [zsu]; exact h)
def zg0 (x0 x1 x2:AV) (H:List Ob) (K:AV→List Ob→Prop):Prop :=
 aCall Tryz.prog (.p (.func zP [])) [x0,x1,x2] H fun v0 h1 =>
 K v0 h1
def zhX:Nat→List Nat:=fun _=>[]
theorem zoG (x0 x1 x2:AV) (H:List Ob) (r:AV) (Ho:List Ob):aBody Tryz.prog zhX Tryz.f102 H [x0,x1,x2] r Ho=zg0 x0 x1 x2 H (fun v H'=>Gives H.length v H' r Ho):=by kernel_rfl
theorem zoH {x0 x1 x2:AV} {r:AV} {Ho:List Ob} (h:zg0 x0 x1 x2 [] (fun v H'=>Gives 0 v H' r Ho)):Abs.Fn Tryz.prog zfm [] [x0,x1,x2] r Ho :=
 zh mixed zhX (fn:=Tryz.f102) (by kernel_rfl) (by kernel_rfl) (by rw [zoG]; exact h)
def zAu (x0:AV) (H:List Ob) (K:AV→List Ob→Prop):Prop :=
 zy [(.p (.int .i64 0)),(.p (.int .i64 0)),(.p (.bool false)),(.p (.str [])),(.full [])] H fun v0 h1 =>
 aCall Tryz.prog (.p (.func zbh [])) [x0] h1 fun v2 h3 =>
 aCall Tryz.prog (.p (.func zaJ [])) [v2] h3 fun v4 h5 =>
 zp [(.p (.int .i64 0)),(.p (.int .i64 0)),(.p (.bool false)),(.p (.str [])),(.full [])] [(0,1,(.p (.int .i64 4))),(4,1,v4)] fun v6 =>
 zi 5 v0 v6 h5 fun _ h8 =>
 aLoad true 5 v0 h8 fun v9 =>
 K v9 h8
def zvd:Nat→List Nat:=fun _=>[]
theorem zDJ (x0:AV) (H:List Ob) (r:AV) (Ho:List Ob):aBody Tryz.prog zvd Tryz.f113 H [x0] r Ho=zAu x0 H (fun v H'=>Gives H.length v H' r Ho):=by kernel_rfl
theorem zDK {x0:AV} {r:AV} {Ho:List Ob} (h:zAu x0 [] (fun v H'=>Gives 0 v H' r Ho)):Abs.Fn Tryz.prog zuz [] [x0] r Ho :=
 zh mixed zvd (fn:=Tryz.f113) (by kernel_rfl) (by kernel_rfl) (by rw [zDJ]; exact h)
def zbE (x0:AV) (H:List Ob) (K:AV→List Ob→Prop):Prop :=
 aLen false false x0 fun v0 =>
 aLen false false x0 fun v1 =>
 zbg false 5 x0 none (some v0) (some v1) fun v2 =>
 K v2 H
def zcv:Nat→List Nat:=fun _=>[]
theorem zgU (x0:AV) (H:List Ob) (r:AV) (Ho:List Ob):aBody Tryz.prog zcv Tryz.f115 H [x0] r Ho=zbE x0 H (fun v H'=>Gives H.length v H' r Ho):=by kernel_rfl
theorem zgV {x0:AV} {r:AV} {Ho:List Ob} (h:zbE x0 [] (fun v H'=>Gives 0 v H' r Ho)):Abs.Fn Tryz.prog zaJ [] [x0] r Ho :=
 zh mixed zcv (fn:=Tryz.f115) (by kernel_rfl) (by kernel_rfl) (by rw [zgU]; exact h)
def zty (q1s1 q1s2 y0 y1:AV) (H:List Ob) (B1:List AV→List Ob→Prop) (K:AV→List Ob→Prop):Prop :=
 za 4 q1s2 fun v25 =>
 aLoad false 1 v25 H fun v26 =>
 aLen false false v26 fun v27 =>
 aBin false false .lss y1 v27 fun v28 =>
 zm true v28 (fun Q29 =>
 aBin false false .eql y0 (.p (.int .i64 0)) fun v30 =>
 (H=H∧Q29 v30)) fun v31 =>
 ze v31
 (za 4 q1s2 fun v32 =>
 aLoad false 1 v32 H fun v33 =>
 zb 5 v33 y1 fun v34 =>
 aLoad true 5 v34 H fun v35 =>
 aBin false false .add q1s1 (.p (.int .i64 1)) fun v36 =>
 aCall Tryz.prog (.p (.func zlE [])) [v35,v36] H fun v37 h38 =>
 aBin false false .add y1 (.p (.int .i64 1)) fun v39 =>
 B1 [v37,v39] h38)
 (K y0 H)
def zuA (x0 x1:AV) (H:List Ob) (K:AV→List Ob→Prop):Prop :=
 aBox x0 H fun v0 h1 =>
 za 0 v0 fun v2 =>
 aLoad false 1 v2 h1 fun v3 =>
 aBin false false .lss v3 (.p (.int .i64 1)) fun v4 =>
 zm false v4 (fun Q5 =>
 za 0 v0 fun v6 =>
 aLoad false 1 v6 h1 fun v7 =>
 aBin false false .gtr v7 (.p (.int .i64 4)) fun v8 =>
 (h1=h1∧Q5 v8)) fun v9 =>
 ze v9
 (K (.p (.int .i64 5)) h1)
 (aLoad true 5 v0 h1 fun v10 =>
 aCall Tryz.prog (.p (.func zqi [])) [v10] h1 fun v11 h12 =>
 ze v11
 (K (.p (.int .i64 2)) h12)
 (za 3 v0 fun v13 =>
 aLoad false 1 v13 h12 fun v14 =>
 aLen false true v14 fun v15 =>
 aBin false false .gtr v15 (.p (.int .i64 255)) fun v16 =>
 ze v16
 (K (.p (.int .i64 4)) h12)
 (za 0 v0 fun v17 =>
 aLoad false 1 v17 h12 fun v18 =>
 aBin false false .neq v18 (.p (.int .i64 4)) fun v19 =>
 ze v19
 (K (.p (.int .i64 0)) h12)
 (za 4 v0 fun v20 =>
 aLoad false 1 v20 h12 fun v21 =>
 aLen false false v21 fun v22 =>
 aCall Tryz.prog (.p (.func zqD [])) [v22,x1] h12 fun v23 h24 =>
 zD 2 [v23,(.p (.int .i64 0))] h24 fun xs H B1=>zty x1 v0 (xs.getD 0 Z) (xs.getD 1 Z) H B1 K))))
def zrC:Nat→List Nat:=fun k=>match k with | 11=>[5,6] | _=>[]
theorem zAv (x0 x1:AV) (H:List Ob) (r:AV) (Ho:List Ob):aBody Tryz.prog zrC Tryz.f136 H [x0,x1] r Ho=zuA x0 x1 H (fun v H'=>Gives H.length v H' r Ho):=by kernel_rfl
theorem zAw {x0 x1:AV} {r:AV} {Ho:List Ob} (h:zuA x0 x1 [] (fun v H'=>Gives 0 v H' r Ho)):Abs.Fn Tryz.prog zlE [] [x0,x1] r Ho :=
 zh mixed zrC (fn:=Tryz.f136) (by kernel_rfl) (by kernel_rfl) (by rw [zAv]; exact h)
def zlL (x0:AV) (H:List Ob) (K:AV→List Ob→Prop):Prop :=
 aBin false false .neq x0 x0 fun v0 =>
 K v0 H
def zli:Nat→List Nat:=fun _=>[]
theorem ztK (x0:AV) (H:List Ob) (r:AV) (Ho:List Ob):aBody Tryz.prog zli Tryz.f138 H [x0] r Ho=zlL x0 H (fun v H'=>Gives H.length v H' r Ho):=by kernel_rfl
theorem ztL {x0:AV} {r:AV} {Ho:List Ob} (h:zlL x0 [] (fun v H'=>Gives 0 v H' r Ho)):Abs.Fn Tryz.prog zgw [] [x0] r Ho :=
 zh mixed zli (fn:=Tryz.f138) (by kernel_rfl) (by kernel_rfl) (by rw [ztK]; exact h)
def zjw (x0:AV) (H:List Ob) (K:AV→List Ob→Prop):Prop :=
 aBin false false .neq x0 x0 fun v0 =>
 K v0 H
def zjM:Nat→List Nat:=fun _=>[]
theorem zrO (x0:AV) (H:List Ob) (r:AV) (Ho:List Ob):aBody Tryz.prog zjM Tryz.f142 H [x0] r Ho=zjw x0 H (fun v H'=>Gives H.length v H' r Ho):=by kernel_rfl
theorem zrP {x0:AV} {r:AV} {Ho:List Ob} (h:zjw x0 [] (fun v H'=>Gives 0 v H' r Ho)):Abs.Fn Tryz.prog zey [] [x0] r Ho :=
 zh mixed zjM (fn:=Tryz.f142) (by kernel_rfl) (by kernel_rfl) (by rw [zrO]; exact h)
def zai (q1s0 q1s1 q1s2 q1s11 q1s12 y0:AV) (H:List Ob) (B1:List AV→List Ob→Prop) (K:AV→List Ob→Prop):Prop :=
 aBin false false .lss y0 q1s12 fun v1 =>
 ze v1
 (zb 5 q1s11 y0 fun v2 =>
 aLoad true 5 v2 H fun v3 =>
 zy [(.p (.int .i64 0)),(.p (.int .i64 0)),(.p (.bool false)),(.p (.str [])),(.full [])] H fun v4 h5 =>
 zi 5 v4 v3 h5 fun _ h7 =>
 aLen false false q1s1 fun v8 =>
 aBin false false .geq y0 v8 fun v9 =>
 ze v9
 (K (.p (.int .i64 1)) h7)
 (zb 5 q1s1 y0 fun v10 =>
 aLoad true 5 v10 h7 fun v11 =>
 zy [(.p (.int .i64 0)),(.p (.int .i64 0)),(.p (.bool false)),(.p (.str [])),(.full [])] h7 fun v12 h13 =>
 zi 5 v12 v11 h13 fun _ h15 =>
 aLoad true 5 v4 h15 fun v16 =>
 aLoad true 5 v12 h15 fun v17 =>
 aCall Tryz.prog q1s2 [v16,v17] h15 fun v18 h19 =>
 aBin false false .neq v18 (.p (.int .i64 0)) fun v20 =>
 ze v20
 (K v18 h19)
 (aBin false false .add y0 (.p (.int .i64 1)) fun v21 =>
 B1 [v21] h19)))
 (aLen false false q1s0 fun v22 =>
 aLen false false q1s1 fun v23 =>
 aBin false false .lss v22 v23 fun v24 =>
 ze v24
 (K (.p (.int .i64 (-1))) H)
 (K (.p (.int .i64 0)) H))
def zR (x0 x1 x2:AV) (H:List Ob) (K:AV→List Ob→Prop):Prop :=
 aLen false false x0 fun v0 =>
 zD 1 [(.p (.int .i64 0))] H fun xs H B1=>zai x0 x1 x2 x0 v0 (xs.getD 0 Z) H B1 K
def zah:Nat→List Nat:=fun k=>match k with | 2=>[13] | _=>[]
theorem zbA (x0 x1 x2:AV) (H:List Ob) (r:AV) (Ho:List Ob):aBody Tryz.prog zah Tryz.f144 H [x0,x1,x2] r Ho=zR x0 x1 x2 H (fun v H'=>Gives H.length v H' r Ho):=by kernel_rfl
theorem zbB {x0 x1 x2:AV} {r:AV} {Ho:List Ob} (h:zR x0 x1 x2 [] (fun v H'=>Gives 0 v H' r Ho)):Abs.Fn Tryz.prog zP [] [x0,x1,x2] r Ho :=
 zh mixed zah (fn:=Tryz.f144) (by kernel_rfl) (by kernel_rfl) (by rw [zbA]; exact h)
def zaM (x0:AV) (H:List Ob) (K:AV→List Ob→Prop):Prop :=
 aNil true .eql x0 fun v0 =>
 ze v0
 (K (.full []) H)
 (zk 5 [] fun v1 =>
 zH false 5 64 v1 x0 H fun v2 h3 =>
 K v2 h3)
def zcj:Nat→List Nat:=fun _=>[]
theorem zgq (x0:AV) (H:List Ob) (r:AV) (Ho:List Ob):aBody Tryz.prog zcj Tryz.f153 H [x0] r Ho=zaM x0 H (fun v H'=>Gives H.length v H' r Ho):=by kernel_rfl
theorem zcw {x0:AV} {r:AV} {Ho:List Ob} (h:zaM x0 [] (fun v H'=>Gives 0 v H' r Ho)):Abs.Fn Tryz.prog zbh [] [x0] r Ho :=
 zh mixed zcj (fn:=Tryz.f153) (by kernel_rfl) (by kernel_rfl) (by rw [zgq]; exact h)
def zuB (x0:AV) (H:List Ob) (K:AV→List Ob→Prop):Prop :=
 aBox x0 H fun v0 h1 =>
 za 0 v0 fun v2 =>
 aLoad false 1 v2 h1 fun v3 =>
 aBin false false .neq v3 (.p (.int .i64 1)) fun v4 =>
 zm true v4 (fun Q5 =>
 za 1 v0 fun v6 =>
 aLoad false 1 v6 h1 fun v7 =>
 aBin false false .neq v7 (.p (.int .i64 0)) fun v8 =>
 (h1=h1∧Q5 v8)) fun v9 =>
 zm false v9 (fun Q10 =>
 za 0 v0 fun v11 =>
 aLoad false 1 v11 h1 fun v12 =>
 aBin false false .neq v12 (.p (.int .i64 2)) fun v13 =>
 zm true v13 (fun Q14 =>
 za 2 v0 fun v15 =>
 aLoad false 1 v15 h1 fun v16 =>
 (h1=h1∧Q14 v16)) fun v17 =>
 (h1=h1∧Q10 v17)) fun v18 =>
 zm false v18 (fun Q19 =>
 za 0 v0 fun v20 =>
 aLoad false 1 v20 h1 fun v21 =>
 aBin false false .neq v21 (.p (.int .i64 3)) fun v22 =>
 zm true v22 (fun Q23 =>
 za 3 v0 fun v24 =>
 aLoad false 1 v24 h1 fun v25 =>
 aBin false false .neq v25 (.p (.str [])) fun v26 =>
 (h1=h1∧Q23 v26)) fun v27 =>
 (h1=h1∧Q19 v27)) fun v28 =>
 zm false v28 (fun Q29 =>
 za 0 v0 fun v30 =>
 aLoad false 1 v30 h1 fun v31 =>
 aBin false false .neq v31 (.p (.int .i64 4)) fun v32 =>
 zm true v32 (fun Q33 =>
 za 4 v0 fun v34 =>
 aLoad false 1 v34 h1 fun v35 =>
 aLenS false v35 fun v36 =>
 aBin false false .gtr v36 (.p (.int .i64 0)) fun v37 =>
 (h1=h1∧Q33 v37)) fun v38 =>
 (h1=h1∧Q29 v38)) fun v39 =>
 K v39 h1
def zrD:Nat→List Nat:=fun _=>[]
theorem zAx (x0:AV) (H:List Ob) (r:AV) (Ho:List Ob):aBody Tryz.prog zrD Tryz.f168 H [x0] r Ho=zuB x0 H (fun v H'=>Gives H.length v H' r Ho):=by kernel_rfl
theorem zAy {x0:AV} {r:AV} {Ho:List Ob} (h:zuB x0 [] (fun v H'=>Gives 0 v H' r Ho)):Abs.Fn Tryz.prog zqi [] [x0] r Ho :=
 zh mixed zrD (fn:=Tryz.f168) (by kernel_rfl) (by kernel_rfl) (by rw [zAx]; exact h)
def zxY (x0:AV) (H:List Ob) (K:AV→List Ob→Prop):Prop :=
 zy [(.p (.int .i64 0)),(.p (.int .i64 0)),(.p (.bool false)),(.p (.str [])),(.full [])] H fun v0 h1 =>
 zp [(.p (.int .i64 0)),(.p (.int .i64 0)),(.p (.bool false)),(.p (.str [])),(.full [])] [(0,1,(.p (.int .i64 2))),(2,1,x0)] fun v2 =>
 zi 5 v0 v2 h1 fun _ h4 =>
 aLoad true 5 v0 h4 fun v5 =>
 K v5 h4
def ztw:Nat→List Nat:=fun _=>[]
theorem zB9 (x0:AV) (H:List Ob) (r:AV) (Ho:List Ob):aBody Tryz.prog ztw Tryz.f215 H [x0] r Ho=zxY x0 H (fun v H'=>Gives H.length v H' r Ho):=by kernel_rfl
theorem zCa {x0:AV} {r:AV} {Ho:List Ob} (h:zxY x0 [] (fun v H'=>Gives 0 v H' r Ho)):Abs.Fn Tryz.prog zlb [] [x0] r Ho :=
 zh mixed ztw (fn:=Tryz.f215) (by kernel_rfl) (by kernel_rfl) (by rw [zB9]; exact h)
def zAt (x0:AV) (H:List Ob) (K:AV→List Ob→Prop):Prop :=
 zy [(.p (.int .i64 0)),(.p (.int .i64 0)),(.p (.bool false)),(.p (.str [])),(.full [])] H fun v0 h1 =>
 zp [(.p (.int .i64 0)),(.p (.int .i64 0)),(.p (.bool false)),(.p (.str [])),(.full [])] [(0,1,(.p (.int .i64 3))),(3,1,x0)] fun v2 =>
 zi 5 v0 v2 h1 fun _ h4 =>
 aLoad true 5 v0 h4 fun v5 =>
 K v5 h4
def zvc:Nat→List Nat:=fun _=>[]
theorem zDH (x0:AV) (H:List Ob) (r:AV) (Ho:List Ob):aBody Tryz.prog zvc Tryz.f253 H [x0] r Ho=zAt x0 H (fun v H'=>Gives H.length v H' r Ho):=by kernel_rfl
theorem zDI {x0:AV} {r:AV} {Ho:List Ob} (h:zAt x0 [] (fun v H'=>Gives 0 v H' r Ho)):Abs.Fn Tryz.prog zuy [] [x0] r Ho :=
 zh mixed zvc (fn:=Tryz.f253) (by kernel_rfl) (by kernel_rfl) (by rw [zDH]; exact h)
def zsw (x0:AV) (H:List Ob) (K:AV→List Ob→Prop):Prop :=
 aBox x0 H fun v0 h1 =>
 zy [(.p (.int .i64 0)),(.full [])] h1 fun v2 h3 =>
 aLoad true 5 v0 h3 fun v4 =>
 aCall Tryz.prog (.p (.func zjs [])) [v4] h3 fun v5 h6 =>
 aBin false false .neq v5 (.p (.int .i64 0)) fun v7 =>
 ze v7
 (zp [(.p (.int .i64 0)),(.full [])] [] fun v8 =>
 zi 2 v2 v8 h6 fun _ h10 =>
 aLoad true 2 v2 h10 fun v11 =>
 K v11 h10)
 (aLoad true 5 v0 h6 fun v12 =>
 aCall Tryz.prog (.p (.func zlc [])) [v12] h6 fun v13 h14 =>
 zi 2 v2 v13 h14 fun _ h16 =>
 aLoad true 2 v2 h16 fun v17 =>
 K v17 h16)
def zqh:Nat→List Nat:=fun _=>[]
theorem zyJ (x0:AV) (H:List Ob) (r:AV) (Ho:List Ob):aBody Tryz.prog zqh Tryz.f261 H [x0] r Ho=zsw x0 H (fun v H'=>Gives H.length v H' r Ho):=by kernel_rfl
theorem zyK {x0:AV} {r:AV} {Ho:List Ob} (h:zsw x0 [] (fun v H'=>Gives 0 v H' r Ho)):Abs.Fn Tryz.prog znN [] [x0] r Ho :=
 zh mixed zqh (fn:=Tryz.f261) (by kernel_rfl) (by kernel_rfl) (by rw [zyJ]; exact h)
end Go.Proofs.YtdmgbhamigegfaaGreatDoor
end

section
/- Made by program (Gen.lean): functions of the dump, over trees. -/
set_option maxRecDepth 4000
set_option linter.unusedVariables false
namespace Go.Proofs.YtdmgbhamigegfaaGreatDoor
open Go Go.Abs
def zl4 (x0 x1:AV) (H:List Ob) (K:AV→List Ob→Prop):Prop :=
 zy [(.p (.str [])),(.p (.int .i64 0)),(.p (.int .i64 0)),(.p (.bool false)),(.p (.str [])),(.full []),(.p (.int .i64 0)),(.full [])] H fun v0 h1 =>
 zp [(.p (.str [])),(.p (.int .i64 0)),(.p (.int .i64 0)),(.p (.bool false)),(.p (.str [])),(.full []),(.p (.int .i64 0)),(.full [])] [(0,1,x0),(7,1,x1)] fun v2 =>
 zi 8 v0 v2 h1 fun _ h4 =>
 aLoad true 8 v0 h4 fun v5 =>
 K v5 h4
def zly:Nat→List Nat:=fun _=>[]
theorem zum (x0 x1:AV) (H:List Ob) (r:AV) (Ho:List Ob):aBody Tryz.prog zly Tryz.f10 H [x0,x1] r Ho=zl4 x0 x1 H (fun v H'=>Gives H.length v H' r Ho):=by kernel_rfl
theorem zun {x0 x1:AV} {r:AV} {Ho:List Ob} (h:zl4 x0 x1 [] (fun v H'=>Gives 0 v H' r Ho)):Abs.Fn Tryz.prog zgz [] [x0,x1] r Ho :=
 zh mixed zly (fn:=Tryz.f10) (by kernel_rfl) (by kernel_rfl) (by rw [zum]; exact h)
def zkY (x0:AV) (H:List Ob) (K:AV→List Ob→Prop):Prop :=
 aBox x0 H fun v0 h1 =>
 zy [(.p (.str [])),(.p (.int .i64 0)),(.p (.int .i64 0)),(.p (.bool false)),(.p (.str [])),(.full []),(.p (.int .i64 0)),(.full [])] h1 fun v2 h3 =>
 aLoad true 5 v0 h3 fun v4 =>
 zp [(.p (.str [])),(.p (.int .i64 0)),(.p (.int .i64 0)),(.p (.bool false)),(.p (.str [])),(.full []),(.p (.int .i64 0)),(.full [])] [(0,1,(.p (.str [108,105,116]))),(1,5,v4)] fun v5 =>
 zi 8 v2 v5 h3 fun _ h7 =>
 aLoad true 8 v2 h7 fun v8 =>
 K v8 h7
def zkZ:Nat→List Nat:=fun _=>[]
theorem zto (x0:AV) (H:List Ob) (r:AV) (Ho:List Ob):aBody Tryz.prog zkZ Tryz.f11 H [x0] r Ho=zkY x0 H (fun v H'=>Gives H.length v H' r Ho):=by kernel_rfl
theorem ztp {x0:AV} {r:AV} {Ho:List Ob} (h:zkY x0 [] (fun v H'=>Gives 0 v H' r Ho)):Abs.Fn Tryz.prog ziw [] [x0] r Ho :=
 zh mixed zkZ (fn:=Tryz.f11) (by kernel_rfl) (by kernel_rfl) (by rw [zto]; exact h)
def znC (H:List Ob) (K:AV→List Ob→Prop):Prop :=
 zy [(.p (.str [])),(.p (.int .i64 0)),(.p (.int .i64 0)),(.p (.bool false)),(.p (.str [])),(.full []),(.p (.int .i64 0)),(.full [])] H fun v0 h1 =>
 zp [(.p (.str [])),(.p (.int .i64 0)),(.p (.int .i64 0)),(.p (.bool false)),(.p (.str [])),(.full []),(.p (.int .i64 0)),(.full [])] [(0,1,(.p (.str [120])))] fun v2 =>
 zi 8 v0 v2 h1 fun _ h4 =>
 aLoad true 8 v0 h4 fun v5 =>
 K v5 h4
def zmJ:Nat→List Nat:=fun _=>[]
theorem zvw (H:List Ob) (r:AV) (Ho:List Ob):aBody Tryz.prog zmJ Tryz.f13 H [] r Ho=znC H (fun v H'=>Gives H.length v H' r Ho):=by kernel_rfl
theorem zvx {r:AV} {Ho:List Ob} (h:znC [] (fun v H'=>Gives 0 v H' r Ho)):Abs.Fn Tryz.prog zhB [] [] r Ho :=
 zh mixed zmJ (fn:=Tryz.f13) (by kernel_rfl) (by kernel_rfl) (by rw [zvw]; exact h)
def zkW (x0:AV) (H:List Ob) (K:AV→List Ob→Prop):Prop :=
 aBox x0 H fun v0 h1 =>
 aLoad true 8 v0 h1 fun v2 =>
 aCall Tryz.prog (.p (.func zdp [])) [v2,(.p (.int .i64 20)),(.p (.int .i64 400))] h1 fun v3 h4 =>
 aBin false false .gtr v3 (.p (.int .i64 0)) fun v5 =>
 K v5 h4
def zkX:Nat→List Nat:=fun _=>[]
theorem ztm (x0:AV) (H:List Ob) (r:AV) (Ho:List Ob):aBody Tryz.prog zkX Tryz.f80 H [x0] r Ho=zkW x0 H (fun v H'=>Gives H.length v H' r Ho):=by kernel_rfl
theorem ztn {x0:AV} {r:AV} {Ho:List Ob} (h:zkW x0 [] (fun v H'=>Gives 0 v H' r Ho)):Abs.Fn Tryz.prog zfw [] [x0] r Ho :=
 zh mixed zkX (fn:=Tryz.f80) (by kernel_rfl) (by kernel_rfl) (by rw [ztm]; exact h)
def zmI (q1s1 q1s2 q1s3 y0:AV) (H:List Ob) (B1:List AV→List Ob→Prop) (K:AV→List Ob→Prop):Prop :=
 za 7 q1s1 fun v16 =>
 aLoad false 1 v16 H fun v17 =>
 aLen false false v17 fun v18 =>
 aBin false false .lss y0 v18 fun v19 =>
 ze v19
 (za 7 q1s3 fun v20 =>
 aLoad false 1 v20 H fun v21 =>
 za 7 q1s1 fun v22 =>
 aLoad false 1 v22 H fun v23 =>
 zb 8 v23 y0 fun v24 =>
 aLoad true 8 v24 H fun v25 =>
 zJ Tryz.prog (.p (.func zea [])) [v25] fun v26 =>
 zk 8 [v26] fun v27 =>
 aCalm [v21,v27] <|
 zH false 8 112 v21 v27 H fun v28 h29 =>
 za 7 q1s3 fun v30 =>
 zi 1 v30 v28 h29 fun _ h32 =>
 aBin false false .add y0 (.p (.int .i64 1)) fun v33 =>
 B1 [v33] h32)
 (aLoad true 8 q1s3 H fun v34 =>
 zi 8 q1s2 v34 H fun _ h36 =>
 aLoad true 8 q1s2 h36 fun v37 =>
 K v37 h36)
def zl3 (x0:AV) (H:List Ob) (K:AV→List Ob→Prop):Prop :=
 aBox x0 H fun v0 h1 =>
 zy [(.p (.str [])),(.p (.int .i64 0)),(.p (.int .i64 0)),(.p (.bool false)),(.p (.str [])),(.full []),(.p (.int .i64 0)),(.full [])] h1 fun v2 h3 =>
 zy [(.p (.str [])),(.p (.int .i64 0)),(.p (.int .i64 0)),(.p (.bool false)),(.p (.str [])),(.full []),(.p (.int .i64 0)),(.full [])] h3 fun v4 h5 =>
 za 0 v0 fun v6 =>
 aLoad false 1 v6 h5 fun v7 =>
 za 1 v0 fun v8 =>
 aLoad true 5 v8 h5 fun v9 =>
 zJ Tryz.prog (.p (.func zcW [])) [v9] fun v10 =>
 za 6 v0 fun v11 =>
 aLoad false 1 v11 h5 fun v12 =>
 zp [(.p (.str [])),(.p (.int .i64 0)),(.p (.int .i64 0)),(.p (.bool false)),(.p (.str [])),(.full []),(.p (.int .i64 0)),(.full [])] [(0,1,v7),(1,5,v10),(6,1,v12)] fun v13 =>
 zi 8 v4 v13 h5 fun _ h15 =>
 zD 1 [(.p (.int .i64 0))] h15 fun xs H B1=>zmI v0 v2 v4 (xs.getD 0 Z) H B1 K
def zlx:Nat→List Nat:=fun k=>match k with | 3=>[4] | _=>[]
theorem zuk (x0:AV) (H:List Ob) (r:AV) (Ho:List Ob):aBody Tryz.prog zlx Tryz.f83 H [x0] r Ho=zl3 x0 H (fun v H'=>Gives H.length v H' r Ho):=by kernel_rfl
theorem zul {x0:AV} {r:AV} {Ho:List Ob} (h:zl3 x0 [] (fun v H'=>Gives 0 v H' r Ho)):Abs.Fn Tryz.prog zea [] [x0] r Ho :=
 zh mixed zlx (fn:=Tryz.f83) (by kernel_rfl) (by kernel_rfl) (by rw [zuk]; exact h)
def zi7 (q1s1 q1s3 y0 y1:AV) (H:List Ob) (B1:List AV→List Ob→Prop) (K:AV→List Ob→Prop):Prop :=
 za 7 q1s3 fun v26 =>
 aLoad false 1 v26 H fun v27 =>
 aLen false false v27 fun v28 =>
 aBin false false .lss y1 v28 fun v29 =>
 zm true v29 (fun Q30 =>
 aBin false false .gtr y0 (.p (.int .i64 0)) fun v31 =>
 (H=H∧Q30 v31)) fun v32 =>
 ze v32
 (za 7 q1s3 fun v33 =>
 aLoad false 1 v33 H fun v34 =>
 zb 8 v34 y1 fun v35 =>
 aLoad true 8 v35 H fun v36 =>
 aBin false false .sub q1s1 (.p (.int .i64 1)) fun v37 =>
 aCall Tryz.prog (.p (.func zdp [])) [v36,v37,y0] H fun v38 h39 =>
 aBin false false .add y1 (.p (.int .i64 1)) fun v40 =>
 B1 [v38,v40] h39)
 (K y0 H)
def zhC (x0 x1 x2:AV) (H:List Ob) (K:AV→List Ob→Prop):Prop :=
 aBox x0 H fun v0 h1 =>
 aBin false false .leq x2 (.p (.int .i64 0)) fun v2 =>
 zm false v2 (fun Q3 =>
 aBin false false .leq x1 (.p (.int .i64 0)) fun v4 =>
 (h1=h1∧Q3 v4)) fun v5 =>
 zm false v5 (fun Q6 =>
 za 7 v0 fun v7 =>
 aLoad false 1 v7 h1 fun v8 =>
 aLenS false v8 fun v9 =>
 aBin false false .gtr v9 (.p (.int .i64 12)) fun v10 =>
 (h1=h1∧Q6 v10)) fun v11 =>
 zm false v11 (fun Q12 =>
 za 0 v0 fun v13 =>
 aLoad false 1 v13 h1 fun v14 =>
 aLenS true v14 fun v15 =>
 aBin false false .gtr v15 (.p (.int .i64 20)) fun v16 =>
 (h1=h1∧Q12 v16)) fun v17 =>
 zm false v17 (fun Q18 =>
 za 1 v0 fun v19 =>
 aLoad true 5 v19 h1 fun v20 =>
 aCall Tryz.prog (.p (.func ziu [])) [v20] h1 fun v21 h22 =>
 aUn .not v21 fun v23 =>
 (h22=h1∧Q18 v23)) fun v24 =>
 ze v24
 (K (.p (.int .i64 0)) h1)
 (aBin false false .sub x2 (.p (.int .i64 1)) fun v25 =>
 zD 2 [v25,(.p (.int .i64 0))] h1 fun xs H B1=>zi7 x1 v0 (xs.getD 0 Z) (xs.getD 1 Z) H B1 K)
def zh2:Nat→List Nat:=fun k=>match k with | 5=>[2,7] | _=>[]
theorem zpV (x0 x1 x2:AV) (H:List Ob) (r:AV) (Ho:List Ob):aBody Tryz.prog zh2 Tryz.f123 H [x0,x1,x2] r Ho=zhC x0 x1 x2 H (fun v H'=>Gives H.length v H' r Ho):=by kernel_rfl
theorem zpW {x0 x1 x2:AV} {r:AV} {Ho:List Ob} (h:zhC x0 x1 x2 [] (fun v H'=>Gives 0 v H' r Ho)):Abs.Fn Tryz.prog zdp [] [x0,x1,x2] r Ho :=
 zh mixed zh2 (fn:=Tryz.f123) (by kernel_rfl) (by kernel_rfl) (by rw [zpV]; exact h)
def zfd (x0 x1:AV) (H:List Ob) (K:AV→List Ob→Prop):Prop :=
 aBox x0 H fun v0 h1 =>
 aBox x1 h1 fun v2 h3 =>
 zy [(.p (.int .i64 0)),(.full [])] h3 fun v4 h5 =>
 aLoad true 2 v2 h5 fun v6 =>
 aCall Tryz.prog (.p (.func zaC [])) [v6] h5 fun v7 h8 =>
 aBin false false .neq v7 (.p (.int .i64 0)) fun v9 =>
 ze v9
 (zp [(.p (.int .i64 0)),(.full [])] [] fun v10 =>
 zi 2 v4 v10 h8 fun _ h12 =>
 aLoad true 2 v4 h12 fun v13 =>
 K (.tup [v13,(.p (.int .i64 5))]) h12)
 (aLoad true 8 v0 h8 fun v14 =>
 aCall Tryz.prog (.p (.func zeD [])) [v14] h8 fun v15 h16 =>
 aBin false false .gtr v15 (.p (.int .i64 256)) fun v17 =>
 ze v17
 (zp [(.p (.int .i64 0)),(.full [])] [] fun v18 =>
 zi 2 v4 v18 h16 fun _ h20 =>
 aLoad true 2 v4 h20 fun v21 =>
 K (.tup [v21,(.p (.int .i64 10))]) h20)
 (aLoad true 8 v0 h16 fun v22 =>
 aLoad true 2 v2 h16 fun v23 =>
 aCall Tryz.prog (.p (.func zdV [])) [v22,v23,(.p (.int .i64 0))] h16 fun v24 h25 =>
 zB v24 0 fun v26 =>
 zB v24 1 fun v27 =>
 zi 2 v4 v26 h25 fun _ h29 =>
 aLoad true 2 v4 h29 fun v30 =>
 K (.tup [v30,v27]) h29))
def zgm:Nat→List Nat:=fun _=>[]
theorem zmP (x0 x1:AV) (H:List Ob) (r:AV) (Ho:List Ob):aBody Tryz.prog zgm Tryz.f158 H [x0,x1] r Ho=zfd x0 x1 H (fun v H'=>Gives H.length v H' r Ho):=by kernel_rfl
theorem zmQ {x0 x1:AV} {r:AV} {Ho:List Ob} (h:zfd x0 x1 [] (fun v H'=>Gives 0 v H' r Ho)):Abs.Fn Tryz.prog zco [] [x0,x1] r Ho :=
 zh mixed zgm (fn:=Tryz.f158) (by kernel_rfl) (by kernel_rfl) (by rw [zmP]; exact h)
def zrW (x0 x1:AV) (H:List Ob) (K:AV→List Ob→Prop):Prop :=
 aBox x0 H fun v0 h1 =>
 aBox x1 h1 fun v2 h3 =>
 zy [(.p (.int .i64 0)),(.full [])] h3 fun v4 h5 =>
 aLoad true 2 v2 h5 fun v6 =>
 aCall Tryz.prog (.p (.func zhf [])) [v6] h5 fun v7 h8 =>
 aBin false false .neq v7 (.p (.int .i64 0)) fun v9 =>
 ze v9
 (zp [(.p (.int .i64 0)),(.full [])] [] fun v10 =>
 zi 2 v4 v10 h8 fun _ h12 =>
 aLoad true 2 v4 h12 fun v13 =>
 K (.tup [v13,(.p (.int .i64 5))]) h12)
 (aLoad true 8 v0 h8 fun v14 =>
 aCall Tryz.prog (.p (.func zlm [])) [v14] h8 fun v15 h16 =>
 aBin false false .gtr v15 (.p (.int .i64 256)) fun v17 =>
 ze v17
 (zp [(.p (.int .i64 0)),(.full [])] [] fun v18 =>
 zi 2 v4 v18 h16 fun _ h20 =>
 aLoad true 2 v4 h20 fun v21 =>
 K (.tup [v21,(.p (.int .i64 10))]) h20)
 (aLoad true 8 v0 h16 fun v22 =>
 aLoad true 2 v2 h16 fun v23 =>
 aCall Tryz.prog (.p (.func zke [])) [v22,v23,(.p (.int .i64 0))] h16 fun v24 h25 =>
 zB v24 0 fun v26 =>
 zB v24 1 fun v27 =>
 zi 2 v4 v26 h25 fun _ h29 =>
 aLoad true 2 v4 h29 fun v30 =>
 K (.tup [v30,v27]) h29))
def zpp:Nat→List Nat:=fun _=>[]
theorem zyq (x0 x1:AV) (H:List Ob) (r:AV) (Ho:List Ob):aBody Tryz.prog zpp Tryz.f163 H [x0,x1] r Ho=zrW x0 x1 H (fun v H'=>Gives H.length v H' r Ho):=by kernel_rfl
theorem zyr {x0 x1:AV} {r:AV} {Ho:List Ob} (h:zrW x0 x1 [] (fun v H'=>Gives 0 v H' r Ho)):Abs.Fn Tryz.prog zkd [] [x0,x1] r Ho :=
 zh mixed zpp (fn:=Tryz.f163) (by kernel_rfl) (by kernel_rfl) (by rw [zyq]; exact h)
def zk5 (q1s1 y0 y1:AV) (H:List Ob) (B1:List AV→List Ob→Prop) (K:AV→List Ob→Prop):Prop :=
 za 7 q1s1 fun v2 =>
 aLoad false 1 v2 H fun v3 =>
 aLen false false v3 fun v4 =>
 aBin false false .lss y1 v4 fun v5 =>
 ze v5
 (za 7 q1s1 fun v6 =>
 aLoad false 1 v6 H fun v7 =>
 zb 8 v7 y1 fun v8 =>
 aLoad true 8 v8 H fun v9 =>
 aCall Tryz.prog (.p (.func zeD [])) [v9] H fun v10 h11 =>
 aBin false false .add y0 v10 fun v12 =>
 aBin false false .add y1 (.p (.int .i64 1)) fun v13 =>
 B1 [v12,v13] h11)
 (K y0 H)
def zjH (x0:AV) (H:List Ob) (K:AV→List Ob→Prop):Prop :=
 aBox x0 H fun v0 h1 =>
 zD 2 [(.p (.int .i64 1)),(.p (.int .i64 0))] h1 fun xs H B1=>zk5 v0 (xs.getD 0 Z) (xs.getD 1 Z) H B1 K
def zj3:Nat→List Nat:=fun k=>match k with | 3=>[3,4] | _=>[]
theorem zsp (x0:AV) (H:List Ob) (r:AV) (Ho:List Ob):aBody Tryz.prog zj3 Tryz.f186 H [x0] r Ho=zjH x0 H (fun v H'=>Gives H.length v H' r Ho):=by kernel_rfl
theorem zsq {x0:AV} {r:AV} {Ho:List Ob} (h:zjH x0 [] (fun v H'=>Gives 0 v H' r Ho)):Abs.Fn Tryz.prog zeD [] [x0] r Ho :=
 zh mixed zj3 (fn:=Tryz.f186) (by kernel_rfl) (by kernel_rfl) (by rw [zsp]; exact h)
def zj4 (q1s2 q1s3 q1s4 q1s6 y0 y1:AV) (H:List Ob) (B1:List AV→List Ob→Prop) (K:AV→List Ob→Prop):Prop :=
 za 7 q1s3 fun v96 =>
 aLoad false 1 v96 H fun v97 =>
 aLen false false v97 fun v98 =>
 aBin false false .lss y1 v98 fun v99 =>
 ze v99
 (zy [(.p (.int .i64 0)),(.full [])] H fun v100 h101 =>
 za 7 q1s3 fun v102 =>
 aLoad false 1 v102 h101 fun v103 =>
 zb 8 v103 y1 fun v104 =>
 aLoad true 8 v104 h101 fun v105 =>
 aLoad true 2 q1s4 h101 fun v106 =>
 aBin false false .add q1s2 (.p (.int .i64 1)) fun v107 =>
 zJ Tryz.prog (.p (.func zdV [])) [v105,v106,v107] fun v108 =>
 zB v108 0 fun v109 =>
 zB v108 1 fun v110 =>
 zi 2 v100 v109 h101 fun _ h112 =>
 aBin false false .neq v110 (.p (.int .i64 0)) fun v113 =>
 ze v113
 (zp [(.p (.int .i64 0)),(.full [])] [] fun v114 =>
 zi 2 q1s6 v114 h112 fun _ h116 =>
 aLoad true 2 q1s6 h116 fun v117 =>
 K (.tup [v117,v110]) h116)
 (aLoad true 2 v100 h112 fun v118 =>
 zk 2 [v118] fun v119 =>
 zH false 2 32 y0 v119 h112 fun v120 h121 =>
 aBin false false .add y1 (.p (.int .i64 1)) fun v122 =>
 B1 [v120,v122] h121))
 (za 0 q1s3 fun v123 =>
 aLoad false 1 v123 H fun v124 =>
 za 6 q1s3 fun v125 =>
 aLoad false 1 v125 H fun v126 =>
 aCall Tryz.prog (.p (.func zf1 [])) [v124,v126,y0] H fun v127 h128 =>
 zB v127 0 fun v129 =>
 zB v127 1 fun v130 =>
 zi 2 q1s6 v129 h128 fun _ h132 =>
 aLoad true 2 q1s6 h132 fun v133 =>
 K (.tup [v133,v130]) h132)
def ziF (x0 x1 x2:AV) (H:List Ob) (K:AV→List Ob→Prop):Prop :=
 aBox x0 H fun v0 h1 =>
 aBox x1 h1 fun v2 h3 =>
 zy [(.p (.int .i64 0)),(.full [])] h3 fun v4 h5 =>
 za 0 v0 fun v6 =>
 aLoad false 1 v6 h5 fun v7 =>
 aCall Tryz.prog (.p (.func zgS [])) [v7] h5 fun v8 h9 =>
 aBin false false .eql v8 (.p (.int .i64 (-2))) fun v10 =>
 ze v10
 (zp [(.p (.int .i64 0)),(.full [])] [] fun v11 =>
 zi 2 v4 v11 h9 fun _ h13 =>
 aLoad true 2 v4 h13 fun v14 =>
 K (.tup [v14,(.p (.int .i64 6))]) h13)
 (aBin false false .gtr x2 (.p (.int .i64 12)) fun v15 =>
 ze v15
 (zp [(.p (.int .i64 0)),(.full [])] [] fun v16 =>
 zi 2 v4 v16 h9 fun _ h18 =>
 aLoad true 2 v4 h18 fun v19 =>
 K (.tup [v19,(.p (.int .i64 9))]) h18)
 (aBin false false .geq v8 (.p (.int .i64 0)) fun v20 =>
 zm true v20 (fun Q21 =>
 za 7 v0 fun v22 =>
 aLoad false 1 v22 h9 fun v23 =>
 aLenS false v23 fun v24 =>
 aBin false false .neq v24 v8 fun v25 =>
 (h9=h9∧Q21 v25)) fun v26 =>
 zm false v26 (fun Q27 =>
 aBin false false .lss v8 (.p (.int .i64 0)) fun v28 =>
 zm true v28 (fun Q29 =>
 za 7 v0 fun v30 =>
 aLoad false 1 v30 h9 fun v31 =>
 aLenS false v31 fun v32 =>
 aBin false false .lss v32 (.p (.int .i64 1)) fun v33 =>
 zm false v33 (fun Q34 =>
 za 7 v0 fun v35 =>
 aLoad false 1 v35 h9 fun v36 =>
 aLenS false v36 fun v37 =>
 aBin false false .gtr v37 (.p (.int .i64 8)) fun v38 =>
 (h9=h9∧Q34 v38)) fun v39 =>
 (h9=h9∧Q29 v39)) fun v40 =>
 (h9=h9∧Q27 v40)) fun v41 =>
 ze v41
 (zp [(.p (.int .i64 0)),(.full [])] [] fun v42 =>
 zi 2 v4 v42 h9 fun _ h44 =>
 aLoad true 2 v4 h44 fun v45 =>
 K (.tup [v45,(.p (.int .i64 1))]) h44)
 (za 0 v0 fun v46 =>
 aLoad false 1 v46 h9 fun v47 =>
 aBin false false .neq v47 (.p (.str [97,116])) fun v48 =>
 zm true v48 (fun Q49 =>
 za 6 v0 fun v50 =>
 aLoad false 1 v50 h9 fun v51 =>
 aBin false false .neq v51 (.p (.int .i64 0)) fun v52 =>
 (h9=h9∧Q49 v52)) fun v53 =>
 zm false v53 (fun Q54 =>
 za 0 v0 fun v55 =>
 aLoad false 1 v55 h9 fun v56 =>
 aBin false false .neq v56 (.p (.str [108,105,116])) fun v57 =>
 zm true v57 (fun Q58 =>
 za 1 v0 fun v59 =>
 aLoad true 5 v59 h9 fun v60 =>
 aCall Tryz.prog (.p (.func zf3 [])) [v60] h9 fun v61 h62 =>
 aUn .not v61 fun v63 =>
 (h62=h9∧Q58 v63)) fun v64 =>
 (h9=h9∧Q54 v64)) fun v65 =>
 ze v65
 (zp [(.p (.int .i64 0)),(.full [])] [] fun v66 =>
 zi 2 v4 v66 h9 fun _ h68 =>
 aLoad true 2 v4 h68 fun v69 =>
 K (.tup [v69,(.p (.int .i64 1))]) h68)
 (za 0 v0 fun v70 =>
 aLoad false 1 v70 h9 fun v71 =>
 aBin false false .eql v71 (.p (.str [108,105,116])) fun v72 =>
 ze v72
 (za 1 v0 fun v73 =>
 aLoad true 5 v73 h9 fun v74 =>
 aCall Tryz.prog (.p (.func zdB [])) [v74] h9 fun v75 h76 =>
 aBin false false .neq v75 (.p (.int .i64 0)) fun v77 =>
 ze v77
 (zp [(.p (.int .i64 0)),(.full [])] [] fun v78 =>
 zi 2 v4 v78 h76 fun _ h80 =>
 aLoad true 2 v4 h80 fun v81 =>
 K (.tup [v81,v75]) h80)
 (za 1 v0 fun v82 =>
 aLoad true 5 v82 h76 fun v83 =>
 aCall Tryz.prog (.p (.func zdr [])) [v83] h76 fun v84 h85 =>
 zi 2 v4 v84 h85 fun _ h87 =>
 aLoad true 2 v4 h87 fun v88 =>
 K (.tup [v88,(.p (.int .i64 0))]) h87))
 (za 0 v0 fun v89 =>
 aLoad false 1 v89 h9 fun v90 =>
 aBin false false .eql v90 (.p (.str [120])) fun v91 =>
 ze v91
 (aLoad true 2 v2 h9 fun v92 =>
 zi 2 v4 v92 h9 fun _ h94 =>
 aLoad true 2 v4 h94 fun v95 =>
 K (.tup [v95,(.p (.int .i64 0))]) h94)
 (zD 2 [(.full []),(.p (.int .i64 0))] h9 fun xs H B1=>zj4 x2 v0 v2 v4 (xs.getD 0 Z) (xs.getD 1 Z) H B1 K))))))
def zjl:Nat→List Nat:=fun k=>match k with | 19=>[10,11] | _=>[]
theorem zq6 (x0 x1 x2:AV) (H:List Ob) (r:AV) (Ho:List Ob):aBody Tryz.prog zjl Tryz.f187 H [x0,x1,x2] r Ho=ziF x0 x1 x2 H (fun v H'=>Gives H.length v H' r Ho):=by kernel_rfl
theorem zq7 {x0 x1 x2:AV} {r:AV} {Ho:List Ob} (h:ziF x0 x1 x2 [] (fun v H'=>Gives 0 v H' r Ho)):Abs.Fn Tryz.prog zdV [] [x0,x1,x2] r Ho :=
 zh mixed zjl (fn:=Tryz.f187) (by kernel_rfl) (by kernel_rfl) (by rw [zq6]; exact h)
def ziE (x0:AV) (H:List Ob) (K:AV→List Ob→Prop):Prop :=
 zy [(.p (.int .i64 0)),(.full [])] H fun v0 h1 =>
 zp [(.p (.int .i64 0)),(.full [])] [(0,1,x0)] fun v2 =>
 zi 2 v0 v2 h1 fun _ h4 =>
 aLoad true 2 v0 h4 fun v5 =>
 K v5 h4
def zjj:Nat→List Nat:=fun _=>[]
theorem zq4 (x0:AV) (H:List Ob) (r:AV) (Ho:List Ob):aBody Tryz.prog zjj Tryz.f188 H [x0] r Ho=ziE x0 H (fun v H'=>Gives H.length v H' r Ho):=by kernel_rfl
theorem zq5 {x0:AV} {r:AV} {Ho:List Ob} (h:ziE x0 [] (fun v H'=>Gives 0 v H' r Ho)):Abs.Fn Tryz.prog zcJ [] [x0] r Ho :=
 zh mixed zjj (fn:=Tryz.f188) (by kernel_rfl) (by kernel_rfl) (by rw [zq4]; exact h)
def zsP (q1s7 q1s8 y0 y1:AV) (H:List Ob) (B1:List AV→List Ob→Prop) (K:AV→List Ob→Prop):Prop :=
 aBin false false .lss y1 q1s8 fun v5 =>
 ze v5
 (zb 8 q1s7 y1 fun v6 =>
 aLoad true 8 v6 H fun v7 =>
 zy [(.p (.str [])),(.p (.int .i64 0)),(.p (.int .i64 0)),(.p (.bool false)),(.p (.str [])),(.full []),(.p (.int .i64 0)),(.full [])] H fun v8 h9 =>
 zi 8 v8 v7 h9 fun _ h11 =>
 aLoad true 8 v8 h11 fun v12 =>
 aCall Tryz.prog (.p (.func zlm [])) [v12] h11 fun v13 h14 =>
 aBin false false .add y0 v13 fun v15 =>
 aBin false false .add y1 (.p (.int .i64 1)) fun v16 =>
 B1 [v15,v16] h14)
 (K y0 H)
def ztW (x0:AV) (H:List Ob) (K:AV→List Ob→Prop):Prop :=
 aBox x0 H fun v0 h1 =>
 za 7 v0 fun v2 =>
 aLoad false 1 v2 h1 fun v3 =>
 aLen false false v3 fun v4 =>
 zD 2 [(.p (.int .i64 1)),(.p (.int .i64 0))] h1 fun xs H B1=>zsP v3 v4 (xs.getD 0 Z) (xs.getD 1 Z) H B1 K
def zrk:Nat→List Nat:=fun k=>match k with | 3=>[3,9] | _=>[]
theorem zzJ (x0:AV) (H:List Ob) (r:AV) (Ho:List Ob):aBody Tryz.prog zrk Tryz.f191 H [x0] r Ho=ztW x0 H (fun v H'=>Gives H.length v H' r Ho):=by kernel_rfl
theorem zzK {x0:AV} {r:AV} {Ho:List Ob} (h:ztW x0 [] (fun v H'=>Gives 0 v H' r Ho)):Abs.Fn Tryz.prog zlm [] [x0] r Ho :=
 zh mixed zrk (fn:=Tryz.f191) (by kernel_rfl) (by kernel_rfl) (by rw [zzJ]; exact h)
def zrl (q1s2 q1s3 q1s4 q1s6 q1s8 q1s49 q1s50 y0 y1:AV) (H:List Ob) (B1:List AV→List Ob→Prop) (K:AV→List Ob→Prop):Prop :=
 aBin false false .lss y1 q1s50 fun v19 =>
 ze v19
 (zb 8 q1s49 y1 fun v20 =>
 aLoad true 8 v20 H fun v21 =>
 zy [(.p (.str [])),(.p (.int .i64 0)),(.p (.int .i64 0)),(.p (.bool false)),(.p (.str [])),(.full []),(.p (.int .i64 0)),(.full [])] H fun v22 h23 =>
 zi 8 v22 v21 h23 fun _ h25 =>
 aLoad true 8 v22 h25 fun v26 =>
 aLoad true 2 q1s4 h25 fun v27 =>
 aBin false false .add q1s2 (.p (.int .i64 1)) fun v28 =>
 aCall Tryz.prog (.p (.func zke [])) [v26,v27,v28] h25 fun v29 h30 =>
 zB v29 0 fun v31 =>
 zB v29 1 fun v32 =>
 zy [(.p (.int .i64 0)),(.full [])] h30 fun v33 h34 =>
 zi 2 v33 v31 h34 fun _ h36 =>
 aBin false false .neq v32 (.p (.int .i64 0)) fun v37 =>
 ze v37
 (zp [(.p (.int .i64 0)),(.full [])] [] fun v38 =>
 zi 2 q1s6 v38 h36 fun _ h40 =>
 aLoad true 2 q1s6 h40 fun v41 =>
 K (.tup [v41,v32]) h40)
 (aLoad true 2 v33 h36 fun v42 =>
 zk 2 [v42] fun v43 =>
 zH false 2 32 y0 v43 h36 fun v44 h45 =>
 aBin false false .add y1 (.p (.int .i64 1)) fun v46 =>
 B1 [v44,v46] h45))
 (aLoad true 5 q1s8 H fun v47 =>
 aCall Tryz.prog (.p (.func zpr [])) [v47,y0] H fun v48 h49 =>
 aUn .not v48 fun v50 =>
 ze v50
 (zp [(.p (.int .i64 0)),(.full [])] [] fun v51 =>
 zi 2 q1s6 v51 h49 fun _ h53 =>
 aLoad true 2 q1s6 h53 fun v54 =>
 K (.tup [v54,(.p (.int .i64 5))]) h53)
 (aLoad true 8 q1s3 h49 fun v55 =>
 aLoad true 5 q1s8 h49 fun v56 =>
 zJ Tryz.prog (.p (.func zbD [])) [y0] fun v57 =>
 aLoad true 2 q1s4 h49 fun v58 =>
 zJ Tryz.prog (.p (.func zhr [])) [v55,v56,v57,v58] fun v59 =>
 zB v59 0 fun v60 =>
 zB v59 1 fun v61 =>
 zi 2 q1s6 v60 h49 fun _ h63 =>
 aLoad true 2 q1s6 h63 fun v64 =>
 K (.tup [v64,v61]) h63))
def ziS (j1s2 j1s3 j1s4 j1s6 j1s8:AV) (H:List Ob) (K:AV→List Ob→Prop):Prop :=
 za 7 j1s3 fun v16 =>
 aLoad false 1 v16 H fun v17 =>
 aLen false false v17 fun v18 =>
 zD 2 [(.full []),(.p (.int .i64 0))] H fun xs H B1=>zrl j1s2 j1s3 j1s4 j1s6 j1s8 v17 v18 (xs.getD 0 Z) (xs.getD 1 Z) H B1 K
def zrZ (x0 x1 x2:AV) (H:List Ob) (K:AV→List Ob→Prop):Prop :=
 aBox x0 H fun v0 h1 =>
 aBox x1 h1 fun v2 h3 =>
 zy [(.p (.int .i64 0)),(.full [])] h3 fun v4 h5 =>
 zy [(.p (.int .i64 0)),(.p (.int .i64 0)),(.full []),(.p (.bool false)),(.p (.int .i64 0))] h5 fun v6 h7 =>
 zJ Tryz.prog (.p (.func zlV [])) [] fun v8 =>
 za 0 v0 fun v9 =>
 aLoad false 1 v9 h7 fun v10 =>
 zJ Tryz.prog (.p (.func zbV [])) [v8,v10] fun v11 =>
 zB v11 0 fun v12 =>
 zB v11 1 fun v13 =>
 zi 5 v6 v12 h7 fun _ h15 =>
 aUn .not v13 fun v65 =>
 ze v65
 (zp [(.p (.int .i64 0)),(.full [])] [] fun v66 =>
 zi 2 v4 v66 h15 fun _ h68 =>
 aLoad true 2 v4 h68 fun v69 =>
 K (.tup [v69,(.p (.int .i64 6))]) h68)
 (aBin false false .gtr x2 (.p (.int .i64 12)) fun v70 =>
 ze v70
 (zp [(.p (.int .i64 0)),(.full [])] [] fun v71 =>
 zi 2 v4 v71 h15 fun _ h73 =>
 aLoad true 2 v4 h73 fun v74 =>
 K (.tup [v74,(.p (.int .i64 9))]) h73)
 (aLoad true 8 v0 h15 fun v75 =>
 aLoad true 5 v6 h15 fun v76 =>
 aCall Tryz.prog (.p (.func zgD [])) [v75,v76] h15 fun v77 h78 =>
 aUn .not v77 fun v79 =>
 ze v79
 (zp [(.p (.int .i64 0)),(.full [])] [] fun v80 =>
 zi 2 v4 v80 h78 fun _ h82 =>
 aLoad true 2 v4 h82 fun v83 =>
 K (.tup [v83,(.p (.int .i64 1))]) h82)
 (za 0 v0 fun v84 =>
 aLoad false 1 v84 h78 fun v85 =>
 aBin false false .eql v85 (.p (.str [108,105,116])) fun v86 =>
 ze v86
 (za 1 v0 fun v87 =>
 aLoad true 5 v87 h78 fun v88 =>
 aCall Tryz.prog (.p (.func zjs [])) [v88] h78 fun v89 h90 =>
 aBin false false .neq v89 (.p (.int .i64 0)) fun v91 =>
 ze v91
 (zp [(.p (.int .i64 0)),(.full [])] [] fun v92 =>
 zi 2 v4 v92 h90 fun _ h94 =>
 aLoad true 2 v4 h94 fun v95 =>
 K (.tup [v95,v89]) h94)
 (ziS x2 v0 v2 v4 v6 h90 K))
 (ziS x2 v0 v2 v4 v6 h78 K))))
def zpq:Nat→List Nat:=fun k=>match k with | 14=>[11,51] | _=>[]
theorem zys (x0 x1 x2:AV) (H:List Ob) (r:AV) (Ho:List Ob):aBody Tryz.prog zpq Tryz.f192 H [x0,x1,x2] r Ho=zrZ x0 x1 x2 H (fun v H'=>Gives H.length v H' r Ho):=by kernel_rfl
theorem zyt {x0 x1 x2:AV} {r:AV} {Ho:List Ob} (h:zrZ x0 x1 x2 [] (fun v H'=>Gives 0 v H' r Ho)):Abs.Fn Tryz.prog zke [] [x0,x1,x2] r Ho :=
 zh mixed zpq (fn:=Tryz.f192) (by kernel_rfl) (by kernel_rfl) (by rw [zys]; exact h)
def ziD (x0:AV) (H:List Ob) (K:AV→List Ob→Prop):Prop :=
 aBin false false .eql x0 (.p (.str [108,105,116])) fun v0 =>
 zm false v0 (fun Q1 =>
 aBin false false .eql x0 (.p (.str [120])) fun v2 =>
 (H=H∧Q1 v2)) fun v3 =>
 ze v3
 (K (.p (.int .i64 0)) H)
 (aBin false false .eql x0 (.p (.str [97,116])) fun v4 =>
 zm false v4 (fun Q5 =>
 aBin false false .eql x0 (.p (.str [110,101,103])) fun v6 =>
 zm false v6 (fun Q7 =>
 aBin false false .eql x0 (.p (.str [110,111,116])) fun v8 =>
 zm false v8 (fun Q9 =>
 aBin false false .eql x0 (.p (.str [108,101,110])) fun v10 =>
 (H=H∧Q9 v10)) fun v11 =>
 (H=H∧Q7 v11)) fun v12 =>
 (H=H∧Q5 v12)) fun v13 =>
 ze v13
 (K (.p (.int .i64 1)) H)
 (aBin false false .eql x0 (.p (.str [97,100,100])) fun v14 =>
 zm false v14 (fun Q15 =>
 aBin false false .eql x0 (.p (.str [115,117,98])) fun v16 =>
 zm false v16 (fun Q17 =>
 aBin false false .eql x0 (.p (.str [109,117,108])) fun v18 =>
 zm false v18 (fun Q19 =>
 aBin false false .eql x0 (.p (.str [100,105,118])) fun v20 =>
 zm false v20 (fun Q21 =>
 aBin false false .eql x0 (.p (.str [114,101,109])) fun v22 =>
 zm false v22 (fun Q23 =>
 aBin false false .eql x0 (.p (.str [101,113])) fun v24 =>
 zm false v24 (fun Q25 =>
 aBin false false .eql x0 (.p (.str [108,116])) fun v26 =>
 zm false v26 (fun Q27 =>
 aBin false false .eql x0 (.p (.str [97,110,100])) fun v28 =>
 zm false v28 (fun Q29 =>
 aBin false false .eql x0 (.p (.str [111,114])) fun v30 =>
 zm false v30 (fun Q31 =>
 aBin false false .eql x0 (.p (.str [99,97,116])) fun v32 =>
 (H=H∧Q31 v32)) fun v33 =>
 (H=H∧Q29 v33)) fun v34 =>
 (H=H∧Q27 v34)) fun v35 =>
 (H=H∧Q25 v35)) fun v36 =>
 (H=H∧Q23 v36)) fun v37 =>
 (H=H∧Q21 v37)) fun v38 =>
 (H=H∧Q19 v38)) fun v39 =>
 (H=H∧Q17 v39)) fun v40 =>
 (H=H∧Q15 v40)) fun v41 =>
 ze v41
 (K (.p (.int .i64 2)) H)
 (aBin false false .eql x0 (.p (.str [105,102])) fun v42 =>
 ze v42
 (K (.p (.int .i64 3)) H)
 (aBin false false .eql x0 (.p (.str [116,117,112])) fun v43 =>
 ze v43
 (K (.p (.int .i64 (-1))) H)
 (K (.p (.int .i64 (-2))) H)))))
def zjh:Nat→List Nat:=fun k=>match k with | 1000003=>[1] | 1000008=>[1] | 1000007=>[1] | 1000006=>[1] | 1000019=>[1] | 1000018=>[1] | 1000017=>[1] | 1000016=>[1] | 1000015=>[1] | 1000014=>[1] | 1000013=>[1] | 1000012=>[1] | 1000011=>[1] | _=>[]
theorem zq2 (x0:AV) (H:List Ob) (r:AV) (Ho:List Ob):aBody Tryz.prog zjh Tryz.f232 H [x0] r Ho=ziD x0 H (fun v H'=>Gives H.length v H' r Ho):=by kernel_rfl
theorem zq3 {x0:AV} {r:AV} {Ho:List Ob} (h:ziD x0 [] (fun v H'=>Gives 0 v H' r Ho)):Abs.Fn Tryz.prog zgS [] [x0] r Ho :=
 zh mixed zjh (fn:=Tryz.f232) (by kernel_rfl) (by kernel_rfl) (by rw [zq2]; exact h)
def zhP (x0:AV) (H:List Ob) (K:AV→List Ob→Prop):Prop :=
 aBox x0 H fun v0 h1 =>
 za 0 v0 fun v2 =>
 aLoad false 1 v2 h1 fun v3 =>
 aBin false false .eql v3 (.p (.int .i64 0)) fun v4 =>
 zm true v4 (fun Q5 =>
 za 1 v0 fun v6 =>
 aLoad false 1 v6 h1 fun v7 =>
 aBin false false .eql v7 (.p (.int .i64 0)) fun v8 =>
 (h1=h1∧Q5 v8)) fun v9 =>
 zm true v9 (fun Q10 =>
 za 2 v0 fun v11 =>
 aLoad false 1 v11 h1 fun v12 =>
 aUn .not v12 fun v13 =>
 (h1=h1∧Q10 v13)) fun v14 =>
 zm true v14 (fun Q15 =>
 za 3 v0 fun v16 =>
 aLoad false 1 v16 h1 fun v17 =>
 aBin false false .eql v17 (.p (.str [])) fun v18 =>
 (h1=h1∧Q15 v18)) fun v19 =>
 zm true v19 (fun Q20 =>
 za 4 v0 fun v21 =>
 aLoad false 1 v21 h1 fun v22 =>
 aLenS false v22 fun v23 =>
 aBin false false .eql v23 (.p (.int .i64 0)) fun v24 =>
 (h1=h1∧Q20 v24)) fun v25 =>
 K v25 h1
def zic:Nat→List Nat:=fun _=>[]
theorem zp7 (x0:AV) (H:List Ob) (r:AV) (Ho:List Ob):aBody Tryz.prog zic Tryz.f233 H [x0] r Ho=zhP x0 H (fun v H'=>Gives H.length v H' r Ho):=by kernel_rfl
theorem zp8 {x0:AV} {r:AV} {Ho:List Ob} (h:zhP x0 [] (fun v H'=>Gives 0 v H' r Ho)):Abs.Fn Tryz.prog zf3 [] [x0] r Ho :=
 zh mixed zic (fn:=Tryz.f233) (by kernel_rfl) (by kernel_rfl) (by rw [zp7]; exact h)
def zji (q1s2 q1s6 q1s8 q1s9 y0:AV) (H:List Ob) (B1:List AV→List Ob→Prop) (K:AV→List Ob→Prop):Prop :=
 aLen false false q1s2 fun v2 =>
 aBin false false .lss y0 v2 fun v3 =>
 ze v3
 (zb 2 q1s2 y0 fun v4 =>
 za 0 v4 fun v5 =>
 aLoad false 1 v5 H fun v6 =>
 aBin false false .neq v6 q1s8 fun v7 =>
 ze v7
 (zp [(.p (.int .i64 0)),(.full [])] [] fun v8 =>
 zi 2 q1s6 v8 H fun _ h10 =>
 aLoad true 2 q1s6 h10 fun v11 =>
 K (.tup [v11,(.p (.int .i64 5))]) h10)
 (aBin false false .add y0 (.p (.int .i64 1)) fun v12 =>
 B1 [v12] H))
 (aCall Tryz.prog (.p (.func zcJ [])) [q1s9] H fun v13 h14 =>
 zi 2 q1s6 v13 h14 fun _ h16 =>
 aLoad true 2 q1s6 h16 fun v17 =>
 K (.tup [v17,(.p (.int .i64 0))]) h16)
def zaU (j1s2 j1s6 j1s8 j1s9:AV) (H:List Ob) (K:AV→List Ob→Prop):Prop :=
 zD 1 [(.p (.int .i64 0))] H fun xs H B1=>zji j1s2 j1s6 j1s8 j1s9 (xs.getD 0 Z) H B1 K
def zhM (x0 x1 x2:AV) (H:List Ob) (K:AV→List Ob→Prop):Prop :=
 zy [(.p (.int .i64 0)),(.full [])] H fun v0 h1 =>
 aBin false false .eql x0 (.p (.str [97,116])) fun v18 =>
 ze v18
 (zb 2 x2 (.p (.int .i64 0)) fun v19 =>
 za 0 v19 fun v20 =>
 aLoad false 1 v20 h1 fun v21 =>
 aBin false false .neq v21 (.p (.int .i64 4)) fun v22 =>
 ze v22
 (zp [(.p (.int .i64 0)),(.full [])] [] fun v23 =>
 zi 2 v0 v23 h1 fun _ h25 =>
 aLoad true 2 v0 h25 fun v26 =>
 K (.tup [v26,(.p (.int .i64 5))]) h25)
 (aBin false false .lss x1 (.p (.int .i64 0)) fun v27 =>
 zm false v27 (fun Q28 =>
 zb 2 x2 (.p (.int .i64 0)) fun v29 =>
 za 1 v29 fun v30 =>
 aLoad false 1 v30 h1 fun v31 =>
 aLenS false v31 fun v32 =>
 aBin false false .geq x1 v32 fun v33 =>
 (h1=h1∧Q28 v33)) fun v34 =>
 ze v34
 (zp [(.p (.int .i64 0)),(.full [])] [] fun v35 =>
 zi 2 v0 v35 h1 fun _ h37 =>
 aLoad true 2 v0 h37 fun v38 =>
 K (.tup [v38,(.p (.int .i64 1))]) h37)
 (zb 2 x2 (.p (.int .i64 0)) fun v39 =>
 za 1 v39 fun v40 =>
 aLoad false 1 v40 h1 fun v41 =>
 zb 2 v41 x1 fun v42 =>
 aLoad true 2 v42 h1 fun v43 =>
 zi 2 v0 v43 h1 fun _ h45 =>
 aLoad true 2 v0 h45 fun v46 =>
 K (.tup [v46,(.p (.int .i64 0))]) h45)))
 (aBin false false .eql x0 (.p (.str [116,117,112])) fun v47 =>
 ze v47
 (zp [(.p (.int .i64 0)),(.full [])] [(0,1,(.p (.int .i64 4))),(1,1,x2)] fun v48 =>
 zy [(.p (.int .i64 0)),(.full [])] h1 fun v49 h50 =>
 zi 2 v49 v48 h50 fun _ h52 =>
 aLoad true 2 v49 h52 fun v53 =>
 aCall Tryz.prog (.p (.func zaC [])) [v53] h52 fun v54 h55 =>
 aBin false false .neq v54 (.p (.int .i64 0)) fun v56 =>
 ze v56
 (zp [(.p (.int .i64 0)),(.full [])] [] fun v57 =>
 zi 2 v0 v57 h55 fun _ h59 =>
 aLoad true 2 v0 h59 fun v60 =>
 K (.tup [v60,(.p (.int .i64 9))]) h59)
 (aLoad true 2 v49 h55 fun v61 =>
 zi 2 v0 v61 h55 fun _ h63 =>
 aLoad true 2 v0 h63 fun v64 =>
 K (.tup [v64,(.p (.int .i64 0))]) h63))
 (aBin false false .eql x0 (.p (.str [101,113])) fun v65 =>
 zm false v65 (fun Q66 =>
 aBin false false .eql x0 (.p (.str [108,116])) fun v67 =>
 (h1=h1∧Q66 v67)) fun v68 =>
 ze v68
 (zb 2 x2 (.p (.int .i64 0)) fun v69 =>
 aLoad true 2 v69 h1 fun v70 =>
 zb 2 x2 (.p (.int .i64 1)) fun v71 =>
 aLoad true 2 v71 h1 fun v72 =>
 zJ Tryz.prog (.p (.func zan [])) [v70,v72] fun v73 =>
 aUn .not v73 fun v74 =>
 ze v74
 (zp [(.p (.int .i64 0)),(.full [])] [] fun v75 =>
 zi 2 v0 v75 h1 fun _ h77 =>
 aLoad true 2 v0 h77 fun v78 =>
 K (.tup [v78,(.p (.int .i64 5))]) h77)
 (aCall Tryz.prog (.p (.func zcJ [])) [(.p (.int .i64 2))] h1 fun v79 h80 =>
 zi 2 v0 v79 h80 fun _ h82 =>
 aLoad true 2 v0 h82 fun v83 =>
 K (.tup [v83,(.p (.int .i64 0))]) h82))
 (aBin false false .eql x0 (.p (.str [105,102])) fun v84 =>
 ze v84
 (zb 2 x2 (.p (.int .i64 0)) fun v85 =>
 za 0 v85 fun v86 =>
 aLoad false 1 v86 h1 fun v87 =>
 aBin false false .neq v87 (.p (.int .i64 2)) fun v88 =>
 ze v88
 (zp [(.p (.int .i64 0)),(.full [])] [] fun v89 =>
 zi 2 v0 v89 h1 fun _ h91 =>
 aLoad true 2 v0 h91 fun v92 =>
 K (.tup [v92,(.p (.int .i64 5))]) h91)
 (zb 2 x2 (.p (.int .i64 1)) fun v93 =>
 aLoad true 2 v93 h1 fun v94 =>
 zb 2 x2 (.p (.int .i64 2)) fun v95 =>
 aLoad true 2 v95 h1 fun v96 =>
 zJ Tryz.prog (.p (.func zan [])) [v94,v96] fun v97 =>
 aUn .not v97 fun v98 =>
 ze v98
 (zp [(.p (.int .i64 0)),(.full [])] [] fun v99 =>
 zi 2 v0 v99 h1 fun _ h101 =>
 aLoad true 2 v0 h101 fun v102 =>
 K (.tup [v102,(.p (.int .i64 5))]) h101)
 (zb 2 x2 (.p (.int .i64 1)) fun v103 =>
 aLoad true 2 v103 h1 fun v104 =>
 zi 2 v0 v104 h1 fun _ h106 =>
 aLoad true 2 v0 h106 fun v107 =>
 K (.tup [v107,(.p (.int .i64 0))]) h106)))
 (aBin false false .eql x0 (.p (.str [110,101,103])) fun v108 =>
 zm false v108 (fun Q109 =>
 aBin false false .eql x0 (.p (.str [97,100,100])) fun v110 =>
 zm false v110 (fun Q111 =>
 aBin false false .eql x0 (.p (.str [115,117,98])) fun v112 =>
 zm false v112 (fun Q113 =>
 aBin false false .eql x0 (.p (.str [109,117,108])) fun v114 =>
 zm false v114 (fun Q115 =>
 aBin false false .eql x0 (.p (.str [100,105,118])) fun v116 =>
 zm false v116 (fun Q117 =>
 aBin false false .eql x0 (.p (.str [114,101,109])) fun v118 =>
 (h1=h1∧Q117 v118)) fun v119 =>
 (h1=h1∧Q115 v119)) fun v120 =>
 (h1=h1∧Q113 v120)) fun v121 =>
 (h1=h1∧Q111 v121)) fun v122 =>
 (h1=h1∧Q109 v122)) fun v123 =>
 ze v123
 (zaU x2 v0 (.p (.int .i64 1)) (.p (.int .i64 1)) h1 K)
 (aBin false false .eql x0 (.p (.str [110,111,116])) fun v124 =>
 zm false v124 (fun Q125 =>
 aBin false false .eql x0 (.p (.str [97,110,100])) fun v126 =>
 zm false v126 (fun Q127 =>
 aBin false false .eql x0 (.p (.str [111,114])) fun v128 =>
 (h1=h1∧Q127 v128)) fun v129 =>
 (h1=h1∧Q125 v129)) fun v130 =>
 ze v130
 (zaU x2 v0 (.p (.int .i64 2)) (.p (.int .i64 2)) h1 K)
 (aBin false false .eql x0 (.p (.str [99,97,116])) fun v131 =>
 ze v131
 (zaU x2 v0 (.p (.int .i64 3)) (.p (.int .i64 3)) h1 K)
 (aBin false false .eql x0 (.p (.str [108,101,110])) fun v132 =>
 ze v132
 (zaU x2 v0 (.p (.int .i64 3)) (.p (.int .i64 1)) h1 K)
 (zaU x2 v0 (.p (.int .i64 0)) (.p (.int .i64 0)) h1 K))))))))
def zia:Nat→List Nat:=fun k=>match k with | 44=>[11] | 1000016=>[1] | 1000029=>[1] | 1000028=>[1] | 1000027=>[1] | 1000026=>[1] | 1000025=>[1] | 1000034=>[1] | 1000033=>[1] | _=>[]
theorem zp3 (x0 x1 x2:AV) (H:List Ob) (r:AV) (Ho:List Ob):aBody Tryz.prog zia Tryz.f234 H [x0,x1,x2] r Ho=zhM x0 x1 x2 H (fun v H'=>Gives H.length v H' r Ho):=by kernel_rfl
theorem zp4 {x0 x1 x2:AV} {r:AV} {Ho:List Ob} (h:zhM x0 x1 x2 [] (fun v H'=>Gives 0 v H' r Ho)):Abs.Fn Tryz.prog zf1 [] [x0,x1,x2] r Ho :=
 zh mixed zia (fn:=Tryz.f234) (by kernel_rfl) (by kernel_rfl) (by rw [zp3]; exact h)
def zdv (q1s1 q1s4 q1s9 q1s10 y0:AV) (H:List Ob) (B1:List AV→List Ob→Prop) (K:AV→List Ob→Prop):Prop :=
 aBin false false .lss y0 q1s10 fun v3 =>
 ze v3
 (zb 6 q1s9 y0 fun v4 =>
 aLoad true 6 v4 H fun v5 =>
 zy [(.p (.str [])),(.p (.int .i64 0)),(.p (.int .i64 0)),(.full []),(.p (.bool false)),(.p (.int .i64 0))] H fun v6 h7 =>
 zi 6 v6 v5 h7 fun _ h9 =>
 za 0 v6 fun v10 =>
 aLoad false 1 v10 h9 fun v11 =>
 aBin false false .eql v11 q1s1 fun v12 =>
 ze v12
 (za 1 v6 fun v13 =>
 aLoad true 5 v13 h9 fun v14 =>
 zi 5 q1s4 v14 h9 fun _ h16 =>
 aLoad true 5 q1s4 h16 fun v17 =>
 K (.tup [v17,(.p (.bool true))]) h16)
 (aBin false false .add y0 (.p (.int .i64 1)) fun v18 =>
 B1 [v18] h9))
 (zy [(.p (.int .i64 0)),(.p (.int .i64 0)),(.full []),(.p (.bool false)),(.p (.int .i64 0))] H fun v19 h20 =>
 aLoad true 5 v19 h20 fun v21 =>
 zi 5 q1s4 v21 h20 fun _ h23 =>
 aLoad true 5 q1s4 h23 fun v24 =>
 K (.tup [v24,(.p (.bool false))]) h23)
def zcn (x0 x1:AV) (H:List Ob) (K:AV→List Ob→Prop):Prop :=
 zy [(.p (.int .i64 0)),(.p (.int .i64 0)),(.full []),(.p (.bool false)),(.p (.int .i64 0))] H fun v0 h1 =>
 aLen false false x0 fun v2 =>
 zD 1 [(.p (.int .i64 0))] h1 fun xs H B1=>zdv x1 v0 x0 v2 (xs.getD 0 Z) H B1 K
def zde:Nat→List Nat:=fun k=>match k with | 2=>[11] | _=>[]
theorem zil (x0 x1:AV) (H:List Ob) (r:AV) (Ho:List Ob):aBody Tryz.prog zde Tryz.f235 H [x0,x1] r Ho=zcn x0 x1 H (fun v H'=>Gives H.length v H' r Ho):=by kernel_rfl
theorem zim {x0 x1:AV} {r:AV} {Ho:List Ob} (h:zcn x0 x1 [] (fun v H'=>Gives 0 v H' r Ho)):Abs.Fn Tryz.prog zbV [] [x0,x1] r Ho :=
 zh mixed zde (fn:=Tryz.f235) (by kernel_rfl) (by kernel_rfl) (by rw [zil]; exact h)
def zpt (H:List Ob) (K:AV→List Ob→Prop):Prop :=
 zk 1 [(.p (.int .i64 1)),(.p (.int .i64 1))] fun v0 =>
 zp [(.p (.int .i64 0)),(.p (.int .i64 0)),(.full []),(.p (.bool false)),(.p (.int .i64 0))] [(0,1,(.p (.int .i64 2))),(1,1,(.p (.int .i64 2))),(2,1,v0),(3,1,(.p (.bool false))),(4,1,(.p (.int .i64 1)))] fun v1 =>
 zy [(.p (.int .i64 0)),(.p (.int .i64 0)),(.full []),(.p (.bool false)),(.p (.int .i64 0))] H fun v2 h3 =>
 zi 5 v2 v1 h3 fun _ h5 =>
 zk 1 [(.p (.int .i64 0)),(.p (.int .i64 0))] fun v6 =>
 zp [(.p (.int .i64 0)),(.p (.int .i64 0)),(.full []),(.p (.bool false)),(.p (.int .i64 0))] [(0,1,(.p (.int .i64 2))),(1,1,(.p (.int .i64 2))),(2,1,v6),(3,1,(.p (.bool true))),(4,1,(.p (.int .i64 2)))] fun v7 =>
 zy [(.p (.int .i64 0)),(.p (.int .i64 0)),(.full []),(.p (.bool false)),(.p (.int .i64 0))] h5 fun v8 h9 =>
 zi 5 v8 v7 h9 fun _ h11 =>
 zk 1 [(.p (.int .i64 2)),(.p (.int .i64 2))] fun v12 =>
 zp [(.p (.int .i64 0)),(.p (.int .i64 0)),(.full []),(.p (.bool false)),(.p (.int .i64 0))] [(0,1,(.p (.int .i64 2))),(1,1,(.p (.int .i64 2))),(2,1,v12),(3,1,(.p (.bool false))),(4,1,(.p (.int .i64 2)))] fun v13 =>
 zy [(.p (.int .i64 0)),(.p (.int .i64 0)),(.full []),(.p (.bool false)),(.p (.int .i64 0))] h11 fun v14 h15 =>
 zi 5 v14 v13 h15 fun _ h17 =>
 zp [(.p (.int .i64 0)),(.p (.int .i64 0)),(.full []),(.p (.bool false)),(.p (.int .i64 0))] [] fun v18 =>
 zp [(.p (.str [])),(.p (.int .i64 0)),(.p (.int .i64 0)),(.full []),(.p (.bool false)),(.p (.int .i64 0))] [(0,1,(.p (.str [108,105,116]))),(1,5,v18)] fun v19 =>
 zp [(.p (.int .i64 0)),(.p (.int .i64 0)),(.full []),(.p (.bool false)),(.p (.int .i64 0))] [] fun v20 =>
 zp [(.p (.str [])),(.p (.int .i64 0)),(.p (.int .i64 0)),(.full []),(.p (.bool false)),(.p (.int .i64 0))] [(0,1,(.p (.str [120]))),(1,5,v20)] fun v21 =>
 zk 1 [(.p (.int .i64 4))] fun v22 =>
 zp [(.p (.int .i64 0)),(.p (.int .i64 0)),(.full []),(.p (.bool false)),(.p (.int .i64 0))] [(0,1,(.p (.int .i64 1))),(1,1,(.p (.int .i64 1))),(2,1,v22),(3,1,(.p (.bool false))),(4,1,(.p (.int .i64 0)))] fun v23 =>
 zp [(.p (.str [])),(.p (.int .i64 0)),(.p (.int .i64 0)),(.full []),(.p (.bool false)),(.p (.int .i64 0))] [(0,1,(.p (.str [97,116]))),(1,5,v23)] fun v24 =>
 zp [(.p (.int .i64 0)),(.p (.int .i64 0)),(.full []),(.p (.bool false)),(.p (.int .i64 0))] [(0,1,(.p (.int .i64 1))),(1,1,(.p (.int .i64 8))),(2,1,(.full [])),(3,1,(.p (.bool false))),(4,1,(.p (.int .i64 4)))] fun v25 =>
 zp [(.p (.str [])),(.p (.int .i64 0)),(.p (.int .i64 0)),(.full []),(.p (.bool false)),(.p (.int .i64 0))] [(0,1,(.p (.str [116,117,112]))),(1,5,v25)] fun v26 =>
 zk 1 [(.p (.int .i64 1))] fun v27 =>
 zp [(.p (.int .i64 0)),(.p (.int .i64 0)),(.full []),(.p (.bool false)),(.p (.int .i64 0))] [(0,1,(.p (.int .i64 1))),(1,1,(.p (.int .i64 1))),(2,1,v27),(3,1,(.p (.bool false))),(4,1,(.p (.int .i64 1)))] fun v28 =>
 zp [(.p (.str [])),(.p (.int .i64 0)),(.p (.int .i64 0)),(.full []),(.p (.bool false)),(.p (.int .i64 0))] [(0,1,(.p (.str [110,101,103]))),(1,5,v28)] fun v29 =>
 zk 1 [(.p (.int .i64 2))] fun v30 =>
 zp [(.p (.int .i64 0)),(.p (.int .i64 0)),(.full []),(.p (.bool false)),(.p (.int .i64 0))] [(0,1,(.p (.int .i64 1))),(1,1,(.p (.int .i64 1))),(2,1,v30),(3,1,(.p (.bool false))),(4,1,(.p (.int .i64 2)))] fun v31 =>
 zp [(.p (.str [])),(.p (.int .i64 0)),(.p (.int .i64 0)),(.full []),(.p (.bool false)),(.p (.int .i64 0))] [(0,1,(.p (.str [110,111,116]))),(1,5,v31)] fun v32 =>
 zk 1 [(.p (.int .i64 3))] fun v33 =>
 zp [(.p (.int .i64 0)),(.p (.int .i64 0)),(.full []),(.p (.bool false)),(.p (.int .i64 0))] [(0,1,(.p (.int .i64 1))),(1,1,(.p (.int .i64 1))),(2,1,v33),(3,1,(.p (.bool false))),(4,1,(.p (.int .i64 1)))] fun v34 =>
 zp [(.p (.str [])),(.p (.int .i64 0)),(.p (.int .i64 0)),(.full []),(.p (.bool false)),(.p (.int .i64 0))] [(0,1,(.p (.str [108,101,110]))),(1,5,v34)] fun v35 =>
 aLoad true 5 v2 h17 fun v36 =>
 zp [(.p (.str [])),(.p (.int .i64 0)),(.p (.int .i64 0)),(.full []),(.p (.bool false)),(.p (.int .i64 0))] [(0,1,(.p (.str [97,100,100]))),(1,5,v36)] fun v37 =>
 aLoad true 5 v2 h17 fun v38 =>
 zp [(.p (.str [])),(.p (.int .i64 0)),(.p (.int .i64 0)),(.full []),(.p (.bool false)),(.p (.int .i64 0))] [(0,1,(.p (.str [115,117,98]))),(1,5,v38)] fun v39 =>
 aLoad true 5 v2 h17 fun v40 =>
 zp [(.p (.str [])),(.p (.int .i64 0)),(.p (.int .i64 0)),(.full []),(.p (.bool false)),(.p (.int .i64 0))] [(0,1,(.p (.str [109,117,108]))),(1,5,v40)] fun v41 =>
 aLoad true 5 v2 h17 fun v42 =>
 zp [(.p (.str [])),(.p (.int .i64 0)),(.p (.int .i64 0)),(.full []),(.p (.bool false)),(.p (.int .i64 0))] [(0,1,(.p (.str [100,105,118]))),(1,5,v42)] fun v43 =>
 aLoad true 5 v2 h17 fun v44 =>
 zp [(.p (.str [])),(.p (.int .i64 0)),(.p (.int .i64 0)),(.full []),(.p (.bool false)),(.p (.int .i64 0))] [(0,1,(.p (.str [114,101,109]))),(1,5,v44)] fun v45 =>
 aLoad true 5 v8 h17 fun v46 =>
 zp [(.p (.str [])),(.p (.int .i64 0)),(.p (.int .i64 0)),(.full []),(.p (.bool false)),(.p (.int .i64 0))] [(0,1,(.p (.str [101,113]))),(1,5,v46)] fun v47 =>
 aLoad true 5 v8 h17 fun v48 =>
 zp [(.p (.str [])),(.p (.int .i64 0)),(.p (.int .i64 0)),(.full []),(.p (.bool false)),(.p (.int .i64 0))] [(0,1,(.p (.str [108,116]))),(1,5,v48)] fun v49 =>
 aLoad true 5 v14 h17 fun v50 =>
 zp [(.p (.str [])),(.p (.int .i64 0)),(.p (.int .i64 0)),(.full []),(.p (.bool false)),(.p (.int .i64 0))] [(0,1,(.p (.str [97,110,100]))),(1,5,v50)] fun v51 =>
 aLoad true 5 v14 h17 fun v52 =>
 zp [(.p (.str [])),(.p (.int .i64 0)),(.p (.int .i64 0)),(.full []),(.p (.bool false)),(.p (.int .i64 0))] [(0,1,(.p (.str [111,114]))),(1,5,v52)] fun v53 =>
 zk 1 [(.p (.int .i64 3)),(.p (.int .i64 3))] fun v54 =>
 zp [(.p (.int .i64 0)),(.p (.int .i64 0)),(.full []),(.p (.bool false)),(.p (.int .i64 0))] [(0,1,(.p (.int .i64 2))),(1,1,(.p (.int .i64 2))),(2,1,v54),(3,1,(.p (.bool false))),(4,1,(.p (.int .i64 3)))] fun v55 =>
 zp [(.p (.str [])),(.p (.int .i64 0)),(.p (.int .i64 0)),(.full []),(.p (.bool false)),(.p (.int .i64 0))] [(0,1,(.p (.str [99,97,116]))),(1,5,v55)] fun v56 =>
 zk 1 [(.p (.int .i64 2)),(.p (.int .i64 0)),(.p (.int .i64 0))] fun v57 =>
 zp [(.p (.int .i64 0)),(.p (.int .i64 0)),(.full []),(.p (.bool false)),(.p (.int .i64 0))] [(0,1,(.p (.int .i64 3))),(1,1,(.p (.int .i64 3))),(2,1,v57),(3,1,(.p (.bool true))),(4,1,(.p (.int .i64 0)))] fun v58 =>
 zp [(.p (.str [])),(.p (.int .i64 0)),(.p (.int .i64 0)),(.full []),(.p (.bool false)),(.p (.int .i64 0))] [(0,1,(.p (.str [105,102]))),(1,5,v58)] fun v59 =>
 zk 6 [v19,v21,v24,v26,v29,v32,v35,v37,v39,v41,v43,v45,v47,v49,v51,v53,v56,v59] fun v60 =>
 K v60 h17
def zoa:Nat→List Nat:=fun _=>[]
theorem zwY (H:List Ob) (r:AV) (Ho:List Ob):aBody Tryz.prog zoa Tryz.f236 H [] r Ho=zpt H (fun v H'=>Gives H.length v H' r Ho):=by kernel_rfl
theorem zwZ {r:AV} {Ho:List Ob} (h:zpt [] (fun v H'=>Gives 0 v H' r Ho)):Abs.Fn Tryz.prog zlV [] [] r Ho :=
 zh mixed zoa (fn:=Tryz.f236) (by kernel_rfl) (by kernel_rfl) (by rw [zwY]; exact h)
def zik (x0 x1:AV) (H:List Ob) (K:AV→List Ob→Prop):Prop :=
 aBox x0 H fun v0 h1 =>
 aBox x1 h1 fun v2 h3 =>
 za 7 v0 fun v4 =>
 aLoad false 1 v4 h3 fun v5 =>
 aLen false false v5 fun v6 =>
 za 0 v2 fun v7 =>
 aLoad false 1 v7 h3 fun v8 =>
 aBin false false .geq v6 v8 fun v9 =>
 zm true v9 (fun Q10 =>
 za 7 v0 fun v11 =>
 aLoad false 1 v11 h3 fun v12 =>
 aLenS false v12 fun v13 =>
 za 1 v2 fun v14 =>
 aLoad false 1 v14 h3 fun v15 =>
 aBin false false .leq v13 v15 fun v16 =>
 (h3=h3∧Q10 v16)) fun v17 =>
 zm true v17 (fun Q18 =>
 za 0 v0 fun v19 =>
 aLoad false 1 v19 h3 fun v20 =>
 aBin false false .eql v20 (.p (.str [108,105,116])) fun v21 =>
 zm false v21 (fun Q22 =>
 za 1 v0 fun v23 =>
 aLoad true 5 v23 h3 fun v24 =>
 aCall Tryz.prog (.p (.func zps [])) [v24] h3 fun v25 h26 =>
 (h26=h3∧Q22 v25)) fun v27 =>
 (h3=h3∧Q18 v27)) fun v28 =>
 zm true v28 (fun Q29 =>
 za 0 v0 fun v30 =>
 aLoad false 1 v30 h3 fun v31 =>
 aBin false false .eql v31 (.p (.str [97,116])) fun v32 =>
 zm false v32 (fun Q33 =>
 za 6 v0 fun v34 =>
 aLoad false 1 v34 h3 fun v35 =>
 aBin false false .eql v35 (.p (.int .i64 0)) fun v36 =>
 (h3=h3∧Q33 v36)) fun v37 =>
 (h3=h3∧Q29 v37)) fun v38 =>
 K v38 h3
def ziY:Nat→List Nat:=fun _=>[]
theorem zqI (x0 x1:AV) (H:List Ob) (r:AV) (Ho:List Ob):aBody Tryz.prog ziY Tryz.f237 H [x0,x1] r Ho=zik x0 x1 H (fun v H'=>Gives H.length v H' r Ho):=by kernel_rfl
theorem zqJ {x0 x1:AV} {r:AV} {Ho:List Ob} (h:zik x0 x1 [] (fun v H'=>Gives 0 v H' r Ho)):Abs.Fn Tryz.prog zgD [] [x0,x1] r Ho :=
 zh mixed ziY (fn:=Tryz.f237) (by kernel_rfl) (by kernel_rfl) (by rw [zqI]; exact h)
def zsQ (q1s1 q1s2 q1s8 q1s9 y0:AV) (H:List Ob) (B1:List AV→List Ob→Prop) (K:AV→List Ob→Prop):Prop :=
 aBin false false .lss y0 q1s9 fun v5 =>
 ze v5
 (zb 1 q1s8 y0 fun v6 =>
 aLoad false 1 v6 H fun v7 =>
 aBin false false .neq v7 (.p (.int .i64 0)) fun v8 =>
 zm true v8 (fun Q9 =>
 zb 2 q1s1 y0 fun v10 =>
 za 0 v10 fun v11 =>
 aLoad false 1 v11 H fun v12 =>
 aBin false false .neq v12 v7 fun v13 =>
 (H=H∧Q9 v13)) fun v14 =>
 ze v14
 (K (.p (.bool false)) H)
 (aBin false false .add y0 (.p (.int .i64 1)) fun v15 =>
 B1 [v15] H))
 (za 3 q1s2 fun v16 =>
 aLoad false 1 v16 H fun v17 =>
 aUn .not v17 fun v18 =>
 ze v18
 (K (.p (.bool true)) H)
 (aLen true false q1s1 fun v19 =>
 aBin false false .sub v19 (.p (.int .i64 1)) fun v20 =>
 zb 2 q1s1 v20 fun v21 =>
 aLoad true 2 v21 H fun v22 =>
 aLen true false q1s1 fun v23 =>
 aBin false false .sub v23 (.p (.int .i64 2)) fun v24 =>
 zb 2 q1s1 v24 fun v25 =>
 aLoad true 2 v25 H fun v26 =>
 zJ Tryz.prog (.p (.func zgY [])) [v22,v26] fun v27 =>
 K v27 H))
def ztX (x0 x1:AV) (H:List Ob) (K:AV→List Ob→Prop):Prop :=
 aBox x0 H fun v0 h1 =>
 za 2 v0 fun v2 =>
 aLoad false 1 v2 h1 fun v3 =>
 aLen false false v3 fun v4 =>
 zD 1 [(.p (.int .i64 0))] h1 fun xs H B1=>zsQ x1 v0 v3 v4 (xs.getD 0 Z) H B1 K
def zrm:Nat→List Nat:=fun k=>match k with | 2=>[10] | _=>[]
theorem zzL (x0 x1:AV) (H:List Ob) (r:AV) (Ho:List Ob):aBody Tryz.prog zrm Tryz.f238 H [x0,x1] r Ho=ztX x0 x1 H (fun v H'=>Gives H.length v H' r Ho):=by kernel_rfl
theorem zzM {x0 x1:AV} {r:AV} {Ho:List Ob} (h:ztX x0 x1 [] (fun v H'=>Gives 0 v H' r Ho)):Abs.Fn Tryz.prog zpr [] [x0,x1] r Ho :=
 zh mixed zrm (fn:=Tryz.f238) (by kernel_rfl) (by kernel_rfl) (by rw [zzL]; exact h)
def zjx (x0 x1 x2 x3:AV) (H:List Ob) (K:AV→List Ob→Prop):Prop :=
 aBox x0 H fun v0 h1 =>
 aBox x1 h1 fun v2 h3 =>
 aBox x3 h3 fun v4 h5 =>
 zy [(.p (.int .i64 0)),(.full [])] h5 fun v6 h7 =>
 za 0 v0 fun v8 =>
 aLoad false 1 v8 h7 fun v9 =>
 aBin false false .eql v9 (.p (.str [108,105,116])) fun v10 =>
 ze v10
 (za 1 v0 fun v11 =>
 aLoad true 5 v11 h7 fun v12 =>
 aCall Tryz.prog (.p (.func znN [])) [v12] h7 fun v13 h14 =>
 zi 2 v6 v13 h14 fun _ h16 =>
 aLoad true 2 v6 h16 fun v17 =>
 K (.tup [v17,(.p (.int .i64 0))]) h16)
 (aBin false false .eql v9 (.p (.str [120])) fun v18 =>
 ze v18
 (aLoad true 2 v4 h7 fun v19 =>
 zi 2 v6 v19 h7 fun _ h21 =>
 aLoad true 2 v6 h21 fun v22 =>
 K (.tup [v22,(.p (.int .i64 0))]) h21)
 (aBin false false .eql v9 (.p (.str [97,116])) fun v23 =>
 ze v23
 (za 6 v0 fun v24 =>
 aLoad false 1 v24 h7 fun v25 =>
 aBin false false .lss v25 (.p (.int .i64 0)) fun v26 =>
 ze v26
 (zp [(.p (.int .i64 0)),(.full [])] [] fun v27 =>
 zi 2 v6 v27 h7 fun _ h29 =>
 aLoad true 2 v6 h29 fun v30 =>
 K (.tup [v30,(.p (.int .i64 1))]) h29)
 (za 6 v0 fun v31 =>
 aLoad false 1 v31 h7 fun v32 =>
 zb 2 x2 (.p (.int .i64 0)) fun v33 =>
 za 1 v33 fun v34 =>
 aLoad false 1 v34 h7 fun v35 =>
 aLen true false v35 fun v36 =>
 aBin false false .geq v32 v36 fun v37 =>
 ze v37
 (zp [(.p (.int .i64 0)),(.full [])] [] fun v38 =>
 zi 2 v6 v38 h7 fun _ h40 =>
 aLoad true 2 v6 h40 fun v41 =>
 K (.tup [v41,(.p (.int .i64 1))]) h40)
 (zb 2 x2 (.p (.int .i64 0)) fun v42 =>
 za 1 v42 fun v43 =>
 aLoad false 1 v43 h7 fun v44 =>
 za 6 v0 fun v45 =>
 aLoad false 1 v45 h7 fun v46 =>
 zb 2 v44 v46 fun v47 =>
 aLoad true 2 v47 h7 fun v48 =>
 zi 2 v6 v48 h7 fun _ h50 =>
 aLoad true 2 v6 h50 fun v51 =>
 K (.tup [v51,(.p (.int .i64 0))]) h50)))
 (aBin false false .eql v9 (.p (.str [116,117,112])) fun v52 =>
 ze v52
 (zp [(.p (.int .i64 0)),(.full [])] [(0,1,(.p (.int .i64 4))),(1,1,x2)] fun v53 =>
 zy [(.p (.int .i64 0)),(.full [])] h7 fun v54 h55 =>
 zi 2 v54 v53 h55 fun _ h57 =>
 aLoad true 2 v54 h57 fun v58 =>
 aCall Tryz.prog (.p (.func zhf [])) [v58] h57 fun v59 h60 =>
 aBin false false .neq v59 (.p (.int .i64 0)) fun v61 =>
 ze v61
 (zp [(.p (.int .i64 0)),(.full [])] [] fun v62 =>
 zi 2 v6 v62 h60 fun _ h64 =>
 aLoad true 2 v6 h64 fun v65 =>
 K (.tup [v65,v59]) h64)
 (aLoad true 2 v54 h60 fun v66 =>
 zi 2 v6 v66 h60 fun _ h68 =>
 aLoad true 2 v6 h68 fun v69 =>
 K (.tup [v69,(.p (.int .i64 0))]) h68))
 (aBin false false .eql v9 (.p (.str [105,102])) fun v70 =>
 ze v70
 (zb 2 x2 (.p (.int .i64 1)) fun v71 =>
 aLoad true 2 v71 h7 fun v72 =>
 zi 2 v6 v72 h7 fun _ h74 =>
 aLoad true 2 v6 h74 fun v75 =>
 K (.tup [v75,(.p (.int .i64 0))]) h74)
 (za 4 v2 fun v76 =>
 aLoad false 1 v76 h7 fun v77 =>
 zp [(.p (.int .i64 0)),(.full [])] [(0,1,v77)] fun v78 =>
 zi 2 v6 v78 h7 fun _ h80 =>
 aLoad true 2 v6 h80 fun v81 =>
 K (.tup [v81,(.p (.int .i64 0))]) h80)))))
def zjO:Nat→List Nat:=fun _=>[]
theorem zrX (x0 x1 x2 x3:AV) (H:List Ob) (r:AV) (Ho:List Ob):aBody Tryz.prog zjO Tryz.f239 H [x0,x1,x2,x3] r Ho=zjx x0 x1 x2 x3 H (fun v H'=>Gives H.length v H' r Ho):=by kernel_rfl
theorem zrY {x0 x1 x2 x3:AV} {r:AV} {Ho:List Ob} (h:zjx x0 x1 x2 x3 [] (fun v H'=>Gives 0 v H' r Ho)):Abs.Fn Tryz.prog zhr [] [x0,x1,x2,x3] r Ho :=
 zh mixed zjO (fn:=Tryz.f239) (by kernel_rfl) (by kernel_rfl) (by rw [zrX]; exact h)
def ztY (x0:AV) (H:List Ob) (K:AV→List Ob→Prop):Prop :=
 aBox x0 H fun v0 h1 =>
 aLoad true 5 v0 h1 fun v2 =>
 zp [(.p (.int .i64 0)),(.p (.int .i64 0)),(.p (.bool false)),(.p (.str [])),(.full [])] [] fun v3 =>
 aCall Tryz.prog (.p (.func zgZ [])) [v2,v3] h1 fun v4 h5 =>
 K v4 h5
def zrn:Nat→List Nat:=fun _=>[]
theorem zzN (x0:AV) (H:List Ob) (r:AV) (Ho:List Ob):aBody Tryz.prog zrn Tryz.f260 H [x0] r Ho=ztY x0 H (fun v H'=>Gives H.length v H' r Ho):=by kernel_rfl
theorem zzO {x0:AV} {r:AV} {Ho:List Ob} (h:ztY x0 [] (fun v H'=>Gives 0 v H' r Ho)):Abs.Fn Tryz.prog zps [] [x0] r Ho :=
 zh mixed zrn (fn:=Tryz.f260) (by kernel_rfl) (by kernel_rfl) (by rw [zzN]; exact h)
end Go.Proofs.YtdmgbhamigegfaaGreatDoor
end

section
/- Made by program (Gen.lean): functions of the dump, over trees. -/
set_option maxRecDepth 4000
set_option linter.unusedVariables false
namespace Go.Proofs.YtdmgbhamigegfaaGreatDoor
open Go Go.Abs
def ztR (x0 x1:AV) (H:List Ob) (K:AV→List Ob→Prop):Prop :=
 aBox x0 H fun v0 h1 =>
 aBox x1 h1 fun v2 h3 =>
 zy [(.p (.int .i64 0)),(.p (.int .i64 0)),(.p (.bool false)),(.p (.str [])),(.full [])] h3 fun v4 h5 =>
 za 0 v0 fun v6 =>
 aLoad false 1 v6 h5 fun v7 =>
 aBin false false .eql v7 (.p (.str [108,105,116])) fun v8 =>
 ze v8
 (za 1 v0 fun v9 =>
 aLoad true 5 v9 h5 fun v10 =>
 zi 5 v4 v10 h5 fun _ h12 =>
 aLoad true 5 v4 h12 fun v13 =>
 K (.tup [v13,(.p (.int .i64 0))]) h12)
 (aBin false false .eql v7 (.p (.str [120])) fun v14 =>
 ze v14
 (aLoad true 5 v2 h5 fun v15 =>
 zi 5 v4 v15 h5 fun _ h17 =>
 aLoad true 5 v4 h17 fun v18 =>
 K (.tup [v18,(.p (.int .i64 0))]) h17)
 (aBin false false .eql v7 (.p (.str [97,110,100])) fun v19 =>
 zm false v19 (fun Q20 =>
 aBin false false .eql v7 (.p (.str [111,114])) fun v21 =>
 zm false v21 (fun Q22 =>
 aBin false false .eql v7 (.p (.str [105,102])) fun v23 =>
 (h5=h5∧Q22 v23)) fun v24 =>
 (h5=h5∧Q20 v24)) fun v25 =>
 ze v25
 (zy [(.p (.int .i64 0)),(.p (.int .i64 0)),(.p (.bool false)),(.p (.str [])),(.full [])] h5 fun v26 h27 =>
 za 7 v0 fun v28 =>
 aLoad false 1 v28 h27 fun v29 =>
 zb 8 v29 (.p (.int .i64 0)) fun v30 =>
 aLoad true 8 v30 h27 fun v31 =>
 aLoad true 5 v2 h27 fun v32 =>
 zJ Tryz.prog (.p (.func zg5 [])) [v31,v32] fun v33 =>
 zB v33 0 fun v34 =>
 zB v33 1 fun v35 =>
 zi 5 v26 v34 h27 fun _ h37 =>
 aLoad true 8 v0 h37 fun v38 =>
 aLoad true 5 v26 h37 fun v39 =>
 aCall Tryz.prog (.p (.func zlT [])) [v38,v39] h37 fun v40 h41 =>
 aBin false false .eql v35 (.p (.int .i64 0)) fun v42 =>
 zm true v42 (fun Q43 =>
 aBin false false .gtr v40 (.p (.int .i64 0)) fun v44 =>
 (h41=h41∧Q43 v44)) fun v45 =>
 ze v45
 (za 7 v0 fun v46 =>
 aLoad false 1 v46 h41 fun v47 =>
 zb 8 v47 v40 fun v48 =>
 aLoad true 8 v48 h41 fun v49 =>
 aLoad true 5 v2 h41 fun v50 =>
 zJ Tryz.prog (.p (.func zg5 [])) [v49,v50] fun v51 =>
 zB v51 0 fun v52 =>
 zB v51 1 fun v53 =>
 zi 5 v4 v52 h41 fun _ h55 =>
 aLoad true 5 v4 h55 fun v56 =>
 K (.tup [v56,v53]) h55)
 (aLoad true 5 v26 h41 fun v57 =>
 zi 5 v4 v57 h41 fun _ h59 =>
 aLoad true 5 v4 h59 fun v60 =>
 K (.tup [v60,v35]) h59))
 (za 7 v0 fun v61 =>
 aLoad false 1 v61 h5 fun v62 =>
 aLoad true 5 v2 h5 fun v63 =>
 aCall Tryz.prog (.p (.func zrV [])) [v62,v63] h5 fun v64 h65 =>
 zB v64 0 fun v66 =>
 zB v64 1 fun v67 =>
 aBin false false .neq v67 (.p (.int .i64 0)) fun v68 =>
 ze v68
 (zp [(.p (.int .i64 0)),(.p (.int .i64 0)),(.p (.bool false)),(.p (.str [])),(.full [])] [] fun v69 =>
 zi 5 v4 v69 h65 fun _ h71 =>
 aLoad true 5 v4 h71 fun v72 =>
 K (.tup [v72,v67]) h71)
 (za 0 v0 fun v73 =>
 aLoad false 1 v73 h65 fun v74 =>
 aBin false false .eql v74 (.p (.str [97,116])) fun v75 =>
 ze v75
 (zb 5 v66 (.p (.int .i64 0)) fun v76 =>
 za 4 v76 fun v77 =>
 aLoad false 1 v77 h65 fun v78 =>
 za 6 v0 fun v79 =>
 aLoad false 1 v79 h65 fun v80 =>
 zb 5 v78 v80 fun v81 =>
 aLoad true 5 v81 h65 fun v82 =>
 zi 5 v4 v82 h65 fun _ h84 =>
 aLoad true 5 v4 h84 fun v85 =>
 K (.tup [v85,(.p (.int .i64 0))]) h84)
 (za 0 v0 fun v86 =>
 aLoad false 1 v86 h65 fun v87 =>
 aBin false false .eql v87 (.p (.str [116,117,112])) fun v88 =>
 ze v88
 (aCall Tryz.prog (.p (.func zuz [])) [v66] h65 fun v89 h90 =>
 zi 5 v4 v89 h90 fun _ h92 =>
 aLoad true 5 v4 h92 fun v93 =>
 K (.tup [v93,(.p (.int .i64 0))]) h92)
 (aLen false false v66 fun v94 =>
 aBin false false .eql v94 (.p (.int .i64 1)) fun v95 =>
 ze v95
 (zy [(.p (.int .i64 0)),(.p (.int .i64 0)),(.p (.bool false)),(.p (.str [])),(.full [])] h65 fun v96 h97 =>
 za 0 v0 fun v98 =>
 aLoad false 1 v98 h97 fun v99 =>
 zb 5 v66 (.p (.int .i64 0)) fun v100 =>
 aLoad true 5 v100 h97 fun v101 =>
 zJ Tryz.prog (.p (.func zrU [])) [v99,v101] fun v102 =>
 zB v102 0 fun v103 =>
 zB v102 1 fun _ =>
 zi 5 v96 v103 h97 fun _ h106 =>
 aLoad true 5 v96 h106 fun v107 =>
 zi 5 v4 v107 h106 fun _ h109 =>
 aLoad true 5 v4 h109 fun v110 =>
 K (.tup [v110,(.p (.int .i64 0))]) h109)
 (zy [(.p (.int .i64 0)),(.p (.int .i64 0)),(.p (.bool false)),(.p (.str [])),(.full [])] h65 fun v111 h112 =>
 za 0 v0 fun v113 =>
 aLoad false 1 v113 h112 fun v114 =>
 zb 5 v66 (.p (.int .i64 0)) fun v115 =>
 aLoad true 5 v115 h112 fun v116 =>
 zb 5 v66 (.p (.int .i64 1)) fun v117 =>
 aLoad true 5 v117 h112 fun v118 =>
 zJ Tryz.prog (.p (.func zlk [])) [v114,v116,v118] fun v119 =>
 zB v119 0 fun v120 =>
 zB v119 1 fun v121 =>
 zB v119 2 fun _ =>
 zi 5 v111 v120 h112 fun _ h124 =>
 aLoad true 5 v111 h124 fun v125 =>
 zi 5 v4 v125 h124 fun _ h127 =>
 aLoad true 5 v4 h127 fun v128 =>
 K (.tup [v128,v121]) h127)))))))
def zrh:Nat→List Nat:=fun k=>match k with | 1000008=>[1] | 1000007=>[1] | _=>[]
theorem zzC (x0 x1:AV) (H:List Ob) (r:AV) (Ho:List Ob):aBody Tryz.prog zrh Tryz.f110 H [x0,x1] r Ho=ztR x0 x1 H (fun v H'=>Gives H.length v H' r Ho):=by kernel_rfl
theorem zzD {x0 x1:AV} {r:AV} {Ho:List Ob} (h:ztR x0 x1 [] (fun v H'=>Gives 0 v H' r Ho)):Abs.Fn Tryz.prog zg5 [] [x0,x1] r Ho :=
 zh mixed zrh (fn:=Tryz.f110) (by kernel_rfl) (by kernel_rfl) (by rw [zzC]; exact h)
def zpb (x0 x1:AV) (H:List Ob) (K:AV→List Ob→Prop):Prop :=
 aBox x0 H fun v0 h1 =>
 aBox x1 h1 fun v2 h3 =>
 za 0 v0 fun v4 =>
 aLoad false 1 v4 h3 fun v5 =>
 aBin false false .eql v5 (.p (.str [105,102])) fun v6 =>
 zm true v6 (fun Q7 =>
 za 2 v2 fun v8 =>
 aLoad false 1 v8 h3 fun v9 =>
 (h3=h3∧Q7 v9)) fun v10 =>
 ze v10
 (K (.p (.int .i64 1)) h3)
 (za 0 v0 fun v11 =>
 aLoad false 1 v11 h3 fun v12 =>
 aBin false false .eql v12 (.p (.str [105,102])) fun v13 =>
 ze v13
 (K (.p (.int .i64 2)) h3)
 (za 0 v0 fun v14 =>
 aLoad false 1 v14 h3 fun v15 =>
 aBin false false .eql v15 (.p (.str [97,110,100])) fun v16 =>
 za 2 v2 fun v17 =>
 aLoad false 1 v17 h3 fun v18 =>
 aBin true false .eql v16 v18 fun v19 =>
 ze v19
 (K (.p (.int .i64 1)) h3)
 (K (.p (.int .i64 0)) h3)))
def znY:Nat→List Nat:=fun _=>[]
theorem zwy (x0 x1:AV) (H:List Ob) (r:AV) (Ho:List Ob):aBody Tryz.prog znY Tryz.f148 H [x0,x1] r Ho=zpb x0 x1 H (fun v H'=>Gives H.length v H' r Ho):=by kernel_rfl
theorem zwz {x0 x1:AV} {r:AV} {Ho:List Ob} (h:zpb x0 x1 [] (fun v H'=>Gives 0 v H' r Ho)):Abs.Fn Tryz.prog zlT [] [x0,x1] r Ho :=
 zh mixed znY (fn:=Tryz.f148) (by kernel_rfl) (by kernel_rfl) (by rw [zwy]; exact h)
def zuR (q1s3 q1s11 q1s12 y0 y1:AV) (H:List Ob) (B1:List AV→List Ob→Prop) (K:AV→List Ob→Prop):Prop :=
 aBin false false .lss y1 q1s12 fun v3 =>
 ze v3
 (zb 8 q1s11 y1 fun v4 =>
 aLoad true 8 v4 H fun v5 =>
 zy [(.p (.str [])),(.p (.int .i64 0)),(.p (.int .i64 0)),(.p (.bool false)),(.p (.str [])),(.full []),(.p (.int .i64 0)),(.full [])] H fun v6 h7 =>
 zi 8 v6 v5 h7 fun _ h9 =>
 aLoad true 8 v6 h9 fun v10 =>
 aLoad true 5 q1s3 h9 fun v11 =>
 aCall Tryz.prog (.p (.func zg5 [])) [v10,v11] h9 fun v12 h13 =>
 zB v12 0 fun v14 =>
 zB v12 1 fun v15 =>
 zy [(.p (.int .i64 0)),(.p (.int .i64 0)),(.p (.bool false)),(.p (.str [])),(.full [])] h13 fun v16 h17 =>
 zi 5 v16 v14 h17 fun _ h19 =>
 aBin false false .neq v15 (.p (.int .i64 0)) fun v20 =>
 ze v20
 (K (.tup [(.full []),v15]) h19)
 (aLoad true 5 v16 h19 fun v21 =>
 zk 5 [v21] fun v22 =>
 zH false 5 64 y0 v22 h19 fun v23 h24 =>
 aBin false false .add y1 (.p (.int .i64 1)) fun v25 =>
 B1 [v23,v25] h24))
 (K (.tup [y0,(.p (.int .i64 0))]) H)
def zww (x0 x1:AV) (H:List Ob) (K:AV→List Ob→Prop):Prop :=
 aBox x1 H fun v0 h1 =>
 aLen false false x0 fun v2 =>
 zD 2 [(.full []),(.p (.int .i64 0))] h1 fun xs H B1=>zuR v0 x0 v2 (xs.getD 0 Z) (xs.getD 1 Z) H B1 K
def zsL:Nat→List Nat:=fun k=>match k with | 3=>[6,13] | _=>[]
theorem zBg (x0 x1:AV) (H:List Ob) (r:AV) (Ho:List Ob):aBody Tryz.prog zsL Tryz.f149 H [x0,x1] r Ho=zww x0 x1 H (fun v H'=>Gives H.length v H' r Ho):=by kernel_rfl
theorem zBh {x0 x1:AV} {r:AV} {Ho:List Ob} (h:zww x0 x1 [] (fun v H'=>Gives 0 v H' r Ho)):Abs.Fn Tryz.prog zrV [] [x0,x1] r Ho :=
 zh mixed zsL (fn:=Tryz.f149) (by kernel_rfl) (by kernel_rfl) (by rw [zBg]; exact h)
def zwv (x0 x1:AV) (H:List Ob) (K:AV→List Ob→Prop):Prop :=
 aBox x1 H fun v0 h1 =>
 zy [(.p (.int .i64 0)),(.p (.int .i64 0)),(.p (.bool false)),(.p (.str [])),(.full [])] h1 fun v2 h3 =>
 aCall Tryz.prog (.p (.func zpg [])) [] h3 fun v4 h5 =>
 aCall Tryz.prog (.p (.func zar [])) [v4,x0] h5 fun v6 h7 =>
 zB v6 0 fun v8 =>
 zB v6 1 fun v9 =>
 aUn .not v9 fun v10 =>
 ze v10
 (zp [(.p (.int .i64 0)),(.p (.int .i64 0)),(.p (.bool false)),(.p (.str [])),(.full [])] [] fun v11 =>
 zi 5 v2 v11 h7 fun _ h13 =>
 aLoad true 5 v2 h13 fun v14 =>
 K (.tup [v14,(.p (.bool false))]) h13)
 (aLoad true 5 v0 h7 fun v15 =>
 aCall Tryz.prog v8 [v15] h7 fun v16 h17 =>
 zi 5 v2 v16 h17 fun _ h19 =>
 aLoad true 5 v2 h19 fun v20 =>
 K (.tup [v20,(.p (.bool true))]) h19)
def zsK:Nat→List Nat:=fun _=>[]
theorem zBe (x0 x1:AV) (H:List Ob) (r:AV) (Ho:List Ob):aBody Tryz.prog zsK Tryz.f150 H [x0,x1] r Ho=zwv x0 x1 H (fun v H'=>Gives H.length v H' r Ho):=by kernel_rfl
theorem zBf {x0 x1:AV} {r:AV} {Ho:List Ob} (h:zwv x0 x1 [] (fun v H'=>Gives 0 v H' r Ho)):Abs.Fn Tryz.prog zrU [] [x0,x1] r Ho :=
 zh mixed zsK (fn:=Tryz.f150) (by kernel_rfl) (by kernel_rfl) (by rw [zBe]; exact h)
def ztQ (x0 x1 x2:AV) (H:List Ob) (K:AV→List Ob→Prop):Prop :=
 aBox x1 H fun v0 h1 =>
 aBox x2 h1 fun v2 h3 =>
 zy [(.p (.int .i64 0)),(.p (.int .i64 0)),(.p (.bool false)),(.p (.str [])),(.full [])] h3 fun v4 h5 =>
 aCall Tryz.prog (.p (.func zpo [])) [] h5 fun v6 h7 =>
 aCall Tryz.prog (.p (.func zcF [])) [v6,x0] h7 fun v8 h9 =>
 zB v8 0 fun v10 =>
 zB v8 1 fun v11 =>
 aUn .not v11 fun v12 =>
 ze v12
 (zp [(.p (.int .i64 0)),(.p (.int .i64 0)),(.p (.bool false)),(.p (.str [])),(.full [])] [] fun v13 =>
 zi 5 v4 v13 h9 fun _ h15 =>
 aLoad true 5 v4 h15 fun v16 =>
 K (.tup [v16,(.p (.int .i64 0)),(.p (.bool false))]) h15)
 (aLoad true 5 v0 h9 fun v17 =>
 aLoad true 5 v2 h9 fun v18 =>
 aCall Tryz.prog v10 [v17,v18] h9 fun v19 h20 =>
 zB v19 0 fun v21 =>
 zB v19 1 fun v22 =>
 zy [(.p (.int .i64 0)),(.p (.int .i64 0)),(.p (.bool false)),(.p (.str [])),(.full [])] h20 fun v23 h24 =>
 zi 5 v23 v21 h24 fun _ h26 =>
 aLoad true 5 v23 h26 fun v27 =>
 zi 5 v4 v27 h26 fun _ h29 =>
 aLoad true 5 v4 h29 fun v30 =>
 K (.tup [v30,v22,(.p (.bool true))]) h29)
def zrg:Nat→List Nat:=fun _=>[]
theorem zzA (x0 x1 x2:AV) (H:List Ob) (r:AV) (Ho:List Ob):aBody Tryz.prog zrg Tryz.f151 H [x0,x1,x2] r Ho=ztQ x0 x1 x2 H (fun v H'=>Gives H.length v H' r Ho):=by kernel_rfl
theorem zzB {x0 x1 x2:AV} {r:AV} {Ho:List Ob} (h:ztQ x0 x1 x2 [] (fun v H'=>Gives 0 v H' r Ho)):Abs.Fn Tryz.prog zlk [] [x0,x1,x2] r Ho :=
 zh mixed zrg (fn:=Tryz.f151) (by kernel_rfl) (by kernel_rfl) (by rw [zzA]; exact h)
def ztU (H:List Ob) (K:AV→List Ob→Prop):Prop :=
 zp [(.p (.str [])),(.p (.raw .nilFunc))] [(0,1,(.p (.str [110,101,103]))),(1,1,(.p (.func ziK [])))] fun v0 =>
 zp [(.p (.str [])),(.p (.raw .nilFunc))] [(0,1,(.p (.str [110,111,116]))),(1,1,(.p (.func ziL [])))] fun v1 =>
 zp [(.p (.str [])),(.p (.raw .nilFunc))] [(0,1,(.p (.str [108,101,110]))),(1,1,(.p (.func ziM [])))] fun v2 =>
 zk 2 [v0,v1,v2] fun v3 =>
 K v3 H
def zri:Nat→List Nat:=fun _=>[]
theorem zzE (H:List Ob) (r:AV) (Ho:List Ob):aBody Tryz.prog zri Tryz.f176 H [] r Ho=ztU H (fun v H'=>Gives H.length v H' r Ho):=by kernel_rfl
theorem zzF {r:AV} {Ho:List Ob} (h:ztU [] (fun v H'=>Gives 0 v H' r Ho)):Abs.Fn Tryz.prog zpg [] [] r Ho :=
 zh mixed zri (fn:=Tryz.f176) (by kernel_rfl) (by kernel_rfl) (by rw [zzE]; exact h)
def zbf (q1s1 q1s9 q1s10 y0:AV) (H:List Ob) (B1:List AV→List Ob→Prop) (K:AV→List Ob→Prop):Prop :=
 aBin false false .lss y0 q1s10 fun v1 =>
 ze v1
 (zb 2 q1s9 y0 fun v2 =>
 aLoad true 2 v2 H fun v3 =>
 zy [(.p (.str [])),(.p (.raw .nilFunc))] H fun v4 h5 =>
 zi 2 v4 v3 h5 fun _ h7 =>
 za 0 v4 fun v8 =>
 aLoad false 1 v8 h7 fun v9 =>
 aBin false false .eql v9 q1s1 fun v10 =>
 ze v10
 (za 1 v4 fun v11 =>
 aLoad false 1 v11 h7 fun v12 =>
 K (.tup [v12,(.p (.bool true))]) h7)
 (aBin false false .add y0 (.p (.int .i64 1)) fun v13 =>
 B1 [v13] h7))
 (K (.tup [(.p (.raw .nilFunc)),(.p (.bool false))]) H)
def zaB (x0 x1:AV) (H:List Ob) (K:AV→List Ob→Prop):Prop :=
 aLen false false x0 fun v0 =>
 zD 1 [(.p (.int .i64 0))] H fun xs H B1=>zbf x1 x0 v0 (xs.getD 0 Z) H B1 K
def zbc:Nat→List Nat:=fun k=>match k with | 2=>[11] | _=>[]
theorem zdg (x0 x1:AV) (H:List Ob) (r:AV) (Ho:List Ob):aBody Tryz.prog zbc Tryz.f177 H [x0,x1] r Ho=zaB x0 x1 H (fun v H'=>Gives H.length v H' r Ho):=by kernel_rfl
theorem zdh {x0 x1:AV} {r:AV} {Ho:List Ob} (h:zaB x0 x1 [] (fun v H'=>Gives 0 v H' r Ho)):Abs.Fn Tryz.prog zar [] [x0,x1] r Ho :=
 zh mixed zbc (fn:=Tryz.f177) (by kernel_rfl) (by kernel_rfl) (by rw [zdg]; exact h)
def ztV (H:List Ob) (K:AV→List Ob→Prop):Prop :=
 aCall Tryz.prog (.p (.func zgc [])) [(.p (.func ziN []))] H fun v0 h1 =>
 zp [(.p (.str [])),(.p (.raw .nilFunc))] [(0,1,(.p (.str [97,100,100]))),(1,1,v0)] fun v2 =>
 aCall Tryz.prog (.p (.func zgc [])) [(.p (.func ziO []))] h1 fun v3 h4 =>
 zp [(.p (.str [])),(.p (.raw .nilFunc))] [(0,1,(.p (.str [115,117,98]))),(1,1,v3)] fun v5 =>
 aCall Tryz.prog (.p (.func zgc [])) [(.p (.func ziP []))] h4 fun v6 h7 =>
 zp [(.p (.str [])),(.p (.raw .nilFunc))] [(0,1,(.p (.str [109,117,108]))),(1,1,v6)] fun v8 =>
 aCall Tryz.prog (.p (.func zhq [])) [(.p (.func ziQ []))] h7 fun v9 h10 =>
 zp [(.p (.str [])),(.p (.raw .nilFunc))] [(0,1,(.p (.str [100,105,118]))),(1,1,v9)] fun v11 =>
 aCall Tryz.prog (.p (.func zhq [])) [(.p (.func ziR []))] h10 fun v12 h13 =>
 zp [(.p (.str [])),(.p (.raw .nilFunc))] [(0,1,(.p (.str [114,101,109]))),(1,1,v12)] fun v14 =>
 zp [(.p (.str [])),(.p (.raw .nilFunc))] [(0,1,(.p (.str [101,113]))),(1,1,(.p (.func zgd [])))] fun v15 =>
 zp [(.p (.str [])),(.p (.raw .nilFunc))] [(0,1,(.p (.str [108,116]))),(1,1,(.p (.func zge [])))] fun v16 =>
 zp [(.p (.str [])),(.p (.raw .nilFunc))] [(0,1,(.p (.str [99,97,116]))),(1,1,(.p (.func zkB [])))] fun v17 =>
 zk 2 [v2,v5,v8,v11,v14,v15,v16,v17] fun v18 =>
 K v18 h13
def zrj:Nat→List Nat:=fun _=>[]
theorem zzG (H:List Ob) (r:AV) (Ho:List Ob):aBody Tryz.prog zrj Tryz.f178 H [] r Ho=ztV H (fun v H'=>Gives H.length v H' r Ho):=by kernel_rfl
theorem zzH {r:AV} {Ho:List Ob} (h:ztV [] (fun v H'=>Gives 0 v H' r Ho)):Abs.Fn Tryz.prog zpo [] [] r Ho :=
 zh mixed zrj (fn:=Tryz.f178) (by kernel_rfl) (by kernel_rfl) (by rw [zzG]; exact h)
def zez (q1s1 q1s9 q1s10 y0:AV) (H:List Ob) (B1:List AV→List Ob→Prop) (K:AV→List Ob→Prop):Prop :=
 aBin false false .lss y0 q1s10 fun v1 =>
 ze v1
 (zb 2 q1s9 y0 fun v2 =>
 aLoad true 2 v2 H fun v3 =>
 zy [(.p (.str [])),(.p (.raw .nilFunc))] H fun v4 h5 =>
 zi 2 v4 v3 h5 fun _ h7 =>
 za 0 v4 fun v8 =>
 aLoad false 1 v8 h7 fun v9 =>
 aBin false false .eql v9 q1s1 fun v10 =>
 ze v10
 (za 1 v4 fun v11 =>
 aLoad false 1 v11 h7 fun v12 =>
 K (.tup [v12,(.p (.bool true))]) h7)
 (aBin false false .add y0 (.p (.int .i64 1)) fun v13 =>
 B1 [v13] h7))
 (K (.tup [(.p (.raw .nilFunc)),(.p (.bool false))]) H)
def zda (x0 x1:AV) (H:List Ob) (K:AV→List Ob→Prop):Prop :=
 aLen false false x0 fun v0 =>
 zD 1 [(.p (.int .i64 0))] H fun xs H B1=>zez x1 x0 v0 (xs.getD 0 Z) H B1 K
def zd8:Nat→List Nat:=fun k=>match k with | 2=>[11] | _=>[]
theorem zka (x0 x1:AV) (H:List Ob) (r:AV) (Ho:List Ob):aBody Tryz.prog zd8 Tryz.f179 H [x0,x1] r Ho=zda x0 x1 H (fun v H'=>Gives H.length v H' r Ho):=by kernel_rfl
theorem zkb {x0 x1:AV} {r:AV} {Ho:List Ob} (h:zda x0 x1 [] (fun v H'=>Gives 0 v H' r Ho)):Abs.Fn Tryz.prog zcF [] [x0,x1] r Ho :=
 zh mixed zd8 (fn:=Tryz.f179) (by kernel_rfl) (by kernel_rfl) (by rw [zka]; exact h)
def zpd (x0:AV) (H:List Ob) (K:AV→List Ob→Prop):Prop :=
 aBox x0 H fun v0 h1 =>
 zy [(.p (.int .i64 0)),(.p (.int .i64 0)),(.p (.bool false)),(.p (.str [])),(.full [])] h1 fun v2 h3 =>
 za 1 v0 fun v4 =>
 aLoad false 1 v4 h3 fun v5 =>
 aUn .neg v5 fun v6 =>
 aCall Tryz.prog (.p (.func zcY [])) [v6] h3 fun v7 h8 =>
 zi 5 v2 v7 h8 fun _ h10 =>
 aLoad true 5 v2 h10 fun v11 =>
 K v11 h10
def zn0:Nat→List Nat:=fun _=>[]
theorem zwC (x0:AV) (H:List Ob) (r:AV) (Ho:List Ob):aBody Tryz.prog zn0 Tryz.f213 H [x0] r Ho=zpd x0 H (fun v H'=>Gives H.length v H' r Ho):=by kernel_rfl
theorem zwD {x0:AV} {r:AV} {Ho:List Ob} (h:zpd x0 [] (fun v H'=>Gives 0 v H' r Ho)):Abs.Fn Tryz.prog ziK [] [x0] r Ho :=
 zh mixed zn0 (fn:=Tryz.f213) (by kernel_rfl) (by kernel_rfl) (by rw [zwC]; exact h)
def zpe (x0:AV) (H:List Ob) (K:AV→List Ob→Prop):Prop :=
 aBox x0 H fun v0 h1 =>
 zy [(.p (.int .i64 0)),(.p (.int .i64 0)),(.p (.bool false)),(.p (.str [])),(.full [])] h1 fun v2 h3 =>
 za 2 v0 fun v4 =>
 aLoad false 1 v4 h3 fun v5 =>
 aUn .not v5 fun v6 =>
 aCall Tryz.prog (.p (.func zlb [])) [v6] h3 fun v7 h8 =>
 zi 5 v2 v7 h8 fun _ h10 =>
 aLoad true 5 v2 h10 fun v11 =>
 K v11 h10
def zn1:Nat→List Nat:=fun _=>[]
theorem zwE (x0:AV) (H:List Ob) (r:AV) (Ho:List Ob):aBody Tryz.prog zn1 Tryz.f214 H [x0] r Ho=zpe x0 H (fun v H'=>Gives H.length v H' r Ho):=by kernel_rfl
theorem zwF {x0:AV} {r:AV} {Ho:List Ob} (h:zpe x0 [] (fun v H'=>Gives 0 v H' r Ho)):Abs.Fn Tryz.prog ziL [] [x0] r Ho :=
 zh mixed zn1 (fn:=Tryz.f214) (by kernel_rfl) (by kernel_rfl) (by rw [zwE]; exact h)
def zpf (x0:AV) (H:List Ob) (K:AV→List Ob→Prop):Prop :=
 aBox x0 H fun v0 h1 =>
 zy [(.p (.int .i64 0)),(.p (.int .i64 0)),(.p (.bool false)),(.p (.str [])),(.full [])] h1 fun v2 h3 =>
 za 3 v0 fun v4 =>
 aLoad false 1 v4 h3 fun v5 =>
 aLen false true v5 fun v6 =>
 aCall Tryz.prog (.p (.func zcY [])) [v6] h3 fun v7 h8 =>
 zi 5 v2 v7 h8 fun _ h10 =>
 aLoad true 5 v2 h10 fun v11 =>
 K v11 h10
def zn2:Nat→List Nat:=fun _=>[]
theorem zwG (x0:AV) (H:List Ob) (r:AV) (Ho:List Ob):aBody Tryz.prog zn2 Tryz.f216 H [x0] r Ho=zpf x0 H (fun v H'=>Gives H.length v H' r Ho):=by kernel_rfl
theorem zwH {x0:AV} {r:AV} {Ho:List Ob} (h:zpf x0 [] (fun v H'=>Gives 0 v H' r Ho)):Abs.Fn Tryz.prog ziM [] [x0] r Ho :=
 zh mixed zn2 (fn:=Tryz.f216) (by kernel_rfl) (by kernel_rfl) (by rw [zwG]; exact h)
def zpc (x0:AV) (H:List Ob) (K:AV→List Ob→Prop):Prop :=
 aBox x0 H fun v0 h1 =>
 zaA zcf [v0] h1 fun v2 h3 =>
 K v2 h3
def znZ:Nat→List Nat:=fun _=>[]
theorem zwA (x0:AV) (H:List Ob) (r:AV) (Ho:List Ob):aBody Tryz.prog znZ Tryz.f217 H [x0] r Ho=zpc x0 H (fun v H'=>Gives H.length v H' r Ho):=by kernel_rfl
theorem zwB {x0:AV} {r:AV} {Ho:List Ob} (h:zpc x0 [] (fun v H'=>Gives 0 v H' r Ho)):Abs.Fn Tryz.prog zgc [] [x0] r Ho :=
 zh mixed znZ (fn:=Tryz.f217) (by kernel_rfl) (by kernel_rfl) (by rw [zwA]; exact h)
def zph (x0 x1:AV) (H:List Ob) (K:AV→List Ob→Prop):Prop :=
 aBin false false .add x0 x1 fun v0 =>
 K v0 H
def zn3:Nat→List Nat:=fun _=>[]
theorem zwI (x0 x1:AV) (H:List Ob) (r:AV) (Ho:List Ob):aBody Tryz.prog zn3 Tryz.f218 H [x0,x1] r Ho=zph x0 x1 H (fun v H'=>Gives H.length v H' r Ho):=by kernel_rfl
theorem zwJ {x0 x1:AV} {r:AV} {Ho:List Ob} (h:zph x0 x1 [] (fun v H'=>Gives 0 v H' r Ho)):Abs.Fn Tryz.prog ziN [] [x0,x1] r Ho :=
 zh mixed zn3 (fn:=Tryz.f218) (by kernel_rfl) (by kernel_rfl) (by rw [zwI]; exact h)
def zpi (x0 x1:AV) (H:List Ob) (K:AV→List Ob→Prop):Prop :=
 aBin false false .sub x0 x1 fun v0 =>
 K v0 H
def zn4:Nat→List Nat:=fun _=>[]
theorem zwK (x0 x1:AV) (H:List Ob) (r:AV) (Ho:List Ob):aBody Tryz.prog zn4 Tryz.f219 H [x0,x1] r Ho=zpi x0 x1 H (fun v H'=>Gives H.length v H' r Ho):=by kernel_rfl
theorem zwL {x0 x1:AV} {r:AV} {Ho:List Ob} (h:zpi x0 x1 [] (fun v H'=>Gives 0 v H' r Ho)):Abs.Fn Tryz.prog ziO [] [x0,x1] r Ho :=
 zh mixed zn4 (fn:=Tryz.f219) (by kernel_rfl) (by kernel_rfl) (by rw [zwK]; exact h)
def zpj (x0 x1:AV) (H:List Ob) (K:AV→List Ob→Prop):Prop :=
 aBin false false .mul x0 x1 fun v0 =>
 K v0 H
def zn5:Nat→List Nat:=fun _=>[]
theorem zwM (x0 x1:AV) (H:List Ob) (r:AV) (Ho:List Ob):aBody Tryz.prog zn5 Tryz.f220 H [x0,x1] r Ho=zpj x0 x1 H (fun v H'=>Gives H.length v H' r Ho):=by kernel_rfl
theorem zwN {x0 x1:AV} {r:AV} {Ho:List Ob} (h:zpj x0 x1 [] (fun v H'=>Gives 0 v H' r Ho)):Abs.Fn Tryz.prog ziP [] [x0,x1] r Ho :=
 zh mixed zn5 (fn:=Tryz.f220) (by kernel_rfl) (by kernel_rfl) (by rw [zwM]; exact h)
def zm9 (x0:AV) (H:List Ob) (K:AV→List Ob→Prop):Prop :=
 aBox x0 H fun v0 h1 =>
 zaA zcz [v0] h1 fun v2 h3 =>
 K v2 h3
def zmo:Nat→List Nat:=fun _=>[]
theorem zvn (x0:AV) (H:List Ob) (r:AV) (Ho:List Ob):aBody Tryz.prog zmo Tryz.f221 H [x0] r Ho=zm9 x0 H (fun v H'=>Gives H.length v H' r Ho):=by kernel_rfl
theorem zvo {x0:AV} {r:AV} {Ho:List Ob} (h:zm9 x0 [] (fun v H'=>Gives 0 v H' r Ho)):Abs.Fn Tryz.prog zhq [] [x0] r Ho :=
 zh mixed zmo (fn:=Tryz.f221) (by kernel_rfl) (by kernel_rfl) (by rw [zvn]; exact h)
def zpk (x0 x1:AV) (H:List Ob) (K:AV→List Ob→Prop):Prop :=
 aBin false false .quo x0 x1 fun v0 =>
 K v0 H
def zn6:Nat→List Nat:=fun _=>[]
theorem zwO (x0 x1:AV) (H:List Ob) (r:AV) (Ho:List Ob):aBody Tryz.prog zn6 Tryz.f222 H [x0,x1] r Ho=zpk x0 x1 H (fun v H'=>Gives H.length v H' r Ho):=by kernel_rfl
theorem zwP {x0 x1:AV} {r:AV} {Ho:List Ob} (h:zpk x0 x1 [] (fun v H'=>Gives 0 v H' r Ho)):Abs.Fn Tryz.prog ziQ [] [x0,x1] r Ho :=
 zh mixed zn6 (fn:=Tryz.f222) (by kernel_rfl) (by kernel_rfl) (by rw [zwO]; exact h)
def zpl (x0 x1:AV) (H:List Ob) (K:AV→List Ob→Prop):Prop :=
 aBin false false .rem x0 x1 fun v0 =>
 K v0 H
def zn7:Nat→List Nat:=fun _=>[]
theorem zwQ (x0 x1:AV) (H:List Ob) (r:AV) (Ho:List Ob):aBody Tryz.prog zn7 Tryz.f223 H [x0,x1] r Ho=zpl x0 x1 H (fun v H'=>Gives H.length v H' r Ho):=by kernel_rfl
theorem zwR {x0 x1:AV} {r:AV} {Ho:List Ob} (h:zpl x0 x1 [] (fun v H'=>Gives 0 v H' r Ho)):Abs.Fn Tryz.prog ziR [] [x0,x1] r Ho :=
 zh mixed zn7 (fn:=Tryz.f223) (by kernel_rfl) (by kernel_rfl) (by rw [zwQ]; exact h)
def zpm (x0 x1:AV) (H:List Ob) (K:AV→List Ob→Prop):Prop :=
 aBox x0 H fun v0 h1 =>
 aBox x1 h1 fun v2 h3 =>
 zy [(.p (.int .i64 0)),(.p (.int .i64 0)),(.p (.bool false)),(.p (.str [])),(.full [])] h3 fun v4 h5 =>
 aLoad true 5 v0 h5 fun v6 =>
 aLoad true 5 v2 h5 fun v7 =>
 aCall Tryz.prog (.p (.func zgZ [])) [v6,v7] h5 fun v8 h9 =>
 aCall Tryz.prog (.p (.func zlb [])) [v8] h9 fun v10 h11 =>
 zi 5 v4 v10 h11 fun _ h13 =>
 aLoad true 5 v4 h13 fun v14 =>
 K (.tup [v14,(.p (.int .i64 0))]) h13
def zn8:Nat→List Nat:=fun _=>[]
theorem zwS (x0 x1:AV) (H:List Ob) (r:AV) (Ho:List Ob):aBody Tryz.prog zn8 Tryz.f224 H [x0,x1] r Ho=zpm x0 x1 H (fun v H'=>Gives H.length v H' r Ho):=by kernel_rfl
theorem zwT {x0 x1:AV} {r:AV} {Ho:List Ob} (h:zpm x0 x1 [] (fun v H'=>Gives 0 v H' r Ho)):Abs.Fn Tryz.prog zgd [] [x0,x1] r Ho :=
 zh mixed zn8 (fn:=Tryz.f224) (by kernel_rfl) (by kernel_rfl) (by rw [zwS]; exact h)
def zpn (x0 x1:AV) (H:List Ob) (K:AV→List Ob→Prop):Prop :=
 aBox x0 H fun v0 h1 =>
 aBox x1 h1 fun v2 h3 =>
 zy [(.p (.int .i64 0)),(.p (.int .i64 0)),(.p (.bool false)),(.p (.str [])),(.full [])] h3 fun v4 h5 =>
 aLoad true 5 v0 h5 fun v6 =>
 aLoad true 5 v2 h5 fun v7 =>
 aCall Tryz.prog (.p (.func zbe [])) [v6,v7] h5 fun v8 h9 =>
 aBin false false .lss v8 (.p (.int .i64 0)) fun v10 =>
 aCall Tryz.prog (.p (.func zlb [])) [v10] h9 fun v11 h12 =>
 zi 5 v4 v11 h12 fun _ h14 =>
 aLoad true 5 v4 h14 fun v15 =>
 K (.tup [v15,(.p (.int .i64 0))]) h14
def zn9:Nat→List Nat:=fun _=>[]
theorem zwU (x0 x1:AV) (H:List Ob) (r:AV) (Ho:List Ob):aBody Tryz.prog zn9 Tryz.f225 H [x0,x1] r Ho=zpn x0 x1 H (fun v H'=>Gives H.length v H' r Ho):=by kernel_rfl
theorem zwV {x0 x1:AV} {r:AV} {Ho:List Ob} (h:zpn x0 x1 [] (fun v H'=>Gives 0 v H' r Ho)):Abs.Fn Tryz.prog zge [] [x0,x1] r Ho :=
 zh mixed zn9 (fn:=Tryz.f225) (by kernel_rfl) (by kernel_rfl) (by rw [zwU]; exact h)
def zwx (x0 x1:AV) (H:List Ob) (K:AV→List Ob→Prop):Prop :=
 aBox x0 H fun v0 h1 =>
 aBox x1 h1 fun v2 h3 =>
 zy [(.p (.int .i64 0)),(.p (.int .i64 0)),(.p (.bool false)),(.p (.str [])),(.full [])] h3 fun v4 h5 =>
 za 3 v0 fun v6 =>
 aLoad false 1 v6 h5 fun v7 =>
 aLen false true v7 fun v8 =>
 za 3 v2 fun v9 =>
 aLoad false 1 v9 h5 fun v10 =>
 aLen false true v10 fun v11 =>
 aBin false false .add v8 v11 fun v12 =>
 aBin false false .gtr v12 (.p (.int .i64 255)) fun v13 =>
 ze v13
 (zp [(.p (.int .i64 0)),(.p (.int .i64 0)),(.p (.bool false)),(.p (.str [])),(.full [])] [] fun v14 =>
 zi 5 v4 v14 h5 fun _ h16 =>
 aLoad true 5 v4 h16 fun v17 =>
 K (.tup [v17,(.p (.int .i64 4))]) h16)
 (za 3 v0 fun v18 =>
 aLoad false 1 v18 h5 fun v19 =>
 za 3 v2 fun v20 =>
 aLoad false 1 v20 h5 fun v21 =>
 aBin false false .add v19 v21 fun v22 =>
 aCall Tryz.prog (.p (.func zuy [])) [v22] h5 fun v23 h24 =>
 zi 5 v4 v23 h24 fun _ h26 =>
 aLoad true 5 v4 h26 fun v27 =>
 K (.tup [v27,(.p (.int .i64 0))]) h26)
def zsM:Nat→List Nat:=fun _=>[]
theorem zBi (x0 x1:AV) (H:List Ob) (r:AV) (Ho:List Ob):aBody Tryz.prog zsM Tryz.f226 H [x0,x1] r Ho=zwx x0 x1 H (fun v H'=>Gives H.length v H' r Ho):=by kernel_rfl
theorem zBj {x0 x1:AV} {r:AV} {Ho:List Ob} (h:zwx x0 x1 [] (fun v H'=>Gives 0 v H' r Ho)):Abs.Fn Tryz.prog zkB [] [x0,x1] r Ho :=
 zh mixed zsM (fn:=Tryz.f226) (by kernel_rfl) (by kernel_rfl) (by rw [zBi]; exact h)
def zlU (x0 x1 x2:AV) (H:List Ob) (K:AV→List Ob→Prop):Prop :=
 aBox x0 H fun v0 h1 =>
 aBox x1 h1 fun v2 h3 =>
 zy [(.p (.int .i64 0)),(.p (.int .i64 0)),(.p (.bool false)),(.p (.str [])),(.full [])] h3 fun v4 h5 =>
 aLoad false 1 x2 h5 fun v6 =>
 za 1 v0 fun v7 =>
 aLoad false 1 v7 h5 fun v8 =>
 za 1 v2 fun v9 =>
 aLoad false 1 v9 h5 fun v10 =>
 aCall Tryz.prog v6 [v8,v10] h5 fun v11 h12 =>
 aCall Tryz.prog (.p (.func zcY [])) [v11] h12 fun v13 h14 =>
 zi 5 v4 v13 h14 fun _ h16 =>
 aLoad true 5 v4 h16 fun v17 =>
 K (.tup [v17,(.p (.int .i64 0))]) h16
def zll:Nat→List Nat:=fun _=>[]
theorem ztS (x0 x1 x2:AV) (H:List Ob) (r:AV) (Ho:List Ob):aBody Tryz.prog zll Tryz.f251 H [x0,x1,x2] r Ho=zlU x0 x1 x2 H (fun v H'=>Gives H.length v H' r Ho):=by kernel_rfl
theorem ztT {x0 x1 x2:AV} {r:AV} {Ho:List Ob} (h:zlU x0 x1 x2 [] (fun v H'=>Gives 0 v H' r Ho)):Abs.Fn Tryz.prog zcf [] [x0,x1,x2] r Ho :=
 zh mixed zll (fn:=Tryz.f251) (by kernel_rfl) (by kernel_rfl) (by rw [ztS]; exact h)
def zkC (x0 x1 x2:AV) (H:List Ob) (K:AV→List Ob→Prop):Prop :=
 aBox x0 H fun v0 h1 =>
 aBox x1 h1 fun v2 h3 =>
 zy [(.p (.int .i64 0)),(.p (.int .i64 0)),(.p (.bool false)),(.p (.str [])),(.full [])] h3 fun v4 h5 =>
 za 1 v2 fun v6 =>
 aLoad false 1 v6 h5 fun v7 =>
 aBin false false .eql v7 (.p (.int .i64 0)) fun v8 =>
 ze v8
 (zp [(.p (.int .i64 0)),(.p (.int .i64 0)),(.p (.bool false)),(.p (.str [])),(.full [])] [] fun v9 =>
 zi 5 v4 v9 h5 fun _ h11 =>
 aLoad true 5 v4 h11 fun v12 =>
 K (.tup [v12,(.p (.int .i64 8))]) h11)
 (aLoad false 1 x2 h5 fun v13 =>
 za 1 v0 fun v14 =>
 aLoad false 1 v14 h5 fun v15 =>
 za 1 v2 fun v16 =>
 aLoad false 1 v16 h5 fun v17 =>
 aCall Tryz.prog v13 [v15,v17] h5 fun v18 h19 =>
 aCall Tryz.prog (.p (.func zcY [])) [v18] h19 fun v20 h21 =>
 zi 5 v4 v20 h21 fun _ h23 =>
 aLoad true 5 v4 h23 fun v24 =>
 K (.tup [v24,(.p (.int .i64 0))]) h23)
def zkD:Nat→List Nat:=fun _=>[]
theorem zsN (x0 x1 x2:AV) (H:List Ob) (r:AV) (Ho:List Ob):aBody Tryz.prog zkD Tryz.f252 H [x0,x1,x2] r Ho=zkC x0 x1 x2 H (fun v H'=>Gives H.length v H' r Ho):=by kernel_rfl
theorem zsO {x0 x1 x2:AV} {r:AV} {Ho:List Ob} (h:zkC x0 x1 x2 [] (fun v H'=>Gives 0 v H' r Ho)):Abs.Fn Tryz.prog zcz [] [x0,x1,x2] r Ho :=
 zh mixed zkD (fn:=Tryz.f252) (by kernel_rfl) (by kernel_rfl) (by rw [zsN]; exact h)
end Go.Proofs.YtdmgbhamigegfaaGreatDoor
end

section
/- Made by program (Gen.lean): functions of the dump, over trees. -/
set_option maxRecDepth 4000
set_option linter.unusedVariables false
namespace Go.Proofs.YtdmgbhamigegfaaGreatDoor
open Go Go.Abs
def zlz (q1s1 y0:AV) (H:List Ob) (B1:List AV→List Ob→Prop) (K:AV→List Ob→Prop):Prop :=
 za 4 q1s1 fun v26 =>
 aLoad false 1 v26 H fun v27 =>
 aLen false false v27 fun v28 =>
 aBin false false .lss y0 v28 fun v29 =>
 ze v29
 (za 4 q1s1 fun v30 =>
 aLoad false 1 v30 H fun v31 =>
 zb 8 v31 y0 fun v32 =>
 aLoad true 8 v32 H fun v33 =>
 aCall Tryz.prog (.p (.func zfw [])) [v33] H fun v34 h35 =>
 aUn .not v34 fun v36 =>
 ze v36
 (K (.p (.bool false)) h35)
 (aBin false false .add y0 (.p (.int .i64 1)) fun v37 =>
 B1 [v37] h35))
 (K (.p (.bool true)) H)
def zk0 (x0:AV) (H:List Ob) (K:AV→List Ob→Prop):Prop :=
 aBox x0 H fun v0 h1 =>
 za 1 v0 fun v2 =>
 aLoad false 1 v2 h1 fun v3 =>
 aLen false true v3 fun v4 =>
 aBin false false .gtr v4 (.p (.int .i64 50)) fun v5 =>
 zm false v5 (fun Q6 =>
 za 2 v0 fun v7 =>
 aLoad true 2 v7 h1 fun v8 =>
 aCall Tryz.prog (.p (.func zit [])) [v8] h1 fun v9 h10 =>
 aUn .not v9 fun v11 =>
 (h10=h1∧Q6 v11)) fun v12 =>
 zm false v12 (fun Q13 =>
 za 4 v0 fun v14 =>
 aLoad false 1 v14 h1 fun v15 =>
 aLenS false v15 fun v16 =>
 aBin false false .gtr v16 (.p (.int .i64 8)) fun v17 =>
 (h1=h1∧Q13 v17)) fun v18 =>
 zm false v18 (fun Q19 =>
 za 5 v0 fun v20 =>
 aLoad true 8 v20 h1 fun v21 =>
 aCall Tryz.prog (.p (.func zfw [])) [v21] h1 fun v22 h23 =>
 aUn .not v22 fun v24 =>
 (h23=h1∧Q19 v24)) fun v25 =>
 ze v25
 (K (.p (.bool false)) h1)
 (zD 1 [(.p (.int .i64 0))] h1 fun xs H B1=>zlz v0 (xs.getD 0 Z) H B1 K)
def zk1:Nat→List Nat:=fun k=>match k with | 4=>[3] | _=>[]
theorem ztq (x0:AV) (H:List Ob) (r:AV) (Ho:List Ob):aBody Tryz.prog zk1 Tryz.f44 H [x0] r Ho=zk0 x0 H (fun v H'=>Gives H.length v H' r Ho):=by kernel_rfl
theorem ztr {x0:AV} {r:AV} {Ho:List Ob} (h:zk0 x0 [] (fun v H'=>Gives 0 v H' r Ho)):Abs.Fn Tryz.prog zix [] [x0] r Ho :=
 zh mixed zk1 (fn:=Tryz.f44) (by kernel_rfl) (by kernel_rfl) (by rw [ztq]; exact h)
def zmK (q1s1 q1s2 q1s3 y0:AV) (H:List Ob) (B1:List AV→List Ob→Prop) (K:AV→List Ob→Prop):Prop :=
 za 4 q1s1 fun v23 =>
 aLoad false 1 v23 H fun v24 =>
 aLen false false v24 fun v25 =>
 aBin false false .lss y0 v25 fun v26 =>
 ze v26
 (za 4 q1s3 fun v27 =>
 aLoad false 1 v27 H fun v28 =>
 za 4 q1s1 fun v29 =>
 aLoad false 1 v29 H fun v30 =>
 zb 8 v30 y0 fun v31 =>
 aLoad true 8 v31 H fun v32 =>
 zJ Tryz.prog (.p (.func zea [])) [v32] fun v33 =>
 zk 8 [v33] fun v34 =>
 aCalm [v28,v34] <|
 zH false 8 112 v28 v34 H fun v35 h36 =>
 za 4 q1s3 fun v37 =>
 zi 1 v37 v35 h36 fun _ h39 =>
 aBin false false .add y0 (.p (.int .i64 1)) fun v40 =>
 B1 [v40] h39)
 (aLoad true 15 q1s3 H fun v41 =>
 zi 15 q1s2 v41 H fun _ h43 =>
 aLoad true 15 q1s2 h43 fun v44 =>
 K v44 h43)
def zl5 (x0:AV) (H:List Ob) (K:AV→List Ob→Prop):Prop :=
 aBox x0 H fun v0 h1 =>
 zy [(.p (.int .i64 0)),(.p (.str [])),(.p (.int .i64 0)),(.full []),(.full []),(.p (.str [])),(.p (.int .i64 0)),(.p (.int .i64 0)),(.p (.bool false)),(.p (.str [])),(.full []),(.p (.int .i64 0)),(.full []),(.p (.int .i64 0)),(.p (.int .i64 0))] h1 fun v2 h3 =>
 zy [(.p (.int .i64 0)),(.p (.str [])),(.p (.int .i64 0)),(.full []),(.full []),(.p (.str [])),(.p (.int .i64 0)),(.p (.int .i64 0)),(.p (.bool false)),(.p (.str [])),(.full []),(.p (.int .i64 0)),(.full []),(.p (.int .i64 0)),(.p (.int .i64 0))] h3 fun v4 h5 =>
 za 0 v0 fun v6 =>
 aLoad false 1 v6 h5 fun v7 =>
 za 1 v0 fun v8 =>
 aLoad false 1 v8 h5 fun v9 =>
 za 2 v0 fun v10 =>
 aLoad true 2 v10 h5 fun v11 =>
 zJ Tryz.prog (.p (.func zgy [])) [v11] fun v12 =>
 za 5 v0 fun v13 =>
 aLoad true 8 v13 h5 fun v14 =>
 zJ Tryz.prog (.p (.func zea [])) [v14] fun v15 =>
 za 13 v0 fun v16 =>
 aLoad false 1 v16 h5 fun v17 =>
 za 14 v0 fun v18 =>
 aLoad false 1 v18 h5 fun v19 =>
 zp [(.p (.int .i64 0)),(.p (.str [])),(.p (.int .i64 0)),(.full []),(.full []),(.p (.str [])),(.p (.int .i64 0)),(.p (.int .i64 0)),(.p (.bool false)),(.p (.str [])),(.full []),(.p (.int .i64 0)),(.full []),(.p (.int .i64 0)),(.p (.int .i64 0))] [(0,1,v7),(1,1,v9),(2,2,v12),(5,8,v15),(13,1,v17),(14,1,v19)] fun v20 =>
 zi 15 v4 v20 h5 fun _ h22 =>
 zD 1 [(.p (.int .i64 0))] h22 fun xs H B1=>zmK v0 v2 v4 (xs.getD 0 Z) H B1 K
def zlA:Nat→List Nat:=fun k=>match k with | 3=>[4] | _=>[]
theorem zuo (x0:AV) (H:List Ob) (r:AV) (Ho:List Ob):aBody Tryz.prog zlA Tryz.f46 H [x0] r Ho=zl5 x0 H (fun v H'=>Gives H.length v H' r Ho):=by kernel_rfl
theorem zup {x0:AV} {r:AV} {Ho:List Ob} (h:zl5 x0 [] (fun v H'=>Gives 0 v H' r Ho)):Abs.Fn Tryz.prog zjB [] [x0] r Ho :=
 zh mixed zlA (fn:=Tryz.f46) (by kernel_rfl) (by kernel_rfl) (by rw [zuo]; exact h)
def zxs (x0:AV) (H:List Ob) (K:AV→List Ob→Prop):Prop :=
 aBox x0 H fun v0 h1 =>
 zy [(.p (.bool false)),(.p (.bool false)),(.p (.bool false)),(.p (.int .i64 0)),(.p (.int .i64 0)),(.p (.int .i64 0)),(.p (.int .i64 0)),(.p (.int .i64 0)),(.p (.int .i64 0)),(.p (.int .i64 0)),(.p (.int .i64 0))] h1 fun v2 h3 =>
 zJ Tryz.prog (.p (.func zlu [])) [] fun v4 =>
 za 0 v0 fun v5 =>
 aLoad false 1 v5 h3 fun v6 =>
 zJ Tryz.prog (.p (.func zft [])) [v4,v6] fun v7 =>
 zB v7 0 fun v8 =>
 zB v7 1 fun _ =>
 zi 11 v2 v8 h3 fun _ h11 =>
 za 2 v2 fun v12 =>
 aLoad false 1 v12 h11 fun v13 =>
 K v13 h11
def zta:Nat→List Nat:=fun _=>[]
theorem zBH (x0:AV) (H:List Ob) (r:AV) (Ho:List Ob):aBody Tryz.prog zta Tryz.f70 H [x0] r Ho=zxs x0 H (fun v H'=>Gives H.length v H' r Ho):=by kernel_rfl
theorem zBI {x0:AV} {r:AV} {Ho:List Ob} (h:zxs x0 [] (fun v H'=>Gives 0 v H' r Ho)):Abs.Fn Tryz.prog zr7 [] [x0] r Ho :=
 zh mixed zta (fn:=Tryz.f70) (by kernel_rfl) (by kernel_rfl) (by rw [zBH]; exact h)
def zlt (q1s1 q1s4 q1s9 q1s10 y0:AV) (H:List Ob) (B1:List AV→List Ob→Prop) (K:AV→List Ob→Prop):Prop :=
 aBin false false .lss y0 q1s10 fun v3 =>
 ze v3
 (zb 12 q1s9 y0 fun v4 =>
 aLoad true 12 v4 H fun v5 =>
 zy [(.p (.int .i64 0)),(.p (.bool false)),(.p (.bool false)),(.p (.bool false)),(.p (.int .i64 0)),(.p (.int .i64 0)),(.p (.int .i64 0)),(.p (.int .i64 0)),(.p (.int .i64 0)),(.p (.int .i64 0)),(.p (.int .i64 0)),(.p (.int .i64 0))] H fun v6 h7 =>
 zi 12 v6 v5 h7 fun _ h9 =>
 za 0 v6 fun v10 =>
 aLoad false 1 v10 h9 fun v11 =>
 aBin false false .eql v11 q1s1 fun v12 =>
 ze v12
 (za 1 v6 fun v13 =>
 aLoad true 11 v13 h9 fun v14 =>
 zi 11 q1s4 v14 h9 fun _ h16 =>
 aLoad true 11 q1s4 h16 fun v17 =>
 K (.tup [v17,(.p (.bool true))]) h16)
 (aBin false false .add y0 (.p (.int .i64 1)) fun v18 =>
 B1 [v18] h9))
 (zy [(.p (.bool false)),(.p (.bool false)),(.p (.bool false)),(.p (.int .i64 0)),(.p (.int .i64 0)),(.p (.int .i64 0)),(.p (.int .i64 0)),(.p (.int .i64 0)),(.p (.int .i64 0)),(.p (.int .i64 0)),(.p (.int .i64 0))] H fun v19 h20 =>
 aLoad true 11 v19 h20 fun v21 =>
 zi 11 q1s4 v21 h20 fun _ h23 =>
 aLoad true 11 q1s4 h23 fun v24 =>
 K (.tup [v24,(.p (.bool false))]) h23)
def zkM (x0 x1:AV) (H:List Ob) (K:AV→List Ob→Prop):Prop :=
 zy [(.p (.bool false)),(.p (.bool false)),(.p (.bool false)),(.p (.int .i64 0)),(.p (.int .i64 0)),(.p (.int .i64 0)),(.p (.int .i64 0)),(.p (.int .i64 0)),(.p (.int .i64 0)),(.p (.int .i64 0)),(.p (.int .i64 0))] H fun v0 h1 =>
 aLen false false x0 fun v2 =>
 zD 1 [(.p (.int .i64 0))] h1 fun xs H B1=>zlt x1 v0 x0 v2 (xs.getD 0 Z) H B1 K
def zkN:Nat→List Nat:=fun k=>match k with | 2=>[11] | _=>[]
theorem ztd (x0 x1:AV) (H:List Ob) (r:AV) (Ho:List Ob):aBody Tryz.prog zkN Tryz.f106 H [x0,x1] r Ho=zkM x0 x1 H (fun v H'=>Gives H.length v H' r Ho):=by kernel_rfl
theorem zte {x0 x1:AV} {r:AV} {Ho:List Ob} (h:zkM x0 x1 [] (fun v H'=>Gives 0 v H' r Ho)):Abs.Fn Tryz.prog zft [] [x0,x1] r Ho :=
 zh mixed zkN (fn:=Tryz.f106) (by kernel_rfl) (by kernel_rfl) (by rw [ztd]; exact h)
def zuc (H:List Ob) (K:AV→List Ob→Prop):Prop :=
 zp [(.p (.int .i64 0)),(.p (.int .i64 0))] [(0,1,(.p (.int .i64 1))),(1,1,(.p (.int .i64 1)))] fun v0 =>
 zy [(.p (.int .i64 0)),(.p (.int .i64 0))] H fun v1 h2 =>
 zi 2 v1 v0 h2 fun _ h4 =>
 zp [(.p (.bool false)),(.p (.bool false)),(.p (.bool false)),(.p (.int .i64 0)),(.p (.int .i64 0)),(.p (.int .i64 0)),(.p (.int .i64 0)),(.p (.int .i64 0)),(.p (.int .i64 0)),(.p (.int .i64 0)),(.p (.int .i64 0))] [(0,1,(.p (.bool true))),(1,1,(.p (.bool true)))] fun v5 =>
 zp [(.p (.int .i64 0)),(.p (.bool false)),(.p (.bool false)),(.p (.bool false)),(.p (.int .i64 0)),(.p (.int .i64 0)),(.p (.int .i64 0)),(.p (.int .i64 0)),(.p (.int .i64 0)),(.p (.int .i64 0)),(.p (.int .i64 0)),(.p (.int .i64 0))] [(0,1,(.p (.int .i64 1))),(1,11,v5)] fun v6 =>
 aLoad true 2 v1 h4 fun v7 =>
 aLoad true 2 v1 h4 fun v8 =>
 zp [(.p (.bool false)),(.p (.bool false)),(.p (.bool false)),(.p (.int .i64 0)),(.p (.int .i64 0)),(.p (.int .i64 0)),(.p (.int .i64 0)),(.p (.int .i64 0)),(.p (.int .i64 0)),(.p (.int .i64 0)),(.p (.int .i64 0))] [(3,2,v7),(5,2,v8)] fun v9 =>
 zp [(.p (.int .i64 0)),(.p (.bool false)),(.p (.bool false)),(.p (.bool false)),(.p (.int .i64 0)),(.p (.int .i64 0)),(.p (.int .i64 0)),(.p (.int .i64 0)),(.p (.int .i64 0)),(.p (.int .i64 0)),(.p (.int .i64 0)),(.p (.int .i64 0))] [(0,1,(.p (.int .i64 2))),(1,11,v9)] fun v10 =>
 aLoad true 2 v1 h4 fun v11 =>
 aLoad true 2 v1 h4 fun v12 =>
 zp [(.p (.bool false)),(.p (.bool false)),(.p (.bool false)),(.p (.int .i64 0)),(.p (.int .i64 0)),(.p (.int .i64 0)),(.p (.int .i64 0)),(.p (.int .i64 0)),(.p (.int .i64 0)),(.p (.int .i64 0)),(.p (.int .i64 0))] [(3,2,v11),(5,2,v12)] fun v13 =>
 zp [(.p (.int .i64 0)),(.p (.bool false)),(.p (.bool false)),(.p (.bool false)),(.p (.int .i64 0)),(.p (.int .i64 0)),(.p (.int .i64 0)),(.p (.int .i64 0)),(.p (.int .i64 0)),(.p (.int .i64 0)),(.p (.int .i64 0)),(.p (.int .i64 0))] [(0,1,(.p (.int .i64 3))),(1,11,v13)] fun v14 =>
 zp [(.p (.int .i64 0)),(.p (.int .i64 0))] [(0,1,(.p (.int .i64 1))),(1,1,(.p (.int .i64 4)))] fun v15 =>
 aLoad true 2 v1 h4 fun v16 =>
 zp [(.p (.bool false)),(.p (.bool false)),(.p (.bool false)),(.p (.int .i64 0)),(.p (.int .i64 0)),(.p (.int .i64 0)),(.p (.int .i64 0)),(.p (.int .i64 0)),(.p (.int .i64 0)),(.p (.int .i64 0)),(.p (.int .i64 0))] [(3,2,v15),(5,2,v16)] fun v17 =>
 zp [(.p (.int .i64 0)),(.p (.bool false)),(.p (.bool false)),(.p (.bool false)),(.p (.int .i64 0)),(.p (.int .i64 0)),(.p (.int .i64 0)),(.p (.int .i64 0)),(.p (.int .i64 0)),(.p (.int .i64 0)),(.p (.int .i64 0)),(.p (.int .i64 0))] [(0,1,(.p (.int .i64 4))),(1,11,v17)] fun v18 =>
 aLoad true 2 v1 h4 fun v19 =>
 aLoad true 2 v1 h4 fun v20 =>
 zp [(.p (.int .i64 0)),(.p (.int .i64 0))] [(0,1,(.p (.int .i64 1))),(1,1,(.p (.int .i64 4)))] fun v21 =>
 zp [(.p (.bool false)),(.p (.bool false)),(.p (.bool false)),(.p (.int .i64 0)),(.p (.int .i64 0)),(.p (.int .i64 0)),(.p (.int .i64 0)),(.p (.int .i64 0)),(.p (.int .i64 0)),(.p (.int .i64 0)),(.p (.int .i64 0))] [(2,1,(.p (.bool true))),(3,2,v19),(5,2,v20),(7,2,v21)] fun v22 =>
 zp [(.p (.int .i64 0)),(.p (.bool false)),(.p (.bool false)),(.p (.bool false)),(.p (.int .i64 0)),(.p (.int .i64 0)),(.p (.int .i64 0)),(.p (.int .i64 0)),(.p (.int .i64 0)),(.p (.int .i64 0)),(.p (.int .i64 0)),(.p (.int .i64 0))] [(0,1,(.p (.int .i64 5))),(1,11,v22)] fun v23 =>
 aLoad true 2 v1 h4 fun v24 =>
 zp [(.p (.int .i64 0)),(.p (.int .i64 0))] [(0,1,(.p (.int .i64 1))),(1,1,(.p (.int .i64 1000)))] fun v25 =>
 zp [(.p (.bool false)),(.p (.bool false)),(.p (.bool false)),(.p (.int .i64 0)),(.p (.int .i64 0)),(.p (.int .i64 0)),(.p (.int .i64 0)),(.p (.int .i64 0)),(.p (.int .i64 0)),(.p (.int .i64 0)),(.p (.int .i64 0))] [(2,1,(.p (.bool true))),(5,2,v24),(9,2,v25)] fun v26 =>
 zp [(.p (.int .i64 0)),(.p (.bool false)),(.p (.bool false)),(.p (.bool false)),(.p (.int .i64 0)),(.p (.int .i64 0)),(.p (.int .i64 0)),(.p (.int .i64 0)),(.p (.int .i64 0)),(.p (.int .i64 0)),(.p (.int .i64 0)),(.p (.int .i64 0))] [(0,1,(.p (.int .i64 6))),(1,11,v26)] fun v27 =>
 aLoad true 2 v1 h4 fun v28 =>
 zp [(.p (.bool false)),(.p (.bool false)),(.p (.bool false)),(.p (.int .i64 0)),(.p (.int .i64 0)),(.p (.int .i64 0)),(.p (.int .i64 0)),(.p (.int .i64 0)),(.p (.int .i64 0)),(.p (.int .i64 0)),(.p (.int .i64 0))] [(2,1,(.p (.bool true))),(5,2,v28)] fun v29 =>
 zp [(.p (.int .i64 0)),(.p (.bool false)),(.p (.bool false)),(.p (.bool false)),(.p (.int .i64 0)),(.p (.int .i64 0)),(.p (.int .i64 0)),(.p (.int .i64 0)),(.p (.int .i64 0)),(.p (.int .i64 0)),(.p (.int .i64 0)),(.p (.int .i64 0))] [(0,1,(.p (.int .i64 7))),(1,11,v29)] fun v30 =>
 zp [(.p (.int .i64 0)),(.p (.int .i64 0))] [(0,1,(.p (.int .i64 2))),(1,1,(.p (.int .i64 4)))] fun v31 =>
 zp [(.p (.bool false)),(.p (.bool false)),(.p (.bool false)),(.p (.int .i64 0)),(.p (.int .i64 0)),(.p (.int .i64 0)),(.p (.int .i64 0)),(.p (.int .i64 0)),(.p (.int .i64 0)),(.p (.int .i64 0)),(.p (.int .i64 0))] [(5,2,v31)] fun v32 =>
 zp [(.p (.int .i64 0)),(.p (.bool false)),(.p (.bool false)),(.p (.bool false)),(.p (.int .i64 0)),(.p (.int .i64 0)),(.p (.int .i64 0)),(.p (.int .i64 0)),(.p (.int .i64 0)),(.p (.int .i64 0)),(.p (.int .i64 0)),(.p (.int .i64 0))] [(0,1,(.p (.int .i64 8))),(1,11,v32)] fun v33 =>
 aLoad true 2 v1 h4 fun v34 =>
 zp [(.p (.bool false)),(.p (.bool false)),(.p (.bool false)),(.p (.int .i64 0)),(.p (.int .i64 0)),(.p (.int .i64 0)),(.p (.int .i64 0)),(.p (.int .i64 0)),(.p (.int .i64 0)),(.p (.int .i64 0)),(.p (.int .i64 0))] [(0,1,(.p (.bool true))),(5,2,v34)] fun v35 =>
 zp [(.p (.int .i64 0)),(.p (.bool false)),(.p (.bool false)),(.p (.bool false)),(.p (.int .i64 0)),(.p (.int .i64 0)),(.p (.int .i64 0)),(.p (.int .i64 0)),(.p (.int .i64 0)),(.p (.int .i64 0)),(.p (.int .i64 0)),(.p (.int .i64 0))] [(0,1,(.p (.int .i64 9))),(1,11,v35)] fun v36 =>
 zk 12 [v6,v10,v14,v18,v23,v27,v30,v33,v36] fun v37 =>
 K v37 h4
def zrs:Nat→List Nat:=fun _=>[]
theorem zz6 (H:List Ob) (r:AV) (Ho:List Ob):aBody Tryz.prog zrs Tryz.f107 H [] r Ho=zuc H (fun v H'=>Gives H.length v H' r Ho):=by kernel_rfl
theorem zz7 {r:AV} {Ho:List Ob} (h:zuc [] (fun v H'=>Gives 0 v H' r Ho)):Abs.Fn Tryz.prog zlu [] [] r Ho :=
 zh mixed zrs (fn:=Tryz.f107) (by kernel_rfl) (by kernel_rfl) (by rw [zz6]; exact h)
def zu1 (q1s2 q1s3 q1s20 q1s21 y0 y1:AV) (H:List Ob) (B1:List AV→List Ob→Prop) (K:AV→List Ob→Prop):Prop :=
 aBin false false .lss y1 q1s21 fun v16 =>
 ze v16
 (zb 8 q1s20 y1 fun v17 =>
 aLoad true 8 v17 H fun v18 =>
 zy [(.p (.str [])),(.p (.int .i64 0)),(.p (.int .i64 0)),(.p (.bool false)),(.p (.str [])),(.full []),(.p (.int .i64 0)),(.full [])] H fun v19 h20 =>
 zi 8 v19 v18 h20 fun _ h22 =>
 aLoad true 8 v19 h22 fun v23 =>
 aLoad true 5 q1s3 h22 fun v24 =>
 aCall Tryz.prog (.p (.func zg5 [])) [v23,v24] h22 fun v25 h26 =>
 zB v25 0 fun v27 =>
 zB v25 1 fun v28 =>
 zy [(.p (.int .i64 0)),(.p (.int .i64 0)),(.p (.bool false)),(.p (.str [])),(.full [])] h26 fun v29 h30 =>
 zi 5 v29 v27 h30 fun _ h32 =>
 aBin false false .neq v28 (.p (.int .i64 0)) fun v33 =>
 ze v33
 (K (.tup [(.full []),v28]) h32)
 (aLoad true 5 v29 h32 fun v34 =>
 zk 5 [v34] fun v35 =>
 zH false 5 64 y0 v35 h32 fun v36 h37 =>
 aBin false false .add y1 (.p (.int .i64 1)) fun v38 =>
 B1 [v36,v38] h37))
 (za 0 q1s2 fun v39 =>
 aLoad false 1 v39 H fun v40 =>
 aBin false false .eql v40 (.p (.int .i64 3)) fun v41 =>
 ze v41
 (zb 5 y0 (.p (.int .i64 0)) fun v42 =>
 za 2 v42 fun v43 =>
 aLoad false 1 v43 H fun v44 =>
 aUn .not v44 fun v45 =>
 ze v45
 (K (.tup [(.full []),(.p (.int .i64 0))]) H)
 (aLoad true 5 q1s3 H fun v46 =>
 zk 5 [v46] fun v47 =>
 K (.tup [v47,(.p (.int .i64 0))]) H))
 (K (.tup [y0,(.p (.int .i64 0))]) H))
def zxr (x0 x1:AV) (H:List Ob) (K:AV→List Ob→Prop):Prop :=
 aBox x0 H fun v0 h1 =>
 aBox x1 h1 fun v2 h3 =>
 za 0 v0 fun v4 =>
 aLoad false 1 v4 h3 fun v5 =>
 aBin false false .eql v5 (.p (.int .i64 2)) fun v6 =>
 zm false v6 (fun Q7 =>
 aBin false false .eql v5 (.p (.int .i64 3)) fun v8 =>
 zm false v8 (fun Q9 =>
 aBin false false .eql v5 (.p (.int .i64 4)) fun v10 =>
 (h3=h3∧Q9 v10)) fun v11 =>
 (h3=h3∧Q7 v11)) fun v12 =>
 ze v12
 (za 4 v0 fun v13 =>
 aLoad false 1 v13 h3 fun v14 =>
 aLen false false v14 fun v15 =>
 zD 2 [(.full []),(.p (.int .i64 0))] h3 fun xs H B1=>zu1 v0 v2 v14 v15 (xs.getD 0 Z) (xs.getD 1 Z) H B1 K)
 (aLoad true 5 v2 h3 fun v48 =>
 zk 5 [v48] fun v49 =>
 K (.tup [v49,(.p (.int .i64 0))]) h3)
def zs9:Nat→List Nat:=fun k=>match k with | 8=>[6,22] | 1000005=>[1] | 1000004=>[1] | _=>[]
theorem zBF (x0 x1:AV) (H:List Ob) (r:AV) (Ho:List Ob):aBody Tryz.prog zs9 Tryz.f114 H [x0,x1] r Ho=zxr x0 x1 H (fun v H'=>Gives H.length v H' r Ho):=by kernel_rfl
theorem zBG {x0 x1:AV} {r:AV} {Ho:List Ob} (h:zxr x0 x1 [] (fun v H'=>Gives 0 v H' r Ho)):Abs.Fn Tryz.prog zr6 [] [x0,x1] r Ho :=
 zh mixed zs9 (fn:=Tryz.f114) (by kernel_rfl) (by kernel_rfl) (by rw [zBF]; exact h)
def zxt (q1s0 q1s6 q1s7 y0:AV) (H:List Ob) (B1:List AV→List Ob→Prop) (K:AV→List Ob→Prop):Prop :=
 aBin false false .lss y0 q1s7 fun v2 =>
 ze v2
 (zb 1 q1s6 y0 fun v3 =>
 aLoad false 1 v3 H fun v4 =>
 aBin false false .geq v4 (.p (.int .u8 97)) fun v5 =>
 zm true v5 (fun Q6 =>
 aBin false false .leq v4 (.p (.int .u8 122)) fun v7 =>
 (H=H∧Q6 v7)) fun v8 =>
 zm false v8 (fun Q9 =>
 aBin false false .gtr y0 (.p (.int .i64 0)) fun v10 =>
 zm true v10 (fun Q11 =>
 aBin false false .geq v4 (.p (.int .u8 48)) fun v12 =>
 zm true v12 (fun Q13 =>
 aBin false false .leq v4 (.p (.int .u8 57)) fun v14 =>
 (H=H∧Q13 v14)) fun v15 =>
 zm false v15 (fun Q16 =>
 aBin false false .eql v4 (.p (.int .u8 95)) fun v17 =>
 (H=H∧Q16 v17)) fun v18 =>
 (H=H∧Q11 v18)) fun v19 =>
 (H=H∧Q9 v19)) fun v20 =>
 aUn .not v20 fun v21 =>
 ze v21
 (K (.p (.bool false)) H)
 (aBin false false .add y0 (.p (.int .i64 1)) fun v22 =>
 B1 [v22] H))
 (aBin false false .neq q1s0 (.p (.str [])) fun v23 =>
 zm true v23 (fun Q24 =>
 aLenS true q1s0 fun v25 =>
 aBin false false .leq v25 (.p (.int .i64 16)) fun v26 =>
 (H=H∧Q24 v26)) fun v27 =>
 K v27 H)
def zz5 (x0:AV) (H:List Ob) (K:AV→List Ob→Prop):Prop :=
 zql x0 fun v0 =>
 aLen false false v0 fun v1 =>
 zD 1 [(.p (.int .i64 0))] H fun xs H B1=>zxt x0 v0 v1 (xs.getD 0 Z) H B1 K
def zu2:Nat→List Nat:=fun k=>match k with | 2=>[8] | _=>[]
theorem zDp (x0:AV) (H:List Ob) (r:AV) (Ho:List Ob):aBody Tryz.prog zu2 Tryz.f126 H [x0] r Ho=zz5 x0 H (fun v H'=>Gives H.length v H' r Ho):=by kernel_rfl
theorem zDq {x0:AV} {r:AV} {Ho:List Ob} (h:zz5 x0 [] (fun v H'=>Gives 0 v H' r Ho)):Abs.Fn Tryz.prog zmC [] [x0] r Ho :=
 zh mixed zu2 (fn:=Tryz.f126) (by kernel_rfl) (by kernel_rfl) (by rw [zDp]; exact h)
def ziq (j2s1 j2s2 j2s4 j2s8 j2s10:AV) (H:List Ob) (K:AV→List Ob→Prop):Prop :=
 aLoad true 15 j2s2 H fun v61 =>
 aCall Tryz.prog (.p (.func znv [])) [v61,j2s10,j2s1] H fun v62 h63 =>
 aUn .not v62 fun v64 =>
 ze v64
 (zp [(.p (.int .i64 0)),(.full [])] [] fun v65 =>
 zi 2 j2s4 v65 h63 fun _ h67 =>
 aLoad true 2 j2s4 h67 fun v68 =>
 K (.tup [v68,(.p (.int .i64 5))]) h67)
 (aLoad true 15 j2s2 h63 fun v69 =>
 aLoad true 2 j2s8 h63 fun v70 =>
 aCall Tryz.prog (.p (.func znw [])) [v69,v70,j2s10,j2s1] h63 fun v71 h72 =>
 zy [(.p (.int .i64 0)),(.full [])] h72 fun v73 h74 =>
 zi 2 v73 v71 h74 fun _ h76 =>
 aLoad true 2 v73 h76 fun v77 =>
 aCall Tryz.prog (.p (.func zhf [])) [v77] h76 fun v78 h79 =>
 aBin false false .neq v78 (.p (.int .i64 0)) fun v80 =>
 ze v80
 (zp [(.p (.int .i64 0)),(.full [])] [] fun v81 =>
 zi 2 j2s4 v81 h79 fun _ h83 =>
 aLoad true 2 j2s4 h83 fun v84 =>
 K (.tup [v84,v78]) h83)
 (aLoad true 2 v73 h79 fun v85 =>
 zi 2 j2s4 v85 h79 fun _ h87 =>
 aLoad true 2 j2s4 h87 fun v88 =>
 K (.tup [v88,(.p (.int .i64 0))]) h87))
def zqy (j1s1 j1s2 j1s4 j1s8:AV) (H:List Ob) (K:AV→List Ob→Prop):Prop :=
 za 4 j1s2 fun v89 =>
 aLoad false 1 v89 H fun v90 =>
 aLen false false v90 fun v91 =>
 aBin false false .gtr v91 (.p (.int .i64 0)) fun v92 =>
 ze v92
 (aLoad true 15 j1s2 H fun v93 =>
 zb 2 j1s1 (.p (.int .i64 0)) fun v94 =>
 aLoad true 2 v94 H fun v95 =>
 zJ Tryz.prog (.p (.func zr8 [])) [v93,v95] fun v96 =>
 zB v96 0 fun v97 =>
 zB v96 1 fun v98 =>
 aBin false false .neq v98 (.p (.int .i64 0)) fun v99 =>
 ze v99
 (zp [(.p (.int .i64 0)),(.full [])] [] fun v100 =>
 zi 2 j1s4 v100 H fun _ h102 =>
 aLoad true 2 j1s4 h102 fun v103 =>
 K (.tup [v103,v98]) h102)
 (ziq j1s1 j1s2 j1s4 j1s8 v97 H K))
 (ziq j1s1 j1s2 j1s4 j1s8 (.full []) H K)
def zDr (x0 x1:AV) (H:List Ob) (K:AV→List Ob→Prop):Prop :=
 aBox x0 H fun v0 h1 =>
 zy [(.p (.int .i64 0)),(.full [])] h1 fun v2 h3 =>
 zy [(.p (.bool false)),(.p (.bool false)),(.p (.bool false)),(.p (.int .i64 0)),(.p (.int .i64 0)),(.p (.int .i64 0)),(.p (.int .i64 0)),(.p (.int .i64 0)),(.p (.int .i64 0)),(.p (.int .i64 0)),(.p (.int .i64 0))] h3 fun v4 h5 =>
 zJ Tryz.prog (.p (.func zlu [])) [] fun v6 =>
 za 0 v0 fun v7 =>
 aLoad false 1 v7 h5 fun v8 =>
 zJ Tryz.prog (.p (.func zft [])) [v6,v8] fun v9 =>
 zB v9 0 fun v10 =>
 zB v9 1 fun v11 =>
 zi 11 v4 v10 h5 fun _ h13 =>
 aUn .not v11 fun v14 =>
 zm false v14 (fun Q15 =>
 za 0 v4 fun v16 =>
 aLoad false 1 v16 h13 fun v17 =>
 zm true v17 (fun Q18 =>
 za 1 v0 fun v19 =>
 aLoad false 1 v19 h13 fun v20 =>
 aCall Tryz.prog (.p (.func zmC [])) [v20] h13 fun v21 h22 =>
 aUn .not v21 fun v23 =>
 (h22=h13∧Q18 v23)) fun v24 =>
 (h13=h13∧Q15 v24)) fun v25 =>
 ze v25
 (zp [(.p (.int .i64 0)),(.full [])] [] fun v26 =>
 zi 2 v2 v26 h13 fun _ h28 =>
 aLoad true 2 v2 h28 fun v29 =>
 K (.tup [v29,(.p (.int .i64 6))]) h28)
 (aLoad true 15 v0 h13 fun v30 =>
 aLoad true 11 v4 h13 fun v31 =>
 aLen false false x1 fun v32 =>
 aCall Tryz.prog (.p (.func zkL [])) [v30,v31,v32] h13 fun v33 h34 =>
 aUn .not v33 fun v35 =>
 ze v35
 (zp [(.p (.int .i64 0)),(.full [])] [] fun v36 =>
 zi 2 v2 v36 h34 fun _ h38 =>
 aLoad true 2 v2 h38 fun v39 =>
 K (.tup [v39,(.p (.int .i64 1))]) h38)
 (aCall Tryz.prog (.p (.func znz [])) [x1] h34 fun v40 h41 =>
 aUn .not v40 fun v42 =>
 zm false v42 (fun Q43 =>
 za 1 v4 fun v44 =>
 aLoad false 1 v44 h41 fun v45 =>
 zm true v45 (fun Q46 =>
 za 2 v0 fun v47 =>
 aLoad true 2 v47 h41 fun v48 =>
 zk 2 [v48] fun v49 =>
 aCall Tryz.prog (.p (.func znz [])) [v49] h41 fun v50 h51 =>
 aUn .not v50 fun v52 =>
 (h51=h41∧Q46 v52)) fun v53 =>
 (h41=h41∧Q43 v53)) fun v54 =>
 ze v54
 (zp [(.p (.int .i64 0)),(.full [])] [] fun v55 =>
 zi 2 v2 v55 h41 fun _ h57 =>
 aLoad true 2 v2 h57 fun v58 =>
 K (.tup [v58,(.p (.int .i64 5))]) h57)
 (zy [(.p (.int .i64 0)),(.full [])] h41 fun v59 h60 =>
 za 2 v4 fun v104 =>
 aLoad false 1 v104 h60 fun v105 =>
 ze v105
 (za 5 v0 fun v106 =>
 aLoad true 8 v106 h60 fun v107 =>
 zb 2 x1 (.p (.int .i64 0)) fun v108 =>
 aLoad true 2 v108 h60 fun v109 =>
 zJ Tryz.prog (.p (.func zkd [])) [v107,v109] fun v110 =>
 zB v110 0 fun v111 =>
 zB v110 1 fun v112 =>
 zi 2 v59 v111 h60 fun _ h114 =>
 aBin false false .neq v112 (.p (.int .i64 0)) fun v115 =>
 ze v115
 (zp [(.p (.int .i64 0)),(.full [])] [] fun v116 =>
 zi 2 v2 v116 h114 fun _ h118 =>
 aLoad true 2 v2 h118 fun v119 =>
 K (.tup [v119,v112]) h118)
 (zqy x1 v0 v2 v59 h114 K))
 (zqy x1 v0 v2 v59 h60 K))))
def zxv:Nat→List Nat:=fun k=>match k with | 1000003=>[1] | 1000008=>[1] | _=>[]
theorem zEQ (x0 x1:AV) (H:List Ob) (r:AV) (Ho:List Ob):aBody Tryz.prog zxv Tryz.f129 H [x0,x1] r Ho=zDr x0 x1 H (fun v H'=>Gives H.length v H' r Ho):=by kernel_rfl
theorem zER {x0 x1:AV} {r:AV} {Ho:List Ob} (h:zDr x0 x1 [] (fun v H'=>Gives 0 v H' r Ho)):Abs.Fn Tryz.prog zxw [] [x0,x1] r Ho :=
 zh mixed zxv (fn:=Tryz.f129) (by kernel_rfl) (by kernel_rfl) (by rw [zEQ]; exact h)
def znu (x0 x1 x2:AV) (H:List Ob) (K:AV→List Ob→Prop):Prop :=
 aBox x0 H fun v0 h1 =>
 aBox x1 h1 fun v2 h3 =>
 za 0 v2 fun v4 =>
 aLoad false 1 v4 h3 fun v5 =>
 zm false v5 (fun Q6 =>
 za 1 v0 fun v7 =>
 aLoad false 1 v7 h3 fun v8 =>
 aBin false false .eql v8 (.p (.str [])) fun v9 =>
 (h3=h3∧Q6 v9)) fun v10 =>
 zm true v10 (fun Q11 =>
 za 1 v2 fun v12 =>
 aLoad false 1 v12 h3 fun v13 =>
 zm false v13 (fun Q14 =>
 za 2 v0 fun v15 =>
 za 0 v15 fun v16 =>
 aLoad false 1 v16 h3 fun v17 =>
 aBin false false .eql v17 (.p (.int .i64 0)) fun v18 =>
 zm true v18 (fun Q19 =>
 za 2 v0 fun v20 =>
 za 1 v20 fun v21 =>
 aLoad false 1 v21 h3 fun v22 =>
 aLenS false v22 fun v23 =>
 aBin false false .eql v23 (.p (.int .i64 0)) fun v24 =>
 (h3=h3∧Q19 v24)) fun v25 =>
 (h3=h3∧Q14 v25)) fun v26 =>
 (h3=h3∧Q11 v26)) fun v27 =>
 zm true v27 (fun Q28 =>
 za 2 v2 fun v29 =>
 aLoad false 1 v29 h3 fun v30 =>
 zm false v30 (fun Q31 =>
 za 5 v0 fun v32 =>
 aLoad true 8 v32 h3 fun v33 =>
 aCall Tryz.prog (.p (.func zny [])) [v33] h3 fun v34 h35 =>
 (h35=h3∧Q31 v34)) fun v36 =>
 (h3=h3∧Q28 v36)) fun v37 =>
 zm true v37 (fun Q38 =>
 za 3 v2 fun v39 =>
 aLoad true 2 v39 h3 fun v40 =>
 za 4 v0 fun v41 =>
 aLoad false 1 v41 h3 fun v42 =>
 aLenS false v42 fun v43 =>
 aCall Tryz.prog (.p (.func zfu [])) [v40,v43] h3 fun v44 h45 =>
 (h45=h3∧Q38 v44)) fun v46 =>
 zm true v46 (fun Q47 =>
 za 7 v2 fun v48 =>
 aLoad true 2 v48 h3 fun v49 =>
 za 13 v0 fun v50 =>
 aLoad false 1 v50 h3 fun v51 =>
 aCall Tryz.prog (.p (.func zfu [])) [v49,v51] h3 fun v52 h53 =>
 (h53=h3∧Q47 v52)) fun v54 =>
 zm true v54 (fun Q55 =>
 za 9 v2 fun v56 =>
 aLoad true 2 v56 h3 fun v57 =>
 za 14 v0 fun v58 =>
 aLoad false 1 v58 h3 fun v59 =>
 aCall Tryz.prog (.p (.func zfu [])) [v57,v59] h3 fun v60 h61 =>
 (h61=h3∧Q55 v60)) fun v62 =>
 zm true v62 (fun Q63 =>
 za 5 v2 fun v64 =>
 aLoad true 2 v64 h3 fun v65 =>
 aCall Tryz.prog (.p (.func zfu [])) [v65,x2] h3 fun v66 h67 =>
 (h67=h3∧Q63 v66)) fun v68 =>
 K v68 h3
def zmD:Nat→List Nat:=fun _=>[]
theorem zvu (x0 x1 x2:AV) (H:List Ob) (r:AV) (Ho:List Ob):aBody Tryz.prog zmD Tryz.f161 H [x0,x1,x2] r Ho=znu x0 x1 x2 H (fun v H'=>Gives H.length v H' r Ho):=by kernel_rfl
theorem zvv {x0 x1 x2:AV} {r:AV} {Ho:List Ob} (h:znu x0 x1 x2 [] (fun v H'=>Gives 0 v H' r Ho)):Abs.Fn Tryz.prog zkL [] [x0,x1,x2] r Ho :=
 zh mixed zmD (fn:=Tryz.f161) (by kernel_rfl) (by kernel_rfl) (by rw [zvu]; exact h)
def zu5 (q1s5 q1s6 y0:AV) (H:List Ob) (B1:List AV→List Ob→Prop) (K:AV→List Ob→Prop):Prop :=
 aBin false false .lss y0 q1s6 fun v1 =>
 ze v1
 (zb 2 q1s5 y0 fun v2 =>
 aLoad true 2 v2 H fun v3 =>
 zy [(.p (.int .i64 0)),(.full [])] H fun v4 h5 =>
 zi 2 v4 v3 h5 fun _ h7 =>
 aLoad true 2 v4 h7 fun v8 =>
 aCall Tryz.prog (.p (.func zhf [])) [v8] h7 fun v9 h10 =>
 aBin false false .neq v9 (.p (.int .i64 0)) fun v11 =>
 ze v11
 (K (.p (.bool false)) h10)
 (aBin false false .add y0 (.p (.int .i64 1)) fun v12 =>
 B1 [v12] h10))
 (K (.p (.bool true)) H)
def zxy (x0:AV) (H:List Ob) (K:AV→List Ob→Prop):Prop :=
 aLen false false x0 fun v0 =>
 zD 1 [(.p (.int .i64 0))] H fun xs H B1=>zu5 x0 v0 (xs.getD 0 Z) H B1 K
def ztf:Nat→List Nat:=fun k=>match k with | 2=>[7] | _=>[]
theorem zBN (x0:AV) (H:List Ob) (r:AV) (Ho:List Ob):aBody Tryz.prog ztf Tryz.f162 H [x0] r Ho=zxy x0 H (fun v H'=>Gives H.length v H' r Ho):=by kernel_rfl
theorem zBO {x0:AV} {r:AV} {Ho:List Ob} (h:zxy x0 [] (fun v H'=>Gives 0 v H' r Ho)):Abs.Fn Tryz.prog znz [] [x0] r Ho :=
 zh mixed ztf (fn:=Tryz.f162) (by kernel_rfl) (by kernel_rfl) (by rw [zBN]; exact h)
def zu3 (q1s3 q1s12 q1s13 y0 y1:AV) (H:List Ob) (B1:List AV→List Ob→Prop) (K:AV→List Ob→Prop):Prop :=
 aBin false false .lss y1 q1s13 fun v7 =>
 ze v7
 (zb 8 q1s12 y1 fun v8 =>
 aLoad true 8 v8 H fun v9 =>
 zy [(.p (.str [])),(.p (.int .i64 0)),(.p (.int .i64 0)),(.p (.bool false)),(.p (.str [])),(.full []),(.p (.int .i64 0)),(.full [])] H fun v10 h11 =>
 zi 8 v10 v9 h11 fun _ h13 =>
 aLoad true 8 v10 h13 fun v14 =>
 aLoad true 2 q1s3 h13 fun v15 =>
 aCall Tryz.prog (.p (.func zkd [])) [v14,v15] h13 fun v16 h17 =>
 zB v16 0 fun v18 =>
 zB v16 1 fun v19 =>
 zy [(.p (.int .i64 0)),(.full [])] h17 fun v20 h21 =>
 zi 2 v20 v18 h21 fun _ h23 =>
 aBin false false .neq v19 (.p (.int .i64 0)) fun v24 =>
 ze v24
 (K (.tup [(.full []),v19]) h23)
 (aLoad true 2 v20 h23 fun v25 =>
 zk 2 [v25] fun v26 =>
 zH false 2 32 y0 v26 h23 fun v27 h28 =>
 aBin false false .add y1 (.p (.int .i64 1)) fun v29 =>
 B1 [v27,v29] h28))
 (K (.tup [y0,(.p (.int .i64 0))]) H)
def zxu (x0 x1:AV) (H:List Ob) (K:AV→List Ob→Prop):Prop :=
 aBox x0 H fun v0 h1 =>
 aBox x1 h1 fun v2 h3 =>
 za 4 v0 fun v4 =>
 aLoad false 1 v4 h3 fun v5 =>
 aLen false false v5 fun v6 =>
 zD 2 [(.full []),(.p (.int .i64 0))] h3 fun xs H B1=>zu3 v2 v5 v6 (xs.getD 0 Z) (xs.getD 1 Z) H B1 K
def ztb:Nat→List Nat:=fun k=>match k with | 3=>[6,14] | _=>[]
theorem zBJ (x0 x1:AV) (H:List Ob) (r:AV) (Ho:List Ob):aBody Tryz.prog ztb Tryz.f164 H [x0,x1] r Ho=zxu x0 x1 H (fun v H'=>Gives H.length v H' r Ho):=by kernel_rfl
theorem zBK {x0 x1:AV} {r:AV} {Ho:List Ob} (h:zxu x0 x1 [] (fun v H'=>Gives 0 v H' r Ho)):Abs.Fn Tryz.prog zr8 [] [x0,x1] r Ho :=
 zh mixed ztb (fn:=Tryz.f164) (by kernel_rfl) (by kernel_rfl) (by rw [zBJ]; exact h)
def zr9 (x0 x1 x2:AV) (H:List Ob) (K:AV→List Ob→Prop):Prop :=
 aBox x0 H fun v0 h1 =>
 za 0 v0 fun v2 =>
 aLoad false 1 v2 h1 fun v3 =>
 aBin false false .eql v3 (.p (.int .i64 3)) fun v4 =>
 ze v4
 (zb 2 x1 (.p (.int .i64 0)) fun v5 =>
 za 0 v5 fun v6 =>
 aLoad false 1 v6 h1 fun v7 =>
 aBin false false .eql v7 (.p (.int .i64 2)) fun v8 =>
 K v8 h1)
 (aBin false false .eql v3 (.p (.int .i64 4)) fun v9 =>
 ze v9
 (aCall Tryz.prog (.p (.func znx [])) [x1] h1 fun v10 h11 =>
 K v10 h11)
 (aBin false false .eql v3 (.p (.int .i64 5)) fun v12 =>
 ze v12
 (zb 2 x1 (.p (.int .i64 0)) fun v13 =>
 za 0 v13 fun v14 =>
 aLoad false 1 v14 h1 fun v15 =>
 aBin false false .eql v15 (.p (.int .i64 1)) fun v16 =>
 K v16 h1)
 (aBin false false .eql v3 (.p (.int .i64 8)) fun v17 =>
 ze v17
 (aCall Tryz.prog (.p (.func znx [])) [x2] h1 fun v18 h19 =>
 K v18 h19)
 (K (.p (.bool true)) h1))))
def zpJ:Nat→List Nat:=fun _=>[]
theorem zyy (x0 x1 x2:AV) (H:List Ob) (r:AV) (Ho:List Ob):aBody Tryz.prog zpJ Tryz.f165 H [x0,x1,x2] r Ho=zr9 x0 x1 x2 H (fun v H'=>Gives H.length v H' r Ho):=by kernel_rfl
theorem zyz {x0 x1 x2:AV} {r:AV} {Ho:List Ob} (h:zr9 x0 x1 x2 [] (fun v H'=>Gives 0 v H' r Ho)):Abs.Fn Tryz.prog znv [] [x0,x1,x2] r Ho :=
 zh mixed zpJ (fn:=Tryz.f165) (by kernel_rfl) (by kernel_rfl) (by rw [zyy]; exact h)
def zsa (x0 x1 x2 x3:AV) (H:List Ob) (K:AV→List Ob→Prop):Prop :=
 aBox x0 H fun v0 h1 =>
 aBox x1 h1 fun v2 h3 =>
 zy [(.p (.int .i64 0)),(.full [])] h3 fun v4 h5 =>
 za 0 v0 fun v6 =>
 aLoad false 1 v6 h5 fun v7 =>
 aBin false false .eql v7 (.p (.int .i64 1)) fun v8 =>
 ze v8
 (za 2 v0 fun v9 =>
 aLoad true 2 v9 h5 fun v10 =>
 zi 2 v4 v10 h5 fun _ h12 =>
 aLoad true 2 v4 h12 fun v13 =>
 K v13 h12)
 (aBin false false .eql v7 (.p (.int .i64 2)) fun v14 =>
 zm false v14 (fun Q15 =>
 aBin false false .eql v7 (.p (.int .i64 4)) fun v16 =>
 (h5=h5∧Q15 v16)) fun v17 =>
 ze v17
 (zb 2 x2 (.p (.int .i64 0)) fun v18 =>
 aLoad true 2 v18 h5 fun v19 =>
 zi 2 v4 v19 h5 fun _ h21 =>
 aLoad true 2 v4 h21 fun v22 =>
 K v22 h21)
 (aBin false false .eql v7 (.p (.int .i64 5)) fun v23 =>
 zm false v23 (fun Q24 =>
 aBin false false .eql v7 (.p (.int .i64 6)) fun v25 =>
 (h5=h5∧Q24 v25)) fun v26 =>
 ze v26
 (aLoad true 2 v2 h5 fun v27 =>
 zp [(.p (.int .i64 0)),(.full [])] [(0,1,(.p (.int .i64 1)))] fun v28 =>
 zk 2 [v27,v28] fun v29 =>
 zp [(.p (.int .i64 0)),(.full [])] [(0,1,(.p (.int .i64 4))),(1,1,v29)] fun v30 =>
 zi 2 v4 v30 h5 fun _ h32 =>
 aLoad true 2 v4 h32 fun v33 =>
 K v33 h32)
 (aBin false false .eql v7 (.p (.int .i64 7)) fun v34 =>
 ze v34
 (aLoad true 2 v2 h5 fun v35 =>
 zi 2 v4 v35 h5 fun _ h37 =>
 aLoad true 2 v4 h37 fun v38 =>
 K v38 h37)
 (zb 2 x3 (.p (.int .i64 0)) fun v39 =>
 aLoad true 2 v39 h5 fun v40 =>
 zi 2 v4 v40 h5 fun _ h42 =>
 aLoad true 2 v4 h42 fun v43 =>
 K v43 h42))))
def zpK:Nat→List Nat:=fun k=>match k with | 1000005=>[1] | 1000008=>[1] | _=>[]
theorem zyA (x0 x1 x2 x3:AV) (H:List Ob) (r:AV) (Ho:List Ob):aBody Tryz.prog zpK Tryz.f166 H [x0,x1,x2,x3] r Ho=zsa x0 x1 x2 x3 H (fun v H'=>Gives H.length v H' r Ho):=by kernel_rfl
theorem zyB {x0 x1 x2 x3:AV} {r:AV} {Ho:List Ob} (h:zsa x0 x1 x2 x3 [] (fun v H'=>Gives 0 v H' r Ho)):Abs.Fn Tryz.prog znw [] [x0,x1,x2,x3] r Ho :=
 zh mixed zpK (fn:=Tryz.f166) (by kernel_rfl) (by kernel_rfl) (by rw [zyA]; exact h)
def zsb (x0:AV) (H:List Ob) (K:AV→List Ob→Prop):Prop :=
 aBox x0 H fun v0 h1 =>
 za 0 v0 fun v2 =>
 aLoad false 1 v2 h1 fun v3 =>
 aBin false false .eql v3 (.p (.str [])) fun v4 =>
 zm true v4 (fun Q5 =>
 za 1 v0 fun v6 =>
 aLoad true 5 v6 h1 fun v7 =>
 zp [(.p (.int .i64 0)),(.p (.int .i64 0)),(.p (.bool false)),(.p (.str [])),(.full [])] [] fun v8 =>
 aCall Tryz.prog (.p (.func zgZ [])) [v7,v8] h1 fun v9 h10 =>
 (h10=h1∧Q5 v9)) fun v11 =>
 zm true v11 (fun Q12 =>
 za 6 v0 fun v13 =>
 aLoad false 1 v13 h1 fun v14 =>
 aBin false false .eql v14 (.p (.int .i64 0)) fun v15 =>
 (h1=h1∧Q12 v15)) fun v16 =>
 zm true v16 (fun Q17 =>
 za 7 v0 fun v18 =>
 aLoad false 1 v18 h1 fun v19 =>
 aLenS false v19 fun v20 =>
 aBin false false .eql v20 (.p (.int .i64 0)) fun v21 =>
 (h1=h1∧Q17 v21)) fun v22 =>
 K v22 h1
def zpL:Nat→List Nat:=fun _=>[]
theorem zyC (x0:AV) (H:List Ob) (r:AV) (Ho:List Ob):aBody Tryz.prog zpL Tryz.f189 H [x0] r Ho=zsb x0 H (fun v H'=>Gives H.length v H' r Ho):=by kernel_rfl
theorem zyD {x0:AV} {r:AV} {Ho:List Ob} (h:zsb x0 [] (fun v H'=>Gives 0 v H' r Ho)):Abs.Fn Tryz.prog zny [] [x0] r Ho :=
 zh mixed zpL (fn:=Tryz.f189) (by kernel_rfl) (by kernel_rfl) (by rw [zyC]; exact h)
def zsc (x0 x1:AV) (H:List Ob) (K:AV→List Ob→Prop):Prop :=
 aBox x0 H fun v0 h1 =>
 za 0 v0 fun v2 =>
 aLoad false 1 v2 h1 fun v3 =>
 aBin false false .geq x1 v3 fun v4 =>
 zm true v4 (fun Q5 =>
 za 1 v0 fun v6 =>
 aLoad false 1 v6 h1 fun v7 =>
 aBin false false .leq x1 v7 fun v8 =>
 (h1=h1∧Q5 v8)) fun v9 =>
 K v9 h1
def zpM:Nat→List Nat:=fun _=>[]
theorem zyE (x0 x1:AV) (H:List Ob) (r:AV) (Ho:List Ob):aBody Tryz.prog zpM Tryz.f190 H [x0,x1] r Ho=zsc x0 x1 H (fun v H'=>Gives H.length v H' r Ho):=by kernel_rfl
theorem zyF {x0 x1:AV} {r:AV} {Ho:List Ob} (h:zsc x0 x1 [] (fun v H'=>Gives 0 v H' r Ho)):Abs.Fn Tryz.prog zfu [] [x0,x1] r Ho :=
 zh mixed zpM (fn:=Tryz.f190) (by kernel_rfl) (by kernel_rfl) (by rw [zyE]; exact h)
def zu4 (q1s0 q1s5 q1s6 y0:AV) (H:List Ob) (B1:List AV→List Ob→Prop) (K:AV→List Ob→Prop):Prop :=
 aBin false false .lss y0 q1s6 fun v1 =>
 ze v1
 (zb 2 q1s5 y0 fun v2 =>
 aLoad true 2 v2 H fun v3 =>
 zy [(.p (.int .i64 0)),(.full [])] H fun v4 h5 =>
 zi 2 v4 v3 h5 fun _ h7 =>
 aLoad true 2 v4 h7 fun v8 =>
 zb 2 q1s0 (.p (.int .i64 0)) fun v9 =>
 aLoad true 2 v9 h7 fun v10 =>
 zJ Tryz.prog (.p (.func zgY [])) [v8,v10] fun v11 =>
 aUn .not v11 fun v12 =>
 ze v12
 (K (.p (.bool false)) h7)
 (aBin false false .add y0 (.p (.int .i64 1)) fun v13 =>
 B1 [v13] h7))
 (K (.p (.bool true)) H)
def zxx (x0:AV) (H:List Ob) (K:AV→List Ob→Prop):Prop :=
 aLen false false x0 fun v0 =>
 zD 1 [(.p (.int .i64 0))] H fun xs H B1=>zu4 x0 x0 v0 (xs.getD 0 Z) H B1 K
def ztc:Nat→List Nat:=fun k=>match k with | 2=>[7] | _=>[]
theorem zBL (x0:AV) (H:List Ob) (r:AV) (Ho:List Ob):aBody Tryz.prog ztc Tryz.f193 H [x0] r Ho=zxx x0 H (fun v H'=>Gives H.length v H' r Ho):=by kernel_rfl
theorem zBM {x0:AV} {r:AV} {Ho:List Ob} (h:zxx x0 [] (fun v H'=>Gives 0 v H' r Ho)):Abs.Fn Tryz.prog znx [] [x0] r Ho :=
 zh mixed ztc (fn:=Tryz.f193) (by kernel_rfl) (by kernel_rfl) (by rw [zBL]; exact h)
end Go.Proofs.YtdmgbhamigegfaaGreatDoor
end

section
/- Made by program (Gen.lean): functions of the dump, over trees. -/
set_option maxRecDepth 4000
set_option linter.unusedVariables false
namespace Go.Proofs.YtdmgbhamigegfaaGreatDoor
open Go Go.Abs
def zre (q1s0 q1s1 q1s4 q1s7 y0 y1:AV) (H:List Ob) (B1:List AV→List Ob→Prop) (K:AV→List Ob→Prop):Prop :=
 aBin false false .lss y1 q1s7 fun v3 =>
 ze v3
 (zk 1 [(.p (.int .i64 1000))] fun v4 =>
 aCall Tryz.prog (.p (.func zdE [])) [v4,(.p (.int .i64 16))] H fun v5 h6 =>
 zk 1 [v5] fun v7 =>
 zH false 1 24 y0 v7 h6 fun v8 h9 =>
 aBin false false .add y1 (.p (.int .i64 1)) fun v10 =>
 B1 [v8,v10] h9)
 (aCall Tryz.prog (.p (.func zfq [])) [q1s0,q1s1,y0,(.p (.bool true))] H fun v11 h12 =>
 zi 2 q1s4 v11 h12 fun _ h14 =>
 aLoad true 2 q1s4 h14 fun v15 =>
 K v15 h14)
def zrT (x0 x1:AV) (H:List Ob) (K:AV→List Ob→Prop):Prop :=
 zy [(.full []),(.full [])] H fun v0 h1 =>
 aLen false false x1 fun v2 =>
 zD 2 [(.full []),(.p (.int .i64 0))] h1 fun xs H B1=>zre x0 x1 v0 v2 (xs.getD 0 Z) (xs.getD 1 Z) H B1 K
def zo5:Nat→List Nat:=fun k=>match k with | 3=>[5,8] | _=>[]
theorem zyo (x0 x1:AV) (H:List Ob) (r:AV) (Ho:List Ob):aBody Tryz.prog zo5 Tryz.f14 H [x0,x1] r Ho=zrT x0 x1 H (fun v H'=>Gives H.length v H' r Ho):=by kernel_rfl
theorem zyp {x0 x1:AV} {r:AV} {Ho:List Ob} (h:zrT x0 x1 [] (fun v H'=>Gives 0 v H' r Ho)):Abs.Fn Tryz.prog zfr [] [x0,x1] r Ho :=
 zh mixed zo5 (fn:=Tryz.f14) (by kernel_rfl) (by kernel_rfl) (by rw [zyo]; exact h)
def zjQ (q1s0 q1s3 y0:AV) (H:List Ob) (B1:List AV→List Ob→Prop) (K:AV→List Ob→Prop):Prop :=
 aLen false false q1s0 fun v5 =>
 aBin false false .lss y0 v5 fun v6 =>
 ze v6
 (za 1 q1s3 fun v7 =>
 aLoad false 1 v7 H fun v8 =>
 zb 1 q1s0 y0 fun v9 =>
 aLoad false 1 v9 H fun v10 =>
 zhi .i64 v10 fun v11 =>
 zJ Tryz.prog (.p (.func zcY [])) [v11] fun v12 =>
 zk 5 [v12] fun v13 =>
 aCalm [v8,v13] <|
 zH false 5 64 v8 v13 H fun v14 h15 =>
 za 1 q1s3 fun v16 =>
 zi 1 v16 v14 h15 fun _ h18 =>
 aBin false false .add y0 (.p (.int .i64 1)) fun v19 =>
 B1 [v19] h18)
 (aLoad true 2 q1s3 H fun v20 =>
 zk 2 [v20] fun v21 =>
 K v21 H)
def zis (x0:AV) (H:List Ob) (K:AV→List Ob→Prop):Prop :=
 zp [(.p (.str [])),(.full [])] [(0,1,(.p (.str [115])))] fun v0 =>
 zy [(.p (.str [])),(.full [])] H fun v1 h2 =>
 zi 2 v1 v0 h2 fun _ h4 =>
 zD 1 [(.p (.int .i64 0))] h4 fun xs H B1=>zjQ x0 v1 (xs.getD 0 Z) H B1 K
def zi3:Nat→List Nat:=fun k=>match k with | 3=>[4] | _=>[]
theorem zqM (x0:AV) (H:List Ob) (r:AV) (Ho:List Ob):aBody Tryz.prog zi3 Tryz.f16 H [x0] r Ho=zis x0 H (fun v H'=>Gives H.length v H' r Ho):=by kernel_rfl
theorem zqN {x0:AV} {r:AV} {Ho:List Ob} (h:zis x0 [] (fun v H'=>Gives 0 v H' r Ho)):Abs.Fn Tryz.prog zgJ [] [x0] r Ho :=
 zh mixed zi3 (fn:=Tryz.f16) (by kernel_rfl) (by kernel_rfl) (by rw [zqM]; exact h)
def zg9 (q2s1 q2s2 q2s3 y0:AV) (H:List Ob) (B2:List AV→List Ob→Prop) (K:AV→List Ob→Prop):Prop :=
 za 1 q2s1 fun v27 =>
 aLoad false 1 v27 H fun v28 =>
 aLen false false v28 fun v29 =>
 aBin false false .lss y0 v29 fun v30 =>
 ze v30
 (za 1 q2s3 fun v31 =>
 aLoad false 1 v31 H fun v32 =>
 za 1 q2s1 fun v33 =>
 aLoad false 1 v33 H fun v34 =>
 zb 6 v34 y0 fun v35 =>
 za 0 v35 fun v36 =>
 aLoad false 1 v36 H fun v37 =>
 za 1 q2s1 fun v38 =>
 aLoad false 1 v38 H fun v39 =>
 zb 6 v39 y0 fun v40 =>
 za 1 v40 fun v41 =>
 aLoad true 5 v41 H fun v42 =>
 zJ Tryz.prog (.p (.func zcW [])) [v42] fun v43 =>
 zp [(.p (.int .i64 0)),(.p (.int .i64 0)),(.p (.int .i64 0)),(.p (.bool false)),(.p (.str [])),(.full [])] [(0,1,v37),(1,5,v43)] fun v44 =>
 zk 6 [v44] fun v45 =>
 aCalm [v32,v45] <|
 zH false 6 72 v32 v45 H fun v46 h47 =>
 za 1 q2s3 fun v48 =>
 zi 1 v48 v46 h47 fun _ h50 =>
 aBin false false .add y0 (.p (.int .i64 1)) fun v51 =>
 B2 [v51] h50)
 (aLoad true 2 q2s3 H fun v52 =>
 zi 2 q2s2 v52 H fun _ h54 =>
 aLoad true 2 q2s2 h54 fun v55 =>
 K v55 h54)
def zg8 (q1s1 q1s2 q1s3 y0:AV) (H:List Ob) (B1:List AV→List Ob→Prop) (K:AV→List Ob→Prop):Prop :=
 za 0 q1s1 fun v9 =>
 aLoad false 1 v9 H fun v10 =>
 aLen false false v10 fun v11 =>
 aBin false false .lss y0 v11 fun v12 =>
 ze v12
 (za 0 q1s3 fun v13 =>
 aLoad false 1 v13 H fun v14 =>
 za 0 q1s1 fun v15 =>
 aLoad false 1 v15 H fun v16 =>
 zb 1 v16 y0 fun v17 =>
 aLoad false 1 v17 H fun v18 =>
 zJ Tryz.prog (.p (.func zdP [])) [v18] fun v19 =>
 zk 1 [v19] fun v20 =>
 aCalm [v14,v20] <|
 zH false 1 24 v14 v20 H fun v21 h22 =>
 za 0 q1s3 fun v23 =>
 zi 1 v23 v21 h22 fun _ h25 =>
 aBin false false .add y0 (.p (.int .i64 1)) fun v26 =>
 B1 [v26] h25)
 (zD 1 [(.p (.int .i64 0))] H fun xs H B2=>zg9 q1s1 q1s2 q1s3 (xs.getD 0 Z) H B2 K)
def ze5 (x0:AV) (H:List Ob) (K:AV→List Ob→Prop):Prop :=
 aBox x0 H fun v0 h1 =>
 zy [(.full []),(.full [])] h1 fun v2 h3 =>
 zp [(.full []),(.full [])] [] fun v4 =>
 zy [(.full []),(.full [])] h3 fun v5 h6 =>
 zi 2 v5 v4 h6 fun _ h8 =>
 zD 1 [(.p (.int .i64 0))] h8 fun xs H B1=>zg8 v0 v2 v5 (xs.getD 0 Z) H B1 K
def zgk:Nat→List Nat:=fun k=>match k with | 3=>[4] | 7=>[5] | _=>[]
theorem zmE (x0:AV) (H:List Ob) (r:AV) (Ho:List Ob):aBody Tryz.prog zgk Tryz.f19 H [x0] r Ho=ze5 x0 H (fun v H'=>Gives H.length v H' r Ho):=by kernel_rfl
theorem zmF {x0:AV} {r:AV} {Ho:List Ob} (h:ze5 x0 [] (fun v H'=>Gives 0 v H' r Ho)):Abs.Fn Tryz.prog zdO [] [x0] r Ho :=
 zh mixed zgk (fn:=Tryz.f19) (by kernel_rfl) (by kernel_rfl) (by rw [zmE]; exact h)
def zra (q2s1 q2s2 q2s8 q2s56 q2s57 y0:AV) (H:List Ob) (B2:List AV→List Ob→Prop) (K:AV→List Ob→Prop):Prop :=
 aBin false false .lss y0 q2s57 fun v34 =>
 ze v34
 (zb 1 q2s56 y0 fun v35 =>
 aLoad false 1 v35 H fun v36 =>
 zy [(.p (.int .i64 0))] H fun v37 h38 =>
 zi 1 v37 v36 h38 fun _ h40 =>
 zb 2 q2s1 y0 fun v41 =>
 za 1 v41 fun v42 =>
 aLoad false 1 v42 h40 fun v43 =>
 zaA zhl [q2s2,v37] h40 fun v44 h45 =>
 aCall Tryz.prog (.p (.func zaG [])) [v43,v44] h45 fun v46 h47 =>
 ze v46
 (K (.p (.int .i64 5)) h47)
 (aBin false false .add y0 (.p (.int .i64 1)) fun v48 =>
 B2 [v48] h47))
 (aBin false false .gtr q2s8 (.p (.int .i64 1000)) fun v49 =>
 ze v49
 (K (.p (.int .i64 10)) H)
 (K (.p (.int .i64 0)) H))
def zq9 (q1s1 q1s2 q1s7 q1s28 q1s29 y0 y1:AV) (H:List Ob) (B1:List AV→List Ob→Prop) (K:AV→List Ob→Prop):Prop :=
 aBin false false .lss y1 q1s29 fun v15 =>
 ze v15
 (zb 1 q1s28 y1 fun v16 =>
 aLoad false 1 v16 H fun v17 =>
 zb 2 q1s1 y1 fun v18 =>
 za 0 v18 fun v19 =>
 aLoad false 1 v19 H fun v20 =>
 aLoad false 1 q1s2 H fun v21 =>
 zb 21 v21 v17 fun v22 =>
 za 1 v22 fun v23 =>
 za 1 v23 fun v24 =>
 aLoad false 1 v24 H fun v25 =>
 aBin false false .neq v20 v25 fun v26 =>
 ze v26
 (K (.p (.int .i64 6)) H)
 (zb 2 q1s1 y1 fun v27 =>
 za 1 v27 fun v28 =>
 aLoad false 1 v28 H fun v29 =>
 aLen false false v29 fun v30 =>
 aBin false false .add y0 v30 fun v31 =>
 aBin false false .add y1 (.p (.int .i64 1)) fun v32 =>
 B1 [v31,v32] H))
 (aLen false false q1s7 fun v33 =>
 zD 1 [(.p (.int .i64 0))] H fun xs H B2=>zra q1s1 q1s2 y0 q1s7 v33 (xs.getD 0 Z) H B2 K)
def zrQ (x0 x1:AV) (H:List Ob) (K:AV→List Ob→Prop):Prop :=
 aBox x0 H fun v0 h1 =>
 aLoad false 1 v0 h1 fun v2 =>
 aCall Tryz.prog (.p (.func zlW [])) [v2] h1 fun v3 h4 =>
 zB v3 0 fun _ =>
 zB v3 1 fun v6 =>
 aBin false false .neq v6 (.p (.int .i64 0)) fun v7 =>
 ze v7
 (K v6 h4)
 (aLoad false 1 v0 h4 fun v8 =>
 aCall Tryz.prog (.p (.func ziT [])) [v8,(.p (.int .i64 1))] h4 fun v9 h10 =>
 aLen false false x1 fun v11 =>
 aLen false false v9 fun v12 =>
 aBin false false .neq v11 v12 fun v13 =>
 ze v13
 (K (.p (.int .i64 6)) h10)
 (aLen false false v9 fun v14 =>
 zD 2 [(.p (.int .i64 0)),(.p (.int .i64 0))] h10 fun xs H B1=>zq9 x1 v0 v9 v9 v14 (xs.getD 0 Z) (xs.getD 1 Z) H B1 K))
def zoY:Nat→List Nat:=fun k=>match k with | 9=>[8,30] | 16=>[58] | _=>[]
theorem zyi (x0 x1:AV) (H:List Ob) (r:AV) (Ho:List Ob):aBody Tryz.prog zoY Tryz.f27 H [x0,x1] r Ho=zrQ x0 x1 H (fun v H'=>Gives H.length v H' r Ho):=by kernel_rfl
theorem zyj {x0 x1:AV} {r:AV} {Ho:List Ob} (h:zrQ x0 x1 [] (fun v H'=>Gives 0 v H' r Ho)):Abs.Fn Tryz.prog zj9 [] [x0,x1] r Ho :=
 zh mixed zoY (fn:=Tryz.f27) (by kernel_rfl) (by kernel_rfl) (by rw [zyi]; exact h)
def zrS (x0 x1 x2:AV) (H:List Ob) (K:AV→List Ob→Prop):Prop :=
 zb 21 x0 x1 fun v0 =>
 za 18 v0 fun v1 =>
 aLoad false 1 v1 H fun v2 =>
 aBin false false .rem x2 v2 fun v3 =>
 K v3 H
def zo4:Nat→List Nat:=fun _=>[]
theorem zym (x0 x1 x2:AV) (H:List Ob) (r:AV) (Ho:List Ob):aBody Tryz.prog zo4 Tryz.f29 H [x0,x1,x2] r Ho=zrS x0 x1 x2 H (fun v H'=>Gives H.length v H' r Ho):=by kernel_rfl
theorem zyn {x0 x1 x2:AV} {r:AV} {Ho:List Ob} (h:zrS x0 x1 x2 [] (fun v H'=>Gives 0 v H' r Ho)):Abs.Fn Tryz.prog zhm [] [x0,x1,x2] r Ho :=
 zh mixed zo4 (fn:=Tryz.f29) (by kernel_rfl) (by kernel_rfl) (by rw [zym]; exact h)
def ztN (x0 x1:AV) (H:List Ob) (K:AV→List Ob→Prop):Prop :=
 aBox x0 H fun v0 h1 =>
 aBox x1 h1 fun v2 h3 =>
 za 0 v0 fun v4 =>
 aLoad false 1 v4 h3 fun v5 =>
 za 0 v2 fun v6 =>
 aLoad false 1 v6 h3 fun v7 =>
 aCall Tryz.prog (.p (.func zT [])) [v5,v7,(.p (.func zlN []))] h3 fun v8 h9 =>
 zm true v8 (fun Q10 =>
 za 1 v0 fun v11 =>
 aLoad false 1 v11 h9 fun v12 =>
 za 1 v2 fun v13 =>
 aLoad false 1 v13 h9 fun v14 =>
 aCall Tryz.prog (.p (.func zZ [])) [v12,v14,(.p (.func zlO []))] h9 fun v15 h16 =>
 (h16=h9∧Q10 v15)) fun v17 =>
 K v17 h9
def zrd:Nat→List Nat:=fun _=>[]
theorem zzv (x0 x1:AV) (H:List Ob) (r:AV) (Ho:List Ob):aBody Tryz.prog zrd Tryz.f32 H [x0,x1] r Ho=ztN x0 x1 H (fun v H'=>Gives H.length v H' r Ho):=by kernel_rfl
theorem zzw {x0 x1:AV} {r:AV} {Ho:List Ob} (h:ztN x0 x1 [] (fun v H'=>Gives 0 v H' r Ho)):Abs.Fn Tryz.prog zlj [] [x0,x1] r Ho :=
 zh mixed zrd (fn:=Tryz.f32) (by kernel_rfl) (by kernel_rfl) (by rw [zzv]; exact h)
def zo7 (q1s2 q1s3 q1s15 q1s16 y0:AV) (H:List Ob) (B1:List AV→List Ob→Prop) (K:AV→List Ob→Prop):Prop :=
 aBin false false .lss y0 q1s16 fun v14 =>
 ze v14
 (zb 1 q1s15 y0 fun v15 =>
 aLoad false 1 v15 H fun v16 =>
 za 0 q1s3 fun v17 =>
 aLoad false 1 v17 H fun v18 =>
 zb 1 v18 y0 fun v19 =>
 aLoad false 1 v19 H fun v20 =>
 aCall Tryz.prog (.p (.func zdu [])) [v16,v20,(.p (.func zbe []))] H fun v21 h22 =>
 aUn .not v21 fun v23 =>
 ze v23
 (K (.p (.bool false)) h22)
 (aBin false false .add y0 (.p (.int .i64 1)) fun v24 =>
 B1 [v24] h22))
 (za 1 q1s2 fun v25 =>
 aLoad false 1 v25 H fun v26 =>
 za 1 q1s3 fun v27 =>
 aLoad false 1 v27 H fun v28 =>
 aCall Tryz.prog (.p (.func zdK [])) [v26,v28,(.p (.func zeO []))] H fun v29 h30 =>
 K v29 h30)
def zo6 (x0 x1:AV) (H:List Ob) (K:AV→List Ob→Prop):Prop :=
 aBox x0 H fun v0 h1 =>
 aBox x1 h1 fun v2 h3 =>
 za 0 v0 fun v4 =>
 aLoad false 1 v4 h3 fun v5 =>
 aLen false false v5 fun v6 =>
 za 0 v2 fun v7 =>
 aLoad false 1 v7 h3 fun v8 =>
 aLen false false v8 fun v9 =>
 aBin false false .neq v6 v9 fun v10 =>
 ze v10
 (K (.p (.bool false)) h3)
 (za 0 v0 fun v11 =>
 aLoad false 1 v11 h3 fun v12 =>
 aLen false false v12 fun v13 =>
 zD 1 [(.p (.int .i64 0))] h3 fun xs H B1=>zo7 v0 v2 v12 v13 (xs.getD 0 Z) H B1 K)
def znX:Nat→List Nat:=fun k=>match k with | 4=>[17] | _=>[]
theorem zwk (x0 x1:AV) (H:List Ob) (r:AV) (Ho:List Ob):aBody Tryz.prog znX Tryz.f34 H [x0,x1] r Ho=zo6 x0 x1 H (fun v H'=>Gives H.length v H' r Ho):=by kernel_rfl
theorem zwl {x0 x1:AV} {r:AV} {Ho:List Ob} (h:zo6 x0 x1 [] (fun v H'=>Gives 0 v H' r Ho)):Abs.Fn Tryz.prog ziJ [] [x0,x1] r Ho :=
 zh mixed znX (fn:=Tryz.f34) (by kernel_rfl) (by kernel_rfl) (by rw [zwk]; exact h)
def zf8 (j1s9 j1s10 j1s13 j1s14 j1s26:AV) (H:List Ob) (B1:List AV→List Ob→Prop) (K:AV→List Ob→Prop):Prop :=
 zbz j1s9 fun v29 =>
 za 1 v29 fun v30 =>
 aLoad false 1 v30 H fun v31 =>
 zk 1 [j1s14] fun v32 =>
 zH false 1 24 v31 v32 H fun v33 h34 =>
 zbz j1s9 fun v35 =>
 za 1 v35 fun v36 =>
 zi 1 v36 v33 h34 fun _ h38 =>
 za 1 j1s13 fun v39 =>
 za 0 v39 fun v40 =>
 aLoad false 1 v40 h38 fun v41 =>
 aBin false false .eql v41 (.p (.int .i64 9)) fun v42 =>
 ze v42
 (zk 1 [j1s14] fun v43 =>
 zH false 1 24 j1s10 v43 h38 fun v44 h45 =>
 aBin false false .add j1s26 (.p (.int .i64 1)) fun v46 =>
 B1 [v44,v46] h45)
 (aBin false false .add j1s26 (.p (.int .i64 1)) fun v47 =>
 B1 [j1s10,v47] h38)
def zrc (q2s0 q2s1 q2s2 q2s9 q2s10 q2s11 q2s12 q2s13 q2s26 q2s32 q2s33 y0 y1:AV) (H:List Ob) (B2:List AV→List Ob→Prop) (B1:List AV→List Ob→Prop) (K:AV→List Ob→Prop):Prop :=
 aBin false false .lss y1 q2s33 fun v18 =>
 ze v18
 (zb 1 q2s32 y1 fun v19 =>
 aLoad false 1 v19 H fun v20 =>
 zbz q2s9 fun v21 =>
 za 1 v21 fun v22 =>
 aLoad false 1 v22 H fun v23 =>
 zb 1 v23 v20 fun v24 =>
 aLoad false 1 v24 H fun v25 =>
 zH false 5 64 y0 v25 H fun v26 h27 =>
 aBin false false .add y1 (.p (.int .i64 1)) fun v28 =>
 B2 [v26,v28] h27)
 (aCall Tryz.prog (.p (.func zcq [])) [q2s11,q2s12] H fun v48 h49 =>
 aBin false false .geq v48 (.p (.int .i64 0)) fun v50 =>
 ze v50
 (zb 2 q2s1 v48 fun v51 =>
 za 1 v51 fun v52 =>
 aLoad false 1 v52 h49 fun v53 =>
 zb 1 q2s2 v48 fun v54 =>
 aLoad false 1 v54 h49 fun v55 =>
 zJ Tryz.prog (.p (.func zo8 [])) [q2s0,q2s12,v53,v55] fun v56 =>
 zf8 q2s9 q2s10 q2s13 v56 q2s26 h49 B1 K)
 (za 1 q2s13 fun v57 =>
 aLoad true 15 v57 h49 fun v58 =>
 aCall Tryz.prog (.p (.func zr7 [])) [v58] h49 fun v59 h60 =>
 ze v59
 (aCall Tryz.prog (.p (.func zkA [])) [q2s9,q2s12,y0] h60 fun v61 h62 =>
 zf8 q2s9 q2s10 q2s13 v61 q2s26 h62 B1 K)
 (aCall Tryz.prog (.p (.func zgC [])) [q2s9,q2s12,y0] h60 fun v63 h64 =>
 zf8 q2s9 q2s10 q2s13 v63 q2s26 h64 B1 K)))
def zrb (q1s0 q1s1 q1s2 q1s8 q1s9 q1s11 q1s24 q1s25 y0 y1:AV) (H:List Ob) (B1:List AV→List Ob→Prop) (K:AV→List Ob→Prop):Prop :=
 aBin false false .lss y1 q1s25 fun v8 =>
 ze v8
 (zb 21 q1s24 y1 fun v9 =>
 aLoad true 21 v9 H fun v10 =>
 zy [(.p (.str [])),(.p (.int .i64 0)),(.p (.str [])),(.p (.int .i64 0)),(.full []),(.full []),(.p (.str [])),(.p (.int .i64 0)),(.p (.int .i64 0)),(.p (.bool false)),(.p (.str [])),(.full []),(.p (.int .i64 0)),(.full []),(.p (.int .i64 0)),(.p (.int .i64 0)),(.full []),(.p (.int .i64 0)),(.p (.int .i64 0)),(.p (.str [])),(.p (.bool false))] H fun v11 h12 =>
 zi 21 v11 v10 h12 fun _ h14 =>
 za 16 v11 fun v15 =>
 aLoad false 1 v15 h14 fun v16 =>
 aLen false false v16 fun v17 =>
 zD 2 [(.full []),(.p (.int .i64 0))] h14 fun xs H B2=>zrc q1s0 q1s1 q1s2 q1s9 y0 q1s11 y1 v11 y1 v16 v17 (xs.getD 0 Z) (xs.getD 1 Z) H B2 B1 K)
 (zbz q1s9 fun v65 =>
 za 2 v65 fun v66 =>
 aLoad false 1 v66 H fun v67 =>
 zp [(.full []),(.full [])] [(0,1,y0),(1,1,v67)] fun v68 =>
 aCall Tryz.prog (.p (.func zlP [])) [v68] H fun v69 h70 =>
 zi 2 q1s8 v69 h70 fun _ h72 =>
 aLoad true 2 q1s8 h72 fun v73 =>
 K v73 h72)
def zrR (x0 x1 x2 x3:AV) (H:List Ob) (K:AV→List Ob→Prop):Prop :=
 zy [(.full []),(.full [])] H fun v0 h1 =>
 zp [(.full []),(.full []),(.full []),(.p (.bool false))] [(0,1,x0),(3,1,x3)] fun v2 =>
 aBox v2 h1 fun v3 h4 =>
 aCall Tryz.prog (.p (.func ziT [])) [x0,(.p (.int .i64 1))] h4 fun v5 h6 =>
 aLen false false x0 fun v7 =>
 zD 2 [(.full []),(.p (.int .i64 0))] h6 fun xs H B1=>zrb x0 x1 x2 v0 v3 v5 x0 v7 (xs.getD 0 Z) (xs.getD 1 Z) H B1 K
def zoZ:Nat→List Nat:=fun k=>match k with | 5=>[10,26] | 9=>[14,34] | _=>[]
theorem zyk (x0 x1 x2 x3:AV) (H:List Ob) (r:AV) (Ho:List Ob):aBody Tryz.prog zoZ Tryz.f37 H [x0,x1,x2,x3] r Ho=zrR x0 x1 x2 x3 H (fun v H'=>Gives H.length v H' r Ho):=by kernel_rfl
theorem zyl {x0 x1 x2 x3:AV} {r:AV} {Ho:List Ob} (h:zrR x0 x1 x2 x3 [] (fun v H'=>Gives 0 v H' r Ho)):Abs.Fn Tryz.prog zfq [] [x0,x1,x2,x3] r Ho :=
 zh mixed zoZ (fn:=Tryz.f37) (by kernel_rfl) (by kernel_rfl) (by rw [zyk]; exact h)
def zaQ (x0 x1:AV) (H:List Ob) (K:AV→List Ob→Prop):Prop :=
 aCall Tryz.prog (.p (.func zaV [])) [x0,x1] H fun v0 h1 =>
 aBin false false .geq v0 (.p (.int .i64 0)) fun v2 =>
 K v2 h1
def zbs:Nat→List Nat:=fun _=>[]
theorem zd0 (x0 x1:AV) (H:List Ob) (r:AV) (Ho:List Ob):aBody Tryz.prog zbs Tryz.f50 H [x0,x1] r Ho=zaQ x0 x1 H (fun v H'=>Gives H.length v H' r Ho):=by kernel_rfl
theorem zd1 {x0 x1:AV} {r:AV} {Ho:List Ob} (h:zaQ x0 x1 [] (fun v H'=>Gives 0 v H' r Ho)):Abs.Fn Tryz.prog zaG [] [x0,x1] r Ho :=
 zh mixed zbs (fn:=Tryz.f50) (by kernel_rfl) (by kernel_rfl) (by rw [zd0]; exact h)
def zm5 (x0 x1 x2:AV) (H:List Ob) (K:AV→List Ob→Prop):Prop :=
 aBox x0 H fun v0 h1 =>
 aLoad true 5 v0 h1 fun v2 =>
 aLoad false 1 x1 h1 fun v3 =>
 aLoad false 1 x2 h1 fun v4 =>
 zb 21 v3 v4 fun v5 =>
 za 1 v5 fun v6 =>
 za 2 v6 fun v7 =>
 aLoad true 2 v7 h1 fun v8 =>
 zJ Tryz.prog (.p (.func zx2 [])) [v2,v8] fun v9 =>
 aUn .not v9 fun v10 =>
 K v10 h1
def zmk:Nat→List Nat:=fun _=>[]
theorem zvj (x0 x1 x2:AV) (H:List Ob) (r:AV) (Ho:List Ob):aBody Tryz.prog zmk Tryz.f51 H [x0,x1,x2] r Ho=zm5 x0 x1 x2 H (fun v H'=>Gives H.length v H' r Ho):=by kernel_rfl
theorem zvk {x0 x1 x2:AV} {r:AV} {Ho:List Ob} (h:zm5 x0 x1 x2 [] (fun v H'=>Gives 0 v H' r Ho)):Abs.Fn Tryz.prog zhl [] [x0,x1,x2] r Ho :=
 zh mixed zmk (fn:=Tryz.f51) (by kernel_rfl) (by kernel_rfl) (by rw [zvj]; exact h)
def zap (q1s1 q1s2 q1s15 q1s16 y0:AV) (H:List Ob) (B1:List AV→List Ob→Prop) (K:AV→List Ob→Prop):Prop :=
 aBin false false .lss y0 q1s16 fun v4 =>
 ze v4
 (zb 1 q1s15 y0 fun v5 =>
 aLoad false 1 v5 H fun v6 =>
 zb 1 q1s1 y0 fun v7 =>
 aLoad false 1 v7 H fun v8 =>
 aCall Tryz.prog q1s2 [v6,v8] H fun v9 h10 =>
 aUn .not v9 fun v11 =>
 ze v11
 (K (.p (.bool false)) h10)
 (aBin false false .add y0 (.p (.int .i64 1)) fun v12 =>
 B1 [v12] h10))
 (K (.p (.bool true)) H)
def zV (x0 x1 x2:AV) (H:List Ob) (K:AV→List Ob→Prop):Prop :=
 aLen false false x0 fun v0 =>
 aLen false false x1 fun v1 =>
 aBin false false .neq v0 v1 fun v2 =>
 ze v2
 (K (.p (.bool false)) H)
 (aLen false false x0 fun v3 =>
 zD 1 [(.p (.int .i64 0))] H fun xs H B1=>zap x1 x2 x0 v3 (xs.getD 0 Z) H B1 K)
def zam:Nat→List Nat:=fun k=>match k with | 4=>[17] | _=>[]
theorem zbM (x0 x1 x2:AV) (H:List Ob) (r:AV) (Ho:List Ob):aBody Tryz.prog zam Tryz.f54 H [x0,x1,x2] r Ho=zV x0 x1 x2 H (fun v H'=>Gives H.length v H' r Ho):=by kernel_rfl
theorem zbN {x0 x1 x2:AV} {r:AV} {Ho:List Ob} (h:zV x0 x1 x2 [] (fun v H'=>Gives 0 v H' r Ho)):Abs.Fn Tryz.prog zT [] [x0,x1,x2] r Ho :=
 zh mixed zam (fn:=Tryz.f54) (by kernel_rfl) (by kernel_rfl) (by rw [zbM]; exact h)
def zo0 (x0 x1:AV) (H:List Ob) (K:AV→List Ob→Prop):Prop :=
 aCall Tryz.prog (.p (.func zS [])) [x0,x1,(.p (.func zgZ []))] H fun v0 h1 =>
 K v0 h1
def znU:Nat→List Nat:=fun _=>[]
theorem zwe (x0 x1:AV) (H:List Ob) (r:AV) (Ho:List Ob):aBody Tryz.prog znU Tryz.f55 H [x0,x1] r Ho=zo0 x0 x1 H (fun v H'=>Gives H.length v H' r Ho):=by kernel_rfl
theorem zwf {x0 x1:AV} {r:AV} {Ho:List Ob} (h:zo0 x0 x1 [] (fun v H'=>Gives 0 v H' r Ho)):Abs.Fn Tryz.prog zlN [] [x0,x1] r Ho :=
 zh mixed znU (fn:=Tryz.f55) (by kernel_rfl) (by kernel_rfl) (by rw [zwe]; exact h)
def zao (q1s1 q1s2 q1s15 q1s16 y0:AV) (H:List Ob) (B1:List AV→List Ob→Prop) (K:AV→List Ob→Prop):Prop :=
 aBin false false .lss y0 q1s16 fun v4 =>
 ze v4
 (zb 5 q1s15 y0 fun v5 =>
 aLoad true 5 v5 H fun v6 =>
 zy [(.p (.int .i64 0)),(.p (.int .i64 0)),(.p (.bool false)),(.p (.str [])),(.full [])] H fun v7 h8 =>
 zi 5 v7 v6 h8 fun _ h10 =>
 zb 5 q1s1 y0 fun v11 =>
 aLoad true 5 v11 h10 fun v12 =>
 zy [(.p (.int .i64 0)),(.p (.int .i64 0)),(.p (.bool false)),(.p (.str [])),(.full [])] h10 fun v13 h14 =>
 zi 5 v13 v12 h14 fun _ h16 =>
 aLoad true 5 v7 h16 fun v17 =>
 aLoad true 5 v13 h16 fun v18 =>
 aCall Tryz.prog q1s2 [v17,v18] h16 fun v19 h20 =>
 aUn .not v19 fun v21 =>
 ze v21
 (K (.p (.bool false)) h20)
 (aBin false false .add y0 (.p (.int .i64 1)) fun v22 =>
 B1 [v22] h20))
 (K (.p (.bool true)) H)
def zU (x0 x1 x2:AV) (H:List Ob) (K:AV→List Ob→Prop):Prop :=
 aLen false false x0 fun v0 =>
 aLen false false x1 fun v1 =>
 aBin false false .neq v0 v1 fun v2 =>
 ze v2
 (K (.p (.bool false)) H)
 (aLen false false x0 fun v3 =>
 zD 1 [(.p (.int .i64 0))] H fun xs H B1=>zao x1 x2 x0 v3 (xs.getD 0 Z) H B1 K)
def zal:Nat→List Nat:=fun k=>match k with | 4=>[17] | _=>[]
theorem zbK (x0 x1 x2:AV) (H:List Ob) (r:AV) (Ho:List Ob):aBody Tryz.prog zal Tryz.f56 H [x0,x1,x2] r Ho=zU x0 x1 x2 H (fun v H'=>Gives H.length v H' r Ho):=by kernel_rfl
theorem zbL {x0 x1 x2:AV} {r:AV} {Ho:List Ob} (h:zU x0 x1 x2 [] (fun v H'=>Gives 0 v H' r Ho)):Abs.Fn Tryz.prog zS [] [x0,x1,x2] r Ho :=
 zh mixed zal (fn:=Tryz.f56) (by kernel_rfl) (by kernel_rfl) (by rw [zbK]; exact h)
def zaE (q1s1 q1s2 q1s15 q1s16 y0:AV) (H:List Ob) (B1:List AV→List Ob→Prop) (K:AV→List Ob→Prop):Prop :=
 aBin false false .lss y0 q1s16 fun v4 =>
 ze v4
 (zb 6 q1s15 y0 fun v5 =>
 aLoad true 6 v5 H fun v6 =>
 zy [(.p (.int .i64 0)),(.p (.int .i64 0)),(.p (.int .i64 0)),(.p (.bool false)),(.p (.str [])),(.full [])] H fun v7 h8 =>
 zi 6 v7 v6 h8 fun _ h10 =>
 zb 6 q1s1 y0 fun v11 =>
 aLoad true 6 v11 h10 fun v12 =>
 zy [(.p (.int .i64 0)),(.p (.int .i64 0)),(.p (.int .i64 0)),(.p (.bool false)),(.p (.str [])),(.full [])] h10 fun v13 h14 =>
 zi 6 v13 v12 h14 fun _ h16 =>
 aLoad true 6 v7 h16 fun v17 =>
 aLoad true 6 v13 h16 fun v18 =>
 aCall Tryz.prog q1s2 [v17,v18] h16 fun v19 h20 =>
 aUn .not v19 fun v21 =>
 ze v21
 (K (.p (.bool false)) h20)
 (aBin false false .add y0 (.p (.int .i64 1)) fun v22 =>
 B1 [v22] h20))
 (K (.p (.bool true)) H)
def z6 (x0 x1 x2:AV) (H:List Ob) (K:AV→List Ob→Prop):Prop :=
 aLen false false x0 fun v0 =>
 aLen false false x1 fun v1 =>
 aBin false false .neq v0 v1 fun v2 =>
 ze v2
 (K (.p (.bool false)) H)
 (aLen false false x0 fun v3 =>
 zD 1 [(.p (.int .i64 0))] H fun xs H B1=>zaE x1 x2 x0 v3 (xs.getD 0 Z) H B1 K)
def zaw:Nat→List Nat:=fun k=>match k with | 4=>[17] | _=>[]
theorem zb6 (x0 x1 x2:AV) (H:List Ob) (r:AV) (Ho:List Ob):aBody Tryz.prog zaw Tryz.f58 H [x0,x1,x2] r Ho=z6 x0 x1 x2 H (fun v H'=>Gives H.length v H' r Ho):=by kernel_rfl
theorem zb7 {x0 x1 x2:AV} {r:AV} {Ho:List Ob} (h:z6 x0 x1 x2 [] (fun v H'=>Gives 0 v H' r Ho)):Abs.Fn Tryz.prog zZ [] [x0,x1,x2] r Ho :=
 zh mixed zaw (fn:=Tryz.f58) (by kernel_rfl) (by kernel_rfl) (by rw [zb6]; exact h)
def zo1 (x0 x1:AV) (H:List Ob) (K:AV→List Ob→Prop):Prop :=
 aBox x0 H fun v0 h1 =>
 aBox x1 h1 fun v2 h3 =>
 aLoad true 6 v0 h3 fun v4 =>
 aLoad true 6 v2 h3 fun v5 =>
 aCall Tryz.prog (.p (.func zeO [])) [v4,v5] h3 fun v6 h7 =>
 aBin false false .eql v6 (.p (.int .i64 0)) fun v8 =>
 K v8 h7
def znV:Nat→List Nat:=fun _=>[]
theorem zwg (x0 x1:AV) (H:List Ob) (r:AV) (Ho:List Ob):aBody Tryz.prog znV Tryz.f59 H [x0,x1] r Ho=zo1 x0 x1 H (fun v H'=>Gives H.length v H' r Ho):=by kernel_rfl
theorem zwh {x0 x1:AV} {r:AV} {Ho:List Ob} (h:zo1 x0 x1 [] (fun v H'=>Gives 0 v H' r Ho)):Abs.Fn Tryz.prog zlO [] [x0,x1] r Ho :=
 zh mixed znV (fn:=Tryz.f59) (by kernel_rfl) (by kernel_rfl) (by rw [zwg]; exact h)
def zm6 (x0 x1:AV) (H:List Ob) (K:AV→List Ob→Prop):Prop :=
 aBox x0 H fun v0 h1 =>
 aBox x1 h1 fun v2 h3 =>
 za 0 v0 fun v4 =>
 aLoad false 1 v4 h3 fun v5 =>
 za 0 v2 fun v6 =>
 aLoad false 1 v6 h3 fun v7 =>
 zJ Tryz.prog (.p (.func zc1 [])) [v5,v7] fun v8 =>
 za 1 v0 fun v9 =>
 aLoad true 5 v9 h3 fun v10 =>
 za 1 v2 fun v11 =>
 aLoad true 5 v11 h3 fun v12 =>
 zJ Tryz.prog (.p (.func zbe [])) [v10,v12] fun v13 =>
 zk 1 [v8,v13] fun v14 =>
 zJ Tryz.prog (.p (.func zj8 [])) [v14] fun v15 =>
 K v15 h3
def zml:Nat→List Nat:=fun _=>[]
theorem zvl (x0 x1:AV) (H:List Ob) (r:AV) (Ho:List Ob):aBody Tryz.prog zml Tryz.f60 H [x0,x1] r Ho=zm6 x0 x1 H (fun v H'=>Gives H.length v H' r Ho):=by kernel_rfl
theorem zvm {x0 x1:AV} {r:AV} {Ho:List Ob} (h:zm6 x0 x1 [] (fun v H'=>Gives 0 v H' r Ho)):Abs.Fn Tryz.prog zeO [] [x0,x1] r Ho :=
 zh mixed zml (fn:=Tryz.f60) (by kernel_rfl) (by kernel_rfl) (by rw [zvl]; exact h)
def zc9 (q2s2 q2s8 q2s18 y0:AV) (H:List Ob) (B2:List AV→List Ob→Prop) (B1:List AV→List Ob→Prop) (K:AV→List Ob→Prop):Prop :=
 aLen true false y0 fun v16 =>
 aBin false false .gtr v16 (.p (.int .i64 0)) fun v17 =>
 ze v17
 (zb 5 y0 (.p (.int .i64 0)) fun v18 =>
 aLoad true 5 v18 H fun v19 =>
 aLoad true 5 q2s8 H fun v20 =>
 zJ Tryz.prog q2s2 [v19,v20] fun v21 =>
 aBin false false .lss v21 (.p (.int .i64 0)) fun v22 =>
 ze v22
 (zbg false 5 y0 (some (.p (.int .i64 1))) none none fun v23 =>
 B2 [v23] H)
 (aLen true false y0 fun v24 =>
 aBin false false .eql v24 (.p (.int .i64 0)) fun v25 =>
 ze v25
 (K (.p (.bool false)) H)
 (zb 5 y0 (.p (.int .i64 0)) fun v26 =>
 aLoad true 5 v26 H fun v27 =>
 aLoad true 5 q2s8 H fun v28 =>
 zJ Tryz.prog q2s2 [v27,v28] fun v29 =>
 aBin false false .neq v29 (.p (.int .i64 0)) fun v30 =>
 ze v30
 (K (.p (.bool false)) H)
 (zbg false 5 y0 (some (.p (.int .i64 1))) none none fun v31 =>
 aBin false false .add q2s18 (.p (.int .i64 1)) fun v32 =>
 B1 [v31,v32] H))))
 (aLen true false y0 fun v33 =>
 aBin false false .eql v33 (.p (.int .i64 0)) fun v34 =>
 ze v34
 (K (.p (.bool false)) H)
 (zb 5 y0 (.p (.int .i64 0)) fun v35 =>
 aLoad true 5 v35 H fun v36 =>
 aLoad true 5 q2s8 H fun v37 =>
 zJ Tryz.prog q2s2 [v36,v37] fun v38 =>
 aBin false false .neq v38 (.p (.int .i64 0)) fun v39 =>
 ze v39
 (K (.p (.bool false)) H)
 (zbg false 5 y0 (some (.p (.int .i64 1))) none none fun v40 =>
 aBin false false .add q2s18 (.p (.int .i64 1)) fun v41 =>
 B1 [v40,v41] H)))
def zga (q1s2 q1s16 q1s17 y0 y1:AV) (H:List Ob) (B1:List AV→List Ob→Prop) (K:AV→List Ob→Prop):Prop :=
 aBin false false .lss y1 q1s17 fun v9 =>
 ze v9
 (zb 5 q1s16 y1 fun v10 =>
 aLoad true 5 v10 H fun v11 =>
 zy [(.p (.int .i64 0)),(.p (.int .i64 0)),(.p (.bool false)),(.p (.str [])),(.full [])] H fun v12 h13 =>
 zi 5 v12 v11 h13 fun _ h15 =>
 zD 1 [y0] h15 fun xs H B2=>zc9 q1s2 v12 y1 (xs.getD 0 Z) H B2 B1 K)
 (K (.p (.bool true)) H)
def zej (x0 x1 x2:AV) (H:List Ob) (K:AV→List Ob→Prop):Prop :=
 aCall Tryz.prog (.p (.func zaa [])) [x1] H fun v0 h1 =>
 aCall Tryz.prog (.p (.func zay [])) [v0,x2] h1 fun v2 h3 =>
 aCall Tryz.prog (.p (.func zaa [])) [x0] h3 fun v4 h5 =>
 aCall Tryz.prog (.p (.func zay [])) [v4,x2] h5 fun v6 h7 =>
 aLen false false v6 fun v8 =>
 zD 2 [v2,(.p (.int .i64 0))] h7 fun xs H B1=>zga x2 v6 v8 (xs.getD 0 Z) (xs.getD 1 Z) H B1 K
def zfy:Nat→List Nat:=fun k=>match k with | 3=>[1,18] | 5=>[1] | _=>[]
theorem zlQ (x0 x1 x2:AV) (H:List Ob) (r:AV) (Ho:List Ob):aBody Tryz.prog zfy Tryz.f63 H [x0,x1,x2] r Ho=zej x0 x1 x2 H (fun v H'=>Gives H.length v H' r Ho):=by kernel_rfl
theorem zlR {x0 x1 x2:AV} {r:AV} {Ho:List Ob} (h:zej x0 x1 x2 [] (fun v H'=>Gives 0 v H' r Ho)):Abs.Fn Tryz.prog zdu [] [x0,x1,x2] r Ho :=
 zh mixed zfy (fn:=Tryz.f63) (by kernel_rfl) (by kernel_rfl) (by rw [zlQ]; exact h)
def zdt (q2s2 q2s8 q2s18 y0:AV) (H:List Ob) (B2:List AV→List Ob→Prop) (B1:List AV→List Ob→Prop) (K:AV→List Ob→Prop):Prop :=
 aLen true false y0 fun v16 =>
 aBin false false .gtr v16 (.p (.int .i64 0)) fun v17 =>
 ze v17
 (zb 6 y0 (.p (.int .i64 0)) fun v18 =>
 aLoad true 6 v18 H fun v19 =>
 aLoad true 6 q2s8 H fun v20 =>
 zJ Tryz.prog q2s2 [v19,v20] fun v21 =>
 aBin false false .lss v21 (.p (.int .i64 0)) fun v22 =>
 ze v22
 (zbg false 6 y0 (some (.p (.int .i64 1))) none none fun v23 =>
 B2 [v23] H)
 (aLen true false y0 fun v24 =>
 aBin false false .eql v24 (.p (.int .i64 0)) fun v25 =>
 ze v25
 (K (.p (.bool false)) H)
 (zb 6 y0 (.p (.int .i64 0)) fun v26 =>
 aLoad true 6 v26 H fun v27 =>
 aLoad true 6 q2s8 H fun v28 =>
 zJ Tryz.prog q2s2 [v27,v28] fun v29 =>
 aBin false false .neq v29 (.p (.int .i64 0)) fun v30 =>
 ze v30
 (K (.p (.bool false)) H)
 (zbg false 6 y0 (some (.p (.int .i64 1))) none none fun v31 =>
 aBin false false .add q2s18 (.p (.int .i64 1)) fun v32 =>
 B1 [v31,v32] H))))
 (aLen true false y0 fun v33 =>
 aBin false false .eql v33 (.p (.int .i64 0)) fun v34 =>
 ze v34
 (K (.p (.bool false)) H)
 (zb 6 y0 (.p (.int .i64 0)) fun v35 =>
 aLoad true 6 v35 H fun v36 =>
 aLoad true 6 q2s8 H fun v37 =>
 zJ Tryz.prog q2s2 [v36,v37] fun v38 =>
 aBin false false .neq v38 (.p (.int .i64 0)) fun v39 =>
 ze v39
 (K (.p (.bool false)) H)
 (zbg false 6 y0 (some (.p (.int .i64 1))) none none fun v40 =>
 aBin false false .add q2s18 (.p (.int .i64 1)) fun v41 =>
 B1 [v40,v41] H)))
def zg3 (q1s2 q1s16 q1s17 y0 y1:AV) (H:List Ob) (B1:List AV→List Ob→Prop) (K:AV→List Ob→Prop):Prop :=
 aBin false false .lss y1 q1s17 fun v9 =>
 ze v9
 (zb 6 q1s16 y1 fun v10 =>
 aLoad true 6 v10 H fun v11 =>
 zy [(.p (.int .i64 0)),(.p (.int .i64 0)),(.p (.int .i64 0)),(.p (.bool false)),(.p (.str [])),(.full [])] H fun v12 h13 =>
 zi 6 v12 v11 h13 fun _ h15 =>
 zD 1 [y0] h15 fun xs H B2=>zdt q1s2 v12 y1 (xs.getD 0 Z) H B2 B1 K)
 (K (.p (.bool true)) H)
def zeP (x0 x1 x2:AV) (H:List Ob) (K:AV→List Ob→Prop):Prop :=
 aCall Tryz.prog (.p (.func zac [])) [x1] H fun v0 h1 =>
 aCall Tryz.prog (.p (.func zaI [])) [v0,x2] h1 fun v2 h3 =>
 aCall Tryz.prog (.p (.func zac [])) [x0] h3 fun v4 h5 =>
 aCall Tryz.prog (.p (.func zaI [])) [v4,x2] h5 fun v6 h7 =>
 aLen false false v6 fun v8 =>
 zD 2 [v2,(.p (.int .i64 0))] h7 fun xs H B1=>zg3 x2 v6 v8 (xs.getD 0 Z) (xs.getD 1 Z) H B1 K
def zf9:Nat→List Nat:=fun k=>match k with | 3=>[1,18] | 5=>[1] | _=>[]
theorem zmm (x0 x1 x2:AV) (H:List Ob) (r:AV) (Ho:List Ob):aBody Tryz.prog zf9 Tryz.f65 H [x0,x1,x2] r Ho=zeP x0 x1 x2 H (fun v H'=>Gives H.length v H' r Ho):=by kernel_rfl
theorem zmn {x0 x1 x2:AV} {r:AV} {Ho:List Ob} (h:zeP x0 x1 x2 [] (fun v H'=>Gives 0 v H' r Ho)):Abs.Fn Tryz.prog zdK [] [x0,x1,x2] r Ho :=
 zh mixed zf9 (fn:=Tryz.f65) (by kernel_rfl) (by kernel_rfl) (by rw [zmm]; exact h)
def zsG (q1s0 q1s1 q1s3 q1s10 q1s15 q1s16 y0 y1:AV) (H:List Ob) (B1:List AV→List Ob→Prop) (K:AV→List Ob→Prop):Prop :=
 aBin false false .lss y1 q1s16 fun v3 =>
 ze v3
 (zb 5 q1s15 y1 fun v4 =>
 aLoad true 5 v4 H fun v5 =>
 zy [(.p (.int .i64 0)),(.p (.int .i64 0)),(.p (.bool false)),(.p (.str [])),(.full [])] H fun v6 h7 =>
 zi 5 v6 v5 h7 fun _ h9 =>
 aCall Tryz.prog (.p (.func zhm [])) [q1s0,q1s1,y1] h9 fun v10 h11 =>
 aLen true false q1s3 fun v12 =>
 aBin false false .lss v10 v12 fun v13 =>
 ze v13
 (zex (.int .i64) false (.p (.int .i64 0)) q1s10 v10 h11 fun v14 h15 =>
 zb 1 q1s3 v10 fun v16 =>
 aLoad false 1 v16 h15 fun v17 =>
 aBin false false .lss v14 v17 fun v18 =>
 ze v18
 (aLoad true 5 v6 h15 fun v19 =>
 zk 5 [v19] fun v20 =>
 zH false 5 64 y0 v20 h15 fun v21 h22 =>
 zex (.int .i64) false (.p (.int .i64 0)) q1s10 v10 h22 fun v23 h24 =>
 aBin false false .add v23 (.p (.int .i64 1)) fun v25 =>
 zcB (.int .i64) q1s10 v10 v25 h24 fun _ h27 =>
 aBin false false .add y1 (.p (.int .i64 1)) fun v28 =>
 B1 [v21,v28] h27)
 (zex (.int .i64) false (.p (.int .i64 0)) q1s10 v10 h15 fun v29 h30 =>
 aBin false false .add v29 (.p (.int .i64 1)) fun v31 =>
 zcB (.int .i64) q1s10 v10 v31 h30 fun _ h33 =>
 aBin false false .add y1 (.p (.int .i64 1)) fun v34 =>
 B1 [y0,v34] h33))
 (zex (.int .i64) false (.p (.int .i64 0)) q1s10 v10 h11 fun v35 h36 =>
 aBin false false .add v35 (.p (.int .i64 1)) fun v37 =>
 zcB (.int .i64) q1s10 v10 v37 h36 fun _ h39 =>
 aBin false false .add y1 (.p (.int .i64 1)) fun v40 =>
 B1 [y0,v40] h39))
 (K y0 H)
def ztO (x0 x1 x2 x3:AV) (H:List Ob) (K:AV→List Ob→Prop):Prop :=
 zsA H fun v0 h1 =>
 aLen false false x2 fun v2 =>
 zD 2 [(.full []),(.p (.int .i64 0))] h1 fun xs H B1=>zsG x0 x1 x3 v0 x2 v2 (xs.getD 0 Z) (xs.getD 1 Z) H B1 K
def zrf:Nat→List Nat:=fun k=>match k with | 4=>[9,17] | _=>[]
theorem zzx (x0 x1 x2 x3:AV) (H:List Ob) (r:AV) (Ho:List Ob):aBody Tryz.prog zrf Tryz.f69 H [x0,x1,x2,x3] r Ho=ztO x0 x1 x2 x3 H (fun v H'=>Gives H.length v H' r Ho):=by kernel_rfl
theorem zzy {x0 x1 x2 x3:AV} {r:AV} {Ho:List Ob} (h:ztO x0 x1 x2 x3 [] (fun v H'=>Gives 0 v H' r Ho)):Abs.Fn Tryz.prog zo8 [] [x0,x1,x2,x3] r Ho :=
 zh mixed zrf (fn:=Tryz.f69) (by kernel_rfl) (by kernel_rfl) (by rw [zzx]; exact h)
def zjN (q1s0 q1s1 q1s12 q1s13 y0 y1:AV) (H:List Ob) (B1:List AV→List Ob→Prop) (K:AV→List Ob→Prop):Prop :=
 aBin false false .lss y1 q1s13 fun v1 =>
 ze v1
 (zb 5 q1s12 y1 fun v2 =>
 aLoad true 5 v2 H fun v3 =>
 zy [(.p (.int .i64 0)),(.p (.int .i64 0)),(.p (.bool false)),(.p (.str [])),(.full [])] H fun v4 h5 =>
 zi 5 v4 v3 h5 fun _ h7 =>
 zbz q1s0 fun v8 =>
 za 0 v8 fun v9 =>
 aLoad false 1 v9 h7 fun v10 =>
 zb 21 v10 q1s1 fun v11 =>
 za 1 v11 fun v12 =>
 aLoad true 15 v12 h7 fun v13 =>
 aLoad true 5 v4 h7 fun v14 =>
 zJ Tryz.prog (.p (.func zr6 [])) [v13,v14] fun v15 =>
 zB v15 0 fun v16 =>
 zB v15 1 fun v17 =>
 aBin false false .neq v17 (.p (.int .i64 0)) fun v18 =>
 ze v18
 (zbz q1s0 fun v19 =>
 za 2 v19 fun v20 =>
 aLoad false 1 v20 h7 fun v21 =>
 aLoad true 5 v4 h7 fun v22 =>
 zp [(.p (.int .i64 0)),(.p (.int .i64 0)),(.p (.int .i64 0)),(.p (.bool false)),(.p (.str [])),(.full [])] [(0,1,q1s1),(1,5,v22)] fun v23 =>
 zk 6 [v23] fun v24 =>
 aCalm [v21,v24] <|
 zH false 6 72 v21 v24 h7 fun v25 h26 =>
 zbz q1s0 fun v27 =>
 za 2 v27 fun v28 =>
 zi 1 v28 v25 h26 fun _ h30 =>
 zH false 5 64 y0 v16 h30 fun v31 h32 =>
 aBin false false .add y1 (.p (.int .i64 1)) fun v33 =>
 B1 [v31,v33] h32)
 (zH false 5 64 y0 v16 h7 fun v34 h35 =>
 aBin false false .add y1 (.p (.int .i64 1)) fun v36 =>
 B1 [v34,v36] h35))
 (K y0 H)
def zij (x0 x1 x2:AV) (H:List Ob) (K:AV→List Ob→Prop):Prop :=
 aLen false false x2 fun v0 =>
 zD 2 [(.full []),(.p (.int .i64 0))] H fun xs H B1=>zjN x0 x1 x2 v0 (xs.getD 0 Z) (xs.getD 1 Z) H B1 K
def ziX:Nat→List Nat:=fun k=>match k with | 3=>[7,14] | _=>[]
theorem zqH (x0 x1 x2:AV) (H:List Ob) (r:AV) (Ho:List Ob):aBody Tryz.prog ziX Tryz.f72 H [x0,x1,x2] r Ho=zij x0 x1 x2 H (fun v H'=>Gives H.length v H' r Ho):=by kernel_rfl
theorem zo9 {x0 x1 x2:AV} {Hin:List Ob} {r:AV} {Ho:List Ob} (h:zij x0 x1 x2 Hin (fun v H'=>Gives Hin.length v H' r Ho)):Abs.Fn Tryz.prog zgC Hin [x0,x1,x2] r Ho :=
 zh mixed ziX (fn:=Tryz.f72) (by kernel_rfl) (by kernel_rfl) (by rw [zqH]; exact h)
def zo3 (q1s1 q1s2 q1s3 q1s7 q1s8 y0:AV) (H:List Ob) (B1:List AV→List Ob→Prop) (K:AV→List Ob→Prop):Prop :=
 aBin false false .lss y0 q1s8 fun v9 =>
 ze v9
 (zb 1 q1s7 y0 fun v10 =>
 aLoad false 1 v10 H fun v11 =>
 za 0 q1s3 fun v12 =>
 aLoad false 1 v12 H fun v13 =>
 zJ Tryz.prog (.p (.func zaa [])) [v11] fun v14 =>
 zJ Tryz.prog (.p (.func zay [])) [v14,(.p (.func zbe []))] fun v15 =>
 zJ Tryz.prog (.p (.func zaJ [])) [v15] fun v16 =>
 zk 1 [v16] fun v17 =>
 aCalm [v13,v17] <|
 zH false 1 24 v13 v17 H fun v18 h19 =>
 za 0 q1s3 fun v20 =>
 zi 1 v20 v18 h19 fun _ h22 =>
 aBin false false .add y0 (.p (.int .i64 1)) fun v23 =>
 B1 [v23] h22)
 (za 1 q1s1 fun v24 =>
 aLoad false 1 v24 H fun v25 =>
 aCall Tryz.prog (.p (.func zac [])) [v25] H fun v26 h27 =>
 aCall Tryz.prog (.p (.func zaI [])) [v26,(.p (.func zeO []))] h27 fun v28 h29 =>
 aCall Tryz.prog (.p (.func zbC [])) [v28] h29 fun v30 h31 =>
 za 1 q1s3 fun v32 =>
 zi 1 v32 v30 h31 fun _ h34 =>
 aLoad true 2 q1s3 h34 fun v35 =>
 zi 2 q1s2 v35 h34 fun _ h37 =>
 aLoad true 2 q1s2 h37 fun v38 =>
 K v38 h37)
def zo2 (x0:AV) (H:List Ob) (K:AV→List Ob→Prop):Prop :=
 aBox x0 H fun v0 h1 =>
 zy [(.full []),(.full [])] h1 fun v2 h3 =>
 zy [(.full []),(.full [])] h3 fun v4 h5 =>
 za 0 v0 fun v6 =>
 aLoad false 1 v6 h5 fun v7 =>
 aLen false false v7 fun v8 =>
 zD 1 [(.p (.int .i64 0))] h5 fun xs H B1=>zo3 v0 v2 v4 v7 v8 (xs.getD 0 Z) H B1 K
def znW:Nat→List Nat:=fun k=>match k with | 3=>[9] | _=>[]
theorem zwi (x0:AV) (H:List Ob) (r:AV) (Ho:List Ob):aBody Tryz.prog znW Tryz.f73 H [x0] r Ho=zo2 x0 H (fun v H'=>Gives H.length v H' r Ho):=by kernel_rfl
theorem zwj {x0:AV} {r:AV} {Ho:List Ob} (h:zo2 x0 [] (fun v H'=>Gives 0 v H' r Ho)):Abs.Fn Tryz.prog zlP [] [x0] r Ho :=
 zh mixed znW (fn:=Tryz.f73) (by kernel_rfl) (by kernel_rfl) (by rw [zwi]; exact h)
def zbQ (q1s0 q1s1 q1s7 y0:AV) (H:List Ob) (B1:List AV→List Ob→Prop) (K:AV→List Ob→Prop):Prop :=
 aBin false false .lss y0 q1s7 fun v1 =>
 ze v1
 (zb 5 q1s0 y0 fun v2 =>
 aLoad true 5 v2 H fun v3 =>
 aCall Tryz.prog q1s1 [v3] H fun v4 h5 =>
 ze v4
 (K y0 h5)
 (aBin false false .add y0 (.p (.int .i64 1)) fun v6 =>
 B1 [v6] h5))
 (K (.p (.int .i64 (-1))) H)
def za5 (x0 x1:AV) (H:List Ob) (K:AV→List Ob→Prop):Prop :=
 aLen false false x0 fun v0 =>
 zD 1 [(.p (.int .i64 0))] H fun xs H B1=>zbQ x0 x1 v0 (xs.getD 0 Z) H B1 K
def zbO:Nat→List Nat:=fun k=>match k with | 2=>[8] | _=>[]
theorem zeH (x0 x1:AV) (H:List Ob) (r:AV) (Ho:List Ob):aBody Tryz.prog zbO Tryz.f90 H [x0,x1] r Ho=za5 x0 x1 H (fun v H'=>Gives H.length v H' r Ho):=by kernel_rfl
theorem zeI {x0 x1:AV} {r:AV} {Ho:List Ob} (h:za5 x0 x1 [] (fun v H'=>Gives 0 v H' r Ho)):Abs.Fn Tryz.prog zaV [] [x0,x1] r Ho :=
 zh mixed zbO (fn:=Tryz.f90) (by kernel_rfl) (by kernel_rfl) (by rw [zeH]; exact h)
def zcr (x0 x1:AV) (H:List Ob) (K:AV→List Ob→Prop):Prop :=
 aCall Tryz.prog (.p (.func zcL [])) [x0] H fun v0 h1 =>
 aCall Tryz.prog (.p (.func zcc [])) [v0,x1] h1 fun _ h3 =>
 K v0 h3
def zdf:Nat→List Nat:=fun _=>[]
theorem ziH (x0 x1:AV) (H:List Ob) (r:AV) (Ho:List Ob):aBody Tryz.prog zdf Tryz.f97 H [x0,x1] r Ho=zcr x0 x1 H (fun v H'=>Gives H.length v H' r Ho):=by kernel_rfl
theorem ziI {x0 x1:AV} {r:AV} {Ho:List Ob} (h:zcr x0 x1 [] (fun v H'=>Gives 0 v H' r Ho)):Abs.Fn Tryz.prog zay [] [x0,x1] r Ho :=
 zh mixed zdf (fn:=Tryz.f97) (by kernel_rfl) (by kernel_rfl) (by rw [ziH]; exact h)
def zbq (x0:AV) (H:List Ob) (K:AV→List Ob→Prop):Prop :=
 aBox x0 H fun v0 h1 =>
 zaA zY [v0] h1 fun v2 h3 =>
 K v2 h3
def zcd:Nat→List Nat:=fun _=>[]
theorem zf5 (x0:AV) (H:List Ob) (r:AV) (Ho:List Ob):aBody Tryz.prog zcd Tryz.f98 H [x0] r Ho=zbq x0 H (fun v H'=>Gives H.length v H' r Ho):=by kernel_rfl
theorem zf6 {x0:AV} {r:AV} {Ho:List Ob} (h:zbq x0 [] (fun v H'=>Gives 0 v H' r Ho)):Abs.Fn Tryz.prog zaa [] [x0] r Ho :=
 zh mixed zcd (fn:=Tryz.f98) (by kernel_rfl) (by kernel_rfl) (by rw [zf5]; exact h)
def zcM (x0 x1:AV) (H:List Ob) (K:AV→List Ob→Prop):Prop :=
 aCall Tryz.prog (.p (.func zcT [])) [x0] H fun v0 h1 =>
 aCall Tryz.prog (.p (.func zcx [])) [v0,x1] h1 fun _ h3 =>
 K v0 h3
def zdF:Nat→List Nat:=fun _=>[]
theorem zjp (x0 x1:AV) (H:List Ob) (r:AV) (Ho:List Ob):aBody Tryz.prog zdF Tryz.f103 H [x0,x1] r Ho=zcM x0 x1 H (fun v H'=>Gives H.length v H' r Ho):=by kernel_rfl
theorem zjq {x0 x1:AV} {r:AV} {Ho:List Ob} (h:zcM x0 x1 [] (fun v H'=>Gives 0 v H' r Ho)):Abs.Fn Tryz.prog zaI [] [x0,x1] r Ho :=
 zh mixed zdF (fn:=Tryz.f103) (by kernel_rfl) (by kernel_rfl) (by rw [zjp]; exact h)
def zbF (x0:AV) (H:List Ob) (K:AV→List Ob→Prop):Prop :=
 aBox x0 H fun v0 h1 =>
 zaA z8 [v0] h1 fun v2 h3 =>
 K v2 h3
def zcy:Nat→List Nat:=fun _=>[]
theorem zgW (x0:AV) (H:List Ob) (r:AV) (Ho:List Ob):aBody Tryz.prog zcy Tryz.f104 H [x0] r Ho=zbF x0 H (fun v H'=>Gives H.length v H' r Ho):=by kernel_rfl
theorem zgX {x0:AV} {r:AV} {Ho:List Ob} (h:zbF x0 [] (fun v H'=>Gives 0 v H' r Ho)):Abs.Fn Tryz.prog zac [] [x0] r Ho :=
 zh mixed zcy (fn:=Tryz.f104) (by kernel_rfl) (by kernel_rfl) (by rw [zgW]; exact h)
def zb1 (x0:AV) (H:List Ob) (K:AV→List Ob→Prop):Prop :=
 aLen false false x0 fun v0 =>
 aLen false false x0 fun v1 =>
 zbg false 6 x0 none (some v0) (some v1) fun v2 =>
 K v2 H
def zcP:Nat→List Nat:=fun _=>[]
theorem zhQ (x0:AV) (H:List Ob) (r:AV) (Ho:List Ob):aBody Tryz.prog zcP Tryz.f116 H [x0] r Ho=zb1 x0 H (fun v H'=>Gives H.length v H' r Ho):=by kernel_rfl
theorem zhR {x0:AV} {r:AV} {Ho:List Ob} (h:zb1 x0 [] (fun v H'=>Gives 0 v H' r Ho)):Abs.Fn Tryz.prog zbC [] [x0] r Ho :=
 zh mixed zcP (fn:=Tryz.f116) (by kernel_rfl) (by kernel_rfl) (by rw [zhQ]; exact h)
def zdd (x0:AV) (H:List Ob) (K:AV→List Ob→Prop):Prop :=
 aCall Tryz.prog (.p (.func zb0 [])) [(.full []),x0] H fun v0 h1 =>
 K v0 h1
def zec:Nat→List Nat:=fun _=>[]
theorem zki (x0:AV) (H:List Ob) (r:AV) (Ho:List Ob):aBody Tryz.prog zec Tryz.f139 H [x0] r Ho=zdd x0 H (fun v H'=>Gives H.length v H' r Ho):=by kernel_rfl
theorem zkj {x0:AV} {r:AV} {Ho:List Ob} (h:zdd x0 [] (fun v H'=>Gives 0 v H' r Ho)):Abs.Fn Tryz.prog zcL [] [x0] r Ho :=
 zh mixed zec (fn:=Tryz.f139) (by kernel_rfl) (by kernel_rfl) (by rw [zki]; exact h)
def zdC (x0:AV) (H:List Ob) (K:AV→List Ob→Prop):Prop :=
 aCall Tryz.prog (.p (.func zci [])) [(.full []),x0] H fun v0 h1 =>
 K v0 h1
def zeE:Nat→List Nat:=fun _=>[]
theorem zk6 (x0:AV) (H:List Ob) (r:AV) (Ho:List Ob):aBody Tryz.prog zeE Tryz.f145 H [x0] r Ho=zdC x0 H (fun v H'=>Gives H.length v H' r Ho):=by kernel_rfl
theorem zk7 {x0:AV} {r:AV} {Ho:List Ob} (h:zdC x0 [] (fun v H'=>Gives 0 v H' r Ho)):Abs.Fn Tryz.prog zcT [] [x0] r Ho :=
 zh mixed zeE (fn:=Tryz.f145) (by kernel_rfl) (by kernel_rfl) (by rw [zk6]; exact h)
end Go.Proofs.YtdmgbhamigegfaaGreatDoor
end

section
/- Made by program (Gen.lean): functions of the dump, over trees. -/
set_option maxRecDepth 4000
set_option linter.unusedVariables false
namespace Go.Proofs.YtdmgbhamigegfaaGreatDoor
open Go Go.Abs
def zhe (q1s0 q1s1 q1s7 y0:AV) (H:List Ob) (B1:List AV→List Ob→Prop) (K:AV→List Ob→Prop):Prop :=
 aBin false false .lss y0 q1s7 fun v1 =>
 ze v1
 (zb 1 q1s0 y0 fun v2 =>
 aLoad false 1 v2 H fun v3 =>
 aBin false false .eql q1s1 v3 fun v4 =>
 ze v4
 (K y0 H)
 (aBin false false .add y0 (.p (.int .i64 1)) fun v5 =>
 B1 [v5] H))
 (K (.p (.int .i64 (-1))) H)
def zfh (x0 x1:AV) (H:List Ob) (K:AV→List Ob→Prop):Prop :=
 aLen false false x0 fun v0 =>
 zD 1 [(.p (.int .i64 0))] H fun xs H B1=>zhe x0 x1 v0 (xs.getD 0 Z) H B1 K
def zgr:Nat→List Nat:=fun k=>match k with | 2=>[8] | _=>[]
theorem zmX (x0 x1:AV) (H:List Ob) (r:AV) (Ho:List Ob):aBody Tryz.prog zgr Tryz.f68 H [x0,x1] r Ho=zfh x0 x1 H (fun v H'=>Gives H.length v H' r Ho):=by kernel_rfl
theorem zmY {x0 x1:AV} {r:AV} {Ho:List Ob} (h:zfh x0 x1 [] (fun v H'=>Gives 0 v H' r Ho)):Abs.Fn Tryz.prog zcq [] [x0,x1] r Ho :=
 zh mixed zgr (fn:=Tryz.f68) (by kernel_rfl) (by kernel_rfl) (by rw [zmX]; exact h)
def zdD (x0 x1:AV) (H:List Ob) (K:AV→List Ob→Prop):Prop :=
 aCall Tryz.prog (.p (.func zcq [])) [x0,x1] H fun v0 h1 =>
 aBin false false .geq v0 (.p (.int .i64 0)) fun v2 =>
 K v2 h1
def zeF:Nat→List Nat:=fun _=>[]
theorem zk8 (x0 x1:AV) (H:List Ob) (r:AV) (Ho:List Ob):aBody Tryz.prog zeF Tryz.f134 H [x0,x1] r Ho=zdD x0 x1 H (fun v H'=>Gives H.length v H' r Ho):=by kernel_rfl
theorem zk9 {x0 x1:AV} {r:AV} {Ho:List Ob} (h:zdD x0 x1 [] (fun v H'=>Gives 0 v H' r Ho)):Abs.Fn Tryz.prog zbG [] [x0,x1] r Ho :=
 zh mixed zeF (fn:=Tryz.f134) (by kernel_rfl) (by kernel_rfl) (by rw [zk8]; exact h)
def zf4 (x0:AV) (H:List Ob) (K:AV→List Ob→Prop):Prop :=
 aLen false false x0 fun v0 =>
 aLen false false x0 fun v1 =>
 zbg false 1 x0 none (some v0) (some v1) fun v2 =>
 K v2 H
def zhd:Nat→List Nat:=fun _=>[]
theorem znH (x0:AV) (H:List Ob) (r:AV) (Ho:List Ob):aBody Tryz.prog zhd Tryz.f135 H [x0] r Ho=zf4 x0 H (fun v H'=>Gives H.length v H' r Ho):=by kernel_rfl
theorem znI {x0:AV} {r:AV} {Ho:List Ob} (h:zf4 x0 [] (fun v H'=>Gives 0 v H' r Ho)):Abs.Fn Tryz.prog zeu [] [x0] r Ho :=
 zh mixed zhd (fn:=Tryz.f135) (by kernel_rfl) (by kernel_rfl) (by rw [znH]; exact h)
end Go.Proofs.YtdmgbhamigegfaaGreatDoor
end
