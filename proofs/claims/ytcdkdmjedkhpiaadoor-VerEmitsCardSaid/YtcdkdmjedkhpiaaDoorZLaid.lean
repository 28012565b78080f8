/-
  DERIVED: THE SHELF's CONTRACTS AT THIS DUMP, IN PLAIN WORDS (tools/lay-plain.mjs out of 'YtcdkdmjedkhpiaaDoorLaid.lean', which tools/lay-shelf.mjs wrote): THE SAME DECLARATIONS UNDER THE SAME NAMES: 'import', 'namespace', 'open', 'def', 'theorem' AND NOTHING ELSE: no command of the shelf's: FOR A HAND-IN. Each laying: the table of numbers ('.._ren') and one theorem, a field a fact of the dump's own or the kernel's comparison; each contract: ONE APPLICATION.
-/
import Derived.Shelf.Strings.Fields
import Derived.Ground.NamesProg
import Derived.Test.YtcdkdmjedkhpiaaDoorProg
namespace Go.Proofs
open Go.Shelf
def Tryd.laysFields_ren : Go.Shelf.Ren := ⟨fun | 157 => 65 | 229 => 76 | 199 => 77 | 261 => 84 | 311 => 89 | 312 => 90 | n => n, fun | 9 => 9 | 31 => 124 | 3 => 3 | 5 => 5 | 4 => 4 | 119 => 143 | 0 => 0 | 40 => 145 | 152 => 154 | 21 => 21 | 154 => 156 | 51 => 157 | 141 => 159 | 196 => 165 | 193 => 162 | 198 => 168 | 49 => 166 | 194 => 163 | 201 => 171 | 226 => 173 | 46 => 174 | 227 => 175 | n => n, fun | 0 => 0 | 6 => 1 | n => n⟩
theorem Tryd.laysFields : Go.Proofs.Lays.n157 Tryd.prog Tryd.laysFields_ren := {
  mixed := by kernel_rfl
  f157 := Tryd.func65.trans (congrArg some (by kernel_rfl))
  f199 := Tryd.func77.trans (congrArg some (by kernel_rfl))
  f229 := Tryd.func76.trans (congrArg some (by kernel_rfl))
  f261 := Tryd.func84.trans (congrArg some (by kernel_rfl))
  f311 := Tryd.func89.trans (congrArg some (by kernel_rfl))
  f312 := Tryd.func90.trans (congrArg some (by kernel_rfl))
  t0 := Tryd.underlying0
  a0 := Tryd.isAgg0
  z0 := Tryd.sizeOf0
  v0 := Tryd.zeroValue0
  t3 := Tryd.underlying3
  a3 := Tryd.isAgg3
  z3 := Tryd.sizeOf3
  v3 := Tryd.zeroValue3
  t4 := Tryd.underlying4
  a4 := Tryd.isAgg4
  z4 := Tryd.sizeOf4
  v4 := Tryd.zeroValue4
  t5 := Tryd.underlying5
  a5 := Tryd.isAgg5
  z5 := Tryd.sizeOf5
  v5 := Tryd.zeroValue5
  t9 := Tryd.underlying9
  a9 := Tryd.isAgg9
  z9 := Tryd.sizeOf9
  v9 := Tryd.zeroValue9
  t21 := Tryd.underlying21
  a21 := Tryd.isAgg21
  z21 := Tryd.sizeOf21
  v21 := Tryd.zeroValue21
  t31 := Tryd.underlying124
  a31 := Tryd.isAgg124
  z31 := Tryd.sizeOf124
  v31 := Tryd.zeroValue124
  t40 := Tryd.underlying145
  a40 := Tryd.isAgg145
  z40 := Tryd.sizeOf145
  v40 := Tryd.zeroValue145
  t46 := Tryd.underlying174
  a46 := Tryd.isAgg174
  z46 := Tryd.sizeOf174
  v46 := Tryd.zeroValue174
  t49 := Tryd.underlying166
  a49 := Tryd.isAgg166
  z49 := Tryd.sizeOf166
  v49 := Tryd.zeroValue166
  t51 := Tryd.underlying157
  a51 := Tryd.isAgg157
  z51 := Tryd.sizeOf157
  v51 := Tryd.zeroValue157
  t119 := Tryd.underlying143
  a119 := Tryd.isAgg143
  z119 := Tryd.sizeOf143
  t141 := Tryd.underlying159
  a141 := Tryd.isAgg159
  z141 := Tryd.sizeOf159
  v141 := Tryd.zeroValue159
  t152 := Tryd.underlying154
  a152 := Tryd.isAgg154
  z152 := Tryd.sizeOf154
  v152 := Tryd.zeroValue154
  t154 := Tryd.underlying156
  a154 := Tryd.isAgg156
  z154 := Tryd.sizeOf156
  v154 := Tryd.zeroValue156
  t193 := Tryd.underlying162
  a193 := Tryd.isAgg162
  z193 := Tryd.sizeOf162
  v193 := Tryd.zeroValue162
  t194 := Tryd.underlying163
  a194 := Tryd.isAgg163
  z194 := Tryd.sizeOf163
  v194 := Tryd.zeroValue163
  t196 := Tryd.underlying165
  a196 := Tryd.isAgg165
  z196 := Tryd.sizeOf165
  v196 := Tryd.zeroValue165
  t198 := Tryd.underlying168
  a198 := Tryd.isAgg168
  z198 := Tryd.sizeOf168
  v198 := Tryd.zeroValue168
  t201 := Tryd.underlying171
  a201 := Tryd.isAgg171
  z201 := Tryd.sizeOf171
  v201 := Tryd.zeroValue171
  t226 := Tryd.underlying173
  a226 := Tryd.isAgg173
  z226 := Tryd.sizeOf173
  v226 := Tryd.zeroValue173
  t227 := Tryd.underlying175
  a227 := Tryd.isAgg175
  z227 := Tryd.sizeOf175
  v227 := Tryd.zeroValue175
  g0 := by kernel_rfl
  g6 := by kernel_rfl }
end Go.Proofs
