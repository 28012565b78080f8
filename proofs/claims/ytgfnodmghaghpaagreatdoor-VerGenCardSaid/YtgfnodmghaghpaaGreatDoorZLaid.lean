/-
  DERIVED: THE SHELF's CONTRACTS AT THIS DUMP, IN PLAIN WORDS (tools/lay-plain.mjs out of 'YtgfnodmghaghpaaGreatDoorLaid.lean', which tools/lay-shelf.mjs wrote): THE SAME DECLARATIONS UNDER THE SAME NAMES: 'import', 'namespace', 'open', 'def', 'theorem' AND NOTHING ELSE: no command of the shelf's: FOR A HAND-IN. Each laying: the table of numbers ('.._ren') and one theorem, a field a fact of the dump's own or the kernel's comparison; each contract: ONE APPLICATION.
-/
import Derived.Shelf.Strconv.Itoa4
import Derived.Shelf.Strings.Fields
import Derived.Ground.NamesProg
import Derived.Test.YtgfnodmghaghpaaGreatDoorProg
namespace Go.Proofs
open Go.Shelf
def Tryz.laysFields_ren : Go.Shelf.Ren := ⟨fun | 157 => 139 | 229 => 163 | 199 => 164 | 261 => 171 | 311 => 178 | 312 => 179 | n => n, fun | 9 => 9 | 31 => 106 | 3 => 3 | 5 => 5 | 4 => 4 | 119 => 230 | 0 => 0 | 40 => 232 | 152 => 238 | 21 => 21 | 154 => 240 | 51 => 227 | 141 => 242 | 196 => 255 | 193 => 252 | 198 => 258 | 49 => 256 | 194 => 253 | 201 => 261 | 226 => 267 | 46 => 155 | 227 => 268 | n => n, fun | 0 => 2 | 6 => 3 | n => n⟩
theorem Tryz.laysFields : Go.Proofs.Lays.n157 Tryz.prog Tryz.laysFields_ren := {
  mixed := by kernel_rfl
  f157 := Tryz.func139.trans (congrArg some (by kernel_rfl))
  f199 := Tryz.func164.trans (congrArg some (by kernel_rfl))
  f229 := Tryz.func163.trans (congrArg some (by kernel_rfl))
  f261 := Tryz.func171.trans (congrArg some (by kernel_rfl))
  f311 := Tryz.func178.trans (congrArg some (by kernel_rfl))
  f312 := Tryz.func179.trans (congrArg some (by kernel_rfl))
  t0 := Tryz.underlying0
  a0 := Tryz.isAgg0
  z0 := Tryz.sizeOf0
  v0 := Tryz.zeroValue0
  t3 := Tryz.underlying3
  a3 := Tryz.isAgg3
  z3 := Tryz.sizeOf3
  v3 := Tryz.zeroValue3
  t4 := Tryz.underlying4
  a4 := Tryz.isAgg4
  z4 := Tryz.sizeOf4
  v4 := Tryz.zeroValue4
  t5 := Tryz.underlying5
  a5 := Tryz.isAgg5
  z5 := Tryz.sizeOf5
  v5 := Tryz.zeroValue5
  t9 := Tryz.underlying9
  a9 := Tryz.isAgg9
  z9 := Tryz.sizeOf9
  v9 := Tryz.zeroValue9
  t21 := Tryz.underlying21
  a21 := Tryz.isAgg21
  z21 := Tryz.sizeOf21
  v21 := Tryz.zeroValue21
  t31 := Tryz.underlying106
  a31 := Tryz.isAgg106
  z31 := Tryz.sizeOf106
  v31 := Tryz.zeroValue106
  t40 := Tryz.underlying232
  a40 := Tryz.isAgg232
  z40 := Tryz.sizeOf232
  v40 := Tryz.zeroValue232
  t46 := Tryz.underlying155
  a46 := Tryz.isAgg155
  z46 := Tryz.sizeOf155
  v46 := Tryz.zeroValue155
  t49 := Tryz.underlying256
  a49 := Tryz.isAgg256
  z49 := Tryz.sizeOf256
  v49 := Tryz.zeroValue256
  t51 := Tryz.underlying227
  a51 := Tryz.isAgg227
  z51 := Tryz.sizeOf227
  v51 := Tryz.zeroValue227
  t119 := Tryz.underlying230
  a119 := Tryz.isAgg230
  z119 := Tryz.sizeOf230
  t141 := Tryz.underlying242
  a141 := Tryz.isAgg242
  z141 := Tryz.sizeOf242
  v141 := Tryz.zeroValue242
  t152 := Tryz.underlying238
  a152 := Tryz.isAgg238
  z152 := Tryz.sizeOf238
  v152 := Tryz.zeroValue238
  t154 := Tryz.underlying240
  a154 := Tryz.isAgg240
  z154 := Tryz.sizeOf240
  v154 := Tryz.zeroValue240
  t193 := Tryz.underlying252
  a193 := Tryz.isAgg252
  z193 := Tryz.sizeOf252
  v193 := Tryz.zeroValue252
  t194 := Tryz.underlying253
  a194 := Tryz.isAgg253
  z194 := Tryz.sizeOf253
  v194 := Tryz.zeroValue253
  t196 := Tryz.underlying255
  a196 := Tryz.isAgg255
  z196 := Tryz.sizeOf255
  v196 := Tryz.zeroValue255
  t198 := Tryz.underlying258
  a198 := Tryz.isAgg258
  z198 := Tryz.sizeOf258
  v198 := Tryz.zeroValue258
  t201 := Tryz.underlying261
  a201 := Tryz.isAgg261
  z201 := Tryz.sizeOf261
  v201 := Tryz.zeroValue261
  t226 := Tryz.underlying267
  a226 := Tryz.isAgg267
  z226 := Tryz.sizeOf267
  v226 := Tryz.zeroValue267
  t227 := Tryz.underlying268
  a227 := Tryz.isAgg268
  z227 := Tryz.sizeOf268
  v227 := Tryz.zeroValue268
  g0 := by kernel_rfl
  g6 := by kernel_rfl }
end Go.Proofs

