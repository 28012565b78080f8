/- deno's counters over trees. -/
import Derived.Test.YtdmgbhamigegfaaGreatDoorZSpShelf
import Derived.Test.YtdmgbhamigegfaaGreatDoorZSpRepQ
import Derived.Test.YtdmgbhamigegfaaGreatDoorZPuDeno
import Derived.Test.YtdmgbhamigegfaaGreatDoorZSpValBQ
import Derived.Test.YtdmgbhamigegfaaGreatDoorZSpGraph
import Derived.Test.YtdmgbhamigegfaaGreatDoorZPuIds
import Derived.Test.YtdmgbhamigegfaaGreatDoorS1
set_option linter.unusedSimpArgs false
set_option linter.unusedVariables false
namespace Go.Proofs.YtdmgbhamigegfaaGreatDoor
open Go Go.Abs
attribute [local irreducible] Abs.Fn
theorem zvG (g:List Nd) (i:Nat) (hi:i < g.length) (r:Int) (hm:g[i].mx≠0):Abs.Fn Tryz.prog zhm [] [.p (.slice (g.map encN)),.p (.int .i64 i),.p (.int .i64 r)] (.p (.int .i64 (r.tmod g[i].mx))) []:=by
 apply zyn
 simp [zrS,hi,hm]
 exact zg rfl
def encC (c:Int×Int):T:=.agg [.int .i64 c.1,.int .i64 c.2]
@[simp] theorem encC_cells (c:Int×Int):(encC c).cells.length=2:=id rfl
end Go.Proofs.YtdmgbhamigegfaaGreatDoor
