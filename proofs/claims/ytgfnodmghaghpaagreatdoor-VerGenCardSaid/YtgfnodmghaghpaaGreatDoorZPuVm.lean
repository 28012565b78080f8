/- Programs that run: what instructions do. No program in sight. -/
import Derived.Test.YtgfnodmghaghpaaGreatDoorZSpGen
import Derived.Test.YtgfnodmghaghpaaGreatDoorZPuEvalB
set_option linter.unusedSimpArgs false
set_option linter.unusedVariables false
namespace Go.Proofs.YtgfnodmghaghpaaGreatDoor
open Go Go.Abs

abbrev oPush : List UInt8 := [112, 117, 115, 104]
abbrev oEmit' : List UInt8 := [101, 109, 105, 116]
abbrev oRet' : List UInt8 := [114, 101, 116]

end Go.Proofs.YtgfnodmghaghpaaGreatDoor

