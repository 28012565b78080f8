/- The document's machine runs a program. -/
import Derived.Test.YtgfnodmghaghpaaGreatDoorZPuVm
import Derived.Test.YtgfnodmghaghpaaGreatDoorZSpEvalCQ
import Derived.Test.YtgfnodmghaghpaaGreatDoorZSpGen
import Derived.Test.YtgfnodmghaghpaaGreatDoorA3
import Derived.Test.YtgfnodmghaghpaaGreatDoorS3
set_option linter.unusedSimpArgs false
set_option linter.unusedVariables false
namespace Go.Proofs.YtgfnodmghaghpaaGreatDoor
open Go Go.Abs

attribute [local irreducible] Abs.Fn

end Go.Proofs.YtgfnodmghaghpaaGreatDoor

