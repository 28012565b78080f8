/- The document's look at a job; who reads whom, told both ways. No program in sight. -/
import Derived.Test.YtdmgbhamigegfaaGreatDoorZPuGraph
set_option linter.unusedSimpArgs false
set_option linter.unusedVariables false
namespace Go.Proofs.YtdmgbhamigegfaaGreatDoor
open Go Go.Abs
end Go.Proofs.YtdmgbhamigegfaaGreatDoor
