/- What val.Text, and the document's, answer, over trees. -/
import Derived.Test.YtijnpcociedigaaGreatDoorZSpItoaQ
import Derived.Test.YtijnpcociedigaaGreatDoorZSpTypD
set_option linter.unusedVariables false
set_option linter.unusedSimpArgs false
namespace Go.Proofs.YtijnpcociedigaaGreatDoor
open Go Go.Abs
attribute [local irreducible] Abs.Fn

end Go.Proofs.YtijnpcociedigaaGreatDoor

