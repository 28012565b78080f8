/- Values in words; numbers in words: what they are, how long they may be. -/
import Derived.Test.YtdmgbhamigegfaaGreatDoorZSpRowIQ
import Derived.Test.YtdmgbhamigegfaaGreatDoorZSpValBQ
import Derived.Test.YtdmgbhamigegfaaGreatDoorZJoinLib
import Derived.Lib.ItoaNum

section
/- Values in words; numbers in words: what they are, how long they may be. -/
set_option linter.unusedVariables false
namespace Go.Proofs.YtdmgbhamigegfaaGreatDoor
open Go Go.Abs
end Go.Proofs.YtdmgbhamigegfaaGreatDoor
end

section
/- Names of nodes. No program in sight. -/
set_option linter.unusedSimpArgs false
set_option linter.unusedVariables false
namespace Go.Proofs.YtdmgbhamigegfaaGreatDoor
open Go Go.Abs
end Go.Proofs.YtdmgbhamigegfaaGreatDoor
end
