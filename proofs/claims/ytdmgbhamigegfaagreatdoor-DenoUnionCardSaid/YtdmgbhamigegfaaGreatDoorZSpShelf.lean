/- strconv.FormatInt at base ten, over trees: the kit's contract, laid at this program. -/
import Derived.Test.YtdmgbhamigegfaaGreatDoorZLaid
import Derived.Test.YtdmgbhamigegfaaGreatDoorZSpRepQ
import Derived.Test.YtdmgbhamigegfaaGreatDoorZPuUidQ
namespace Go.Proofs.YtdmgbhamigegfaaGreatDoor
open Go Go.RowKit Go.Abs
end Go.Proofs.YtdmgbhamigegfaaGreatDoor
