/- Plain facts for strings.Join: what it computes over lists of bytes, and what its two loops want of that; the model's entry for MakeNoZero. -/
import Derived.Test.YtdmgbhamigegfaaGreatDoorS1
import Derived.Lib.Strings
import Derived.Lib.Builder
import Derived.Laws.AppendOwn
import Derived.Laws.Entries
import Derived.Laws.NewFold
namespace Go.Proofs.YtdmgbhamigegfaaGreatDoor
open Go
def TJ.tail (sep:List UInt8):List (List UInt8)→List UInt8
 | []=>[]
 | y::r=>sep++y++TJ.tail sep r
def TJ.join (sep:List UInt8):List (List UInt8)→List UInt8
 | []=>[]
 | x::r=>x++TJ.tail sep r
end Go.Proofs.YtdmgbhamigegfaaGreatDoor
