/- Part of the proofs about the heaps and memories: a law is joined in the text whose name ends in W and the law. -/
import Derived.Test.YtelgbndeeccblaaGreatDoorES4
import Derived.Test.YtelgbndeeccblaaGreatDoorEG6
import Derived.Test.YtelgbndeeccblaaGreatDoorEG4
set_option linter.all false
namespace Go.Vc
open Go Go.Proofs Go.RowKit
section
variable {u u' v w:World} {x y z s x1:Sl} {a:Addr} {I J L R:Items} {m n:Int} {l:List UInt8} {bs:List UInt8}
end
end Go.Vc
