/- Part of the proofs about the heaps and memories: a law is joined in the text whose name ends in W and the law. -/
import Derived.Shelf.Strings.OnBuilder
import Derived.Test.YtelgbndeeccblaaGreatDoorProg
/- Contracts of Go's library, laid at this program. -/
namespace Go.Proofs
open Go.Shelf
end Go.Proofs
