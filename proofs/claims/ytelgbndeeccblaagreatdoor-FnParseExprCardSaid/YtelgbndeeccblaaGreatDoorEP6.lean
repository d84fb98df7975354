/- Part of the proofs about the heaps and memories: a law is joined in the text whose name ends in W and the law. -/
import Derived.Test.YtelgbndeeccblaaGreatDoorEP5
namespace Go.Vc
open Go Go.Proofs Go.RowKit
set_option linter.all false
section
variable {u v w : World} {x y z f : Sl} {ds : List DeclD} {fs : List FunD} {d : DeclD} {I L R : Items} {F : Items → Items}
end
end Go.Vc
