/- Part of the proofs about the heaps and memories: a law is joined in the text whose name ends in W and the law. -/
import Derived.Test.YtelgbndeeccblaaDoorEB2
namespace Go.Vc
open Go Go.Proofs Go.RowKit
set_option linter.all false
section
variable {u v w : World} {x y z ax kx tx xs s : Sl} {vars args T W : List Int} {ds : List DeclD} {rs : List RoutD} {ss : List SigD} {n i t op num into : Int} {c : StepD} {b : BlockD} {kids : List BlockD} {fs : List (List Int)} {q : Bool}
end
end Go.Vc
