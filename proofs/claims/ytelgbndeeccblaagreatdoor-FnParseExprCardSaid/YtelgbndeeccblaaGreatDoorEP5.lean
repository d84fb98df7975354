/- Part of the proofs about the heaps and memories: a law is joined in the text whose name ends in W and the law. -/
import Derived.Test.YtelgbndeeccblaaGreatDoorEP2
import Derived.Test.YtelgbndeeccblaaGreatDoorEP4
namespace Go.Vc
open Go Go.Proofs Go.RowKit
set_option linter.all false
theorem fr_below {v W W' : World} (hs : Sub v W) (hb : Below W.heap.size W W') : Fr v W v W' := by
 refine ⟨⟨Nat.le_trans hs.size hb.size, fun b o ho hne => ?_⟩, hb.size, hb.os, hb.tape, hb.output, fun b hlt hO => ⟨hO, hb.block b hlt⟩⟩
 have h1 := hs.at_ b o ho hne
 rw [hb.block b (getElem?_lt h1)]
 exact h1
section
variable {u v w : World} {x y z f : Sl} {l : List Int} {ds : List DeclD} {fs : List FunD} {I L R : Items} {F : Items → Items}
end
end Go.Vc

namespace Go.Vc
open Go Go.Proofs Go.RowKit
set_option linter.all false
end Go.Vc
