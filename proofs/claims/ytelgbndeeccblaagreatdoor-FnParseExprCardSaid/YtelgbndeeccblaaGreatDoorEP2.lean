/- Part of the proofs about the heaps and memories: a law is joined in the text whose name ends in W and the law. -/
import Derived.Test.YtelgbndeeccblaaGreatDoorEP1
import Derived.Test.YtelgbndeeccblaaGreatDoorEP0
namespace Go.Vc
open Go Go.Proofs Go.RowKit
set_option linter.all false
/-- a program in memory, its signatures valid -/
structure Prg (v : World) (x y : Sl) (ds : List DeclD) (fs : List FunD) : Prop where
 hx : Read v x ds
 hy : Read v y fs
 sg : sigSigs ds (fs.map sgE)
theorem Prg.mono {v w : World} {x y : Sl} {ds : List DeclD} {fs : List FunD} (h : Prg v x y ds fs) (hs : Sub v w) : Prg w x y ds fs := ⟨h.hx.mono hs, h.hy.mono hs, h.sg⟩
theorem Prg.sm {v : World} {x y : Sl} {ds : List DeclD} {fs : List FunD} (h : Prg v x y ds fs) : SmDs ds := h.sg.1.sm
section
variable {u v w : World} {x y z f kx tx : Sl} {vars T W : List Int} {ds : List DeclD} {fs : List FunD} {ss : List SigD} {e : ExprD} {kids : List ExprD} {n num op : Int}
end
end Go.Vc

namespace Go.Vc
open Go Go.Proofs Go.RowKit
set_option linter.all false
section
variable {u v w : World} {x y z f kx tx : Sl} {vars T W : List Int} {ds : List DeclD} {fs : List FunD} {ss : List SigD} {e : ExprD} {kids : List ExprD} {n num op : Int}
end
end Go.Vc

namespace Go.Vc
open Go Go.Proofs Go.RowKit
set_option linter.all false
/-- declarations and signatures in memory, all valid, nothing lent -/
structure SgI (v : World) (x s : Sl) (ds : List DeclD) (ss : List SigD) : Prop where
 hx : Read v x ds
 hs : Read v s ss
 sg : sigSigs ds ss
 le : ∀ i : Int, (nth ss i).lent.length = 0
theorem SgI.mono {v w : World} {x s : Sl} {ds : List DeclD} {ss : List SigD} (h : SgI v x s ds ss) (hs : Sub v w) : SgI w x s ds ss := ⟨h.hx.mono hs, h.hs.mono hs, h.sg, h.le⟩
theorem SgI.sm {v : World} {x s : Sl} {ds : List DeclD} {ss : List SigD} (h : SgI v x s ds ss) : SmDs ds := h.sg.1.sm
section
variable {u v w : World} {x y z s f kx fx tx : Sl} {vars T W : List Int} {ds : List DeclD} {fs : List FunD} {ss : List SigD} {e : ExprD} {kids : List ExprD} {ff : List (List Int)} {n num op t : Int} {I J L R : Items}
end
end Go.Vc

namespace Go.Vc
open Go Go.Proofs Go.RowKit
set_option linter.all false
section
variable {u v w : World} {x y z s f kx fx tx : Sl} {vars T W : List Int} {ds : List DeclD} {fs : List FunD} {ss : List SigD} {e : ExprD} {kids : List ExprD} {ff : List (List Int)} {n num op t : Int} {I J L R : Items}
end
end Go.Vc

namespace Go.Vc
open Go Go.Proofs Go.RowKit
set_option linter.all false
section
variable {u v w : World} {x y z s f kx fx tx : Sl} {vars T W : List Int} {ds : List DeclD} {fs : List FunD} {ss : List SigD} {e : ExprD} {n num op t : Int} {I J L R : Items}
end
end Go.Vc
