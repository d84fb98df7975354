/- Part of the proofs about the heaps and memories: a law is joined in the text whose name ends in W and the law. -/
import Derived.Test.YtelgbndeeccblaaDoorEK4
namespace Go.Vc
open Go Go.Proofs Go.RowKit
set_option linter.all false

/-- how many constructors come before a declaration's -/
def firstC (ds : List DeclD) (n : Nat) : Nat := ((ds.take n).map fun d => d.cons.length).sum
section
variable {u v w : World} {x y xf s t : Sl} {l ws fs ps ls : List Int} {ds : List DeclD} {b m n k f a e i : Int}

theorem firstC_succ (h0 : 0 ≤ i) (h1 : i < ds.length) : firstC ds (i + 1).toNat = firstC ds i.toNat + (nth ds i).cons.length := by
 unfold firstC
 rw [take_nth h0 h1, List.map_append, List.sum_append]
 simp
end
end Go.Vc

namespace Go.Vc
open Go Go.Proofs Go.RowKit
set_option linter.all false

section
variable {u v w : World} {x y xf s t : Sl} {l ws fs ps ls : List Int} {ds : List DeclD} {b m n k f a e i : Int}
end
end Go.Vc

namespace Go.Vc
open Go Go.Proofs Go.RowKit
set_option linter.all false
section
variable {u v w : World} {x y xf s t : Sl} {l ws fs ps ls : List Int} {ds : List DeclD} {b m n k f a e i : Int}

end
end Go.Vc

namespace Go.Vc
open Go Go.Proofs Go.RowKit
set_option linter.all false

section
variable {u v w : World} {x y xf s t : Sl} {l ws fs ps ls : List Int} {ds : List DeclD} {b m n k f a e i : Int}
end
end Go.Vc

namespace Go.Vc
open Go Go.Proofs Go.RowKit
set_option linter.all false

section
variable {u v w : World} {x y xf s t : Sl} {l ws fs ns : List Int} {b m n k f a e i : Int} {I J K L R : Items}
end
end Go.Vc

namespace Go.Vc
open Go Go.Proofs Go.RowKit
set_option linter.all false

section
variable {u v w : World} {x y xf s t : Sl} {l ws fs ns : List Int} {b m n k f a e i : Int} {I J K L R : Items}
end
end Go.Vc

namespace Go.Vc
open Go Go.Proofs Go.RowKit
set_option linter.all false
section
variable {u v w : World} {x y xf s t : Sl} {l ws fs ns : List Int} {b m n k f a e i : Int} {I J K L R : Items}
end
end Go.Vc

namespace Go.Vc
open Go Go.Proofs Go.RowKit
set_option linter.all false
section
variable {u v w : World} {x y xf s t : Sl} {l ws fs ns : List Int} {b m n k f e i : Int} {a : Addr} {I J K L R : Items}
end
end Go.Vc
