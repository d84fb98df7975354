/- Part of the proofs about the heaps and memories: a law is joined in the text whose name ends in W and the law. -/
import Derived.Test.YtelgbndeeccblaaGreatDoorEK7
import Derived.Test.YtelgbndeeccblaaGreatDoorETX
import Derived.Test.YtelgbndeeccblaaGreatDoorEP5
set_option linter.all false
namespace Go.Vc
open Go Go.Proofs Go.RowKit
mutual
def roomEx:ExprD→Nat
 | ⟨_,_,kids⟩=>1+1+roomEs kids
def roomEs:List ExprD→Nat
 | []=>0
 | k ::r=>roomEx k+roomEs r
end
mutual
def markEx:Int→ExprD→ExprD
 | n,⟨_,_,kids⟩=>⟨n,n+1,markEs (n+1+1) kids⟩
def markEs:Int→List ExprD→List ExprD
 | _,[]=>[]
 | n,k ::r=>markEx n k ::markEs (n+roomEx k) r
end
instance:Mark ExprD:=⟨roomEx,markEx⟩
section
variable {u v w:World} {x y:Sl} {l m:List ExprD} {n b i:Int} {I J L R:Items}
end
end Go.Vc
namespace Go.Vc
open Go Go.Proofs Go.RowKit
instance:Mark FunD:=⟨fun c=>c.params.length+1+1+1+rooms c.body.kids,fun n c=>⟨marks (n) c.params.length,n+c.params.length,⟨n+c.params.length+1,n+c.params.length+1+1,markL (n+c.params.length+1+1+1) c.body.kids⟩⟩⟩
section
variable {u v w:World} {x y:Sl} {l m:List FunD} {n b i:Int} {I J L R:Items}
end
end Go.Vc
