/- Part of the proofs about the heaps and memories: a law is joined in the text whose name ends in W and the law. -/
import Derived.Test.YtelgbndeeccblaaGreatDoorET4
import Derived.Test.YtelgbndeeccblaaGreatDoorEK7
set_option linter.all false
namespace Go.Vc
open Go Go.Proofs Go.RowKit
def ShrE (e:ExprD):Prop:=∀ {B:Nat} {w:World} {cs:List Value},Dat.cells B w cs e→Cost.cost e≤1099511627776→Dat.cells BB w cs e
theorem shr_ex (e:ExprD):ShrE e:=by
 refine ex_ind (P:=ShrE) (fun e ih=>?_) e
 intro B w cs h hc
 obtain ⟨f,h0,i1,i2,rows,h1,h2,h3⟩:=expr_cells.1 h
 rw [cost_ex] at hc
 unfold costL at hc
 refine expr_cells.2 ⟨f,h0,i1,i2,rows,h1,⟨h2.1,fun i r a hr ha=>?_⟩,by show _≤1099511627776;omega⟩
 have hm:=List.mem_of_getElem? ha
 exact ih a hm (h2.2 i r a hr ha) (by have:=cost_mem hm;omega)
instance:Shr ExprD:=⟨fun {B w cs a} h hc=>shr_ex a h hc⟩
theorem seq_self (a:ByteArray):(a.toList == a.toList)=true:=by simp
end Go.Vc
