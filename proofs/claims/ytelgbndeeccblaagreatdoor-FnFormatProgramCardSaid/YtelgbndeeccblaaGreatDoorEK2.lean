/- Part of the proofs about the heaps and memories: a law is joined in the text whose name ends in W and the law. -/
import Derived.Test.YtelgbndeeccblaaGreatDoorEK1
import Derived.Test.YtelgbndeeccblaaGreatDoorEH1
import Derived.Test.YtelgbndeeccblaaGreatDoorEH2
set_option linter.all false
namespace Go.Vc
open Go Go.Proofs Go.RowKit
def GA (h:List CellD):Prop:=h.length≤100∧∀ c∈h,c.fields.length≤100
section
variable {u v w:World} {x y xf:Sl} {l fs:List Int} {h:List CellD} {m n k:Int} {a:Addr} {I J L R:Items} {F:Items→Items}
end
theorem Bytes.read {W:World} {x:Sl} {bs:List UInt8} (h:Bytes W x bs) (hl:x.n≤1099511627776):Read W x bs:=by
 have hn:x.n=bs.length:=by have:=Rows.len h;simpa using this
 refine ⟨_,h,⟨by simp,fun i r a hr ha=>?_⟩,by show bs.length≤1099511627776;omega⟩
 simp only [List.getElem?_map] at hr
 rw [ha] at hr
 simp at hr
 exact hr.symm
end Go.Vc
namespace Go.Vc
open Go Go.Proofs Go.RowKit
section
variable {u v w:World} {x y xf:Sl} {l ws fs:List Int} {h:List CellD} {m n k:Int} {a:Addr} {I J L R:Items} {F:Items→Items}
end
end Go.Vc
namespace Go.Vc
open Go Go.Proofs Go.RowKit
section
variable {u v w:World} {x y xf:Sl} {l ws fs pend:List Int} {h:List CellD} {z:LazyD} {m n k f:Int} {a:Addr} {I J L R R1:Items} {F F1:Items→Items}
end
end Go.Vc
namespace Go.Vc
open Go Go.Proofs Go.RowKit
section
variable {u v w:World} {x y xf:Sl} {l ws fs pend:List Int} {h:List CellD} {z:LazyD} {m n k f:Int} {a:Addr} {I J L R R1:Items} {F F1:Items→Items}
end
end Go.Vc
namespace Go.Vc
open Go Go.Proofs Go.RowKit
section
variable {u v w:World} {x y xf:Sl} {l ws fs pend:List Int} {h:List CellD} {z:LazyD} {m n k f:Int} {a:Addr} {I J L R R1:Items} {F F1:Items→Items}
end
end Go.Vc
namespace Go.Vc
open Go Go.Proofs Go.RowKit
section
variable {u v w:World} {x y xf:Sl} {l ws fs pend:List Int} {h:List CellD} {z:LazyD} {m n k f:Int} {a:Addr} {I J L R R1:Items} {F F1:Items→Items}
theorem set_same {α:Type} [Inhabited α] {l:List α} {i:Int} (h0:0≤i) (h1:i < l.length):l.set i.toNat (nth l i)=l:=by
 refine List.ext_getElem? fun j=>?_
 rw [List.getElem?_set]
 split
 ·rename_i e
  subst e
  rw [if_pos (by omega),←nth_get h0 h1]
 ·rfl
end
end Go.Vc
namespace Go.Vc
open Go Go.Proofs Go.RowKit
section
variable {u v w:World} {x y xf s t:Sl} {l ws fs pend:List Int} {h g:List CellD} {z z':LazyD} {m n k f:Int} {a:Addr} {I J L R R1:Items} {F F1:Items→Items}
end
end Go.Vc
namespace Go.Vc
open Go Go.Proofs Go.RowKit
section
variable {u v w:World} {x y xf s t:Sl} {l ws fs pend:List Int} {h g:List CellD} {z z':LazyD} {m n k f:Int} {a:Addr} {I J K L R R1:Items} {F F1:Items→Items}
end
end Go.Vc
namespace Go.Vc
open Go Go.Proofs Go.RowKit
section
variable {u v w:World} {x y xf s t:Sl} {l ws fs pend:List Int} {h g:List CellD} {z z':LazyD} {m n k f:Int} {a:Addr} {I J K L R R1:Items} {F F1:Items→Items}
end
end Go.Vc
namespace Go.Vc
open Go Go.Proofs Go.RowKit
section
variable {u v w:World} {x y xf s t:Sl} {l ws fs pend:List Int} {h g:List CellD} {z z':LazyD} {b m n k f:Int} {a:Addr} {I J K L R R1:Items} {F F1:Items→Items}
theorem ReadB.toInts {B:Nat} {l:List Int} (hx:ReadB B v x l) (hl:l.length≤BB):Read v x l:=let ⟨rows,h1,h2,_⟩:=hx;⟨rows,h1,⟨h2.1,h2.2⟩,hl⟩
end
section
variable {u v w:World} {x y xf s t:Sl} {l ws fs pend:List Int} {h g:List CellD} {z z':LazyD} {b m n k f:Int} {a:Addr} {I J K L R R1:Items} {F F1:Items→Items} {q:Nat→List Value→Prop}
end
def marks (n:Int) (k:Nat):List Int:=(List.range k).map fun (i:Nat)=>n+(i:Int)
section
variable {u v w:World} {x y xf s t:Sl} {l ws fs pend:List Int} {h g:List CellD} {z z':LazyD} {b m n k f:Int} {a:Addr} {I J K L R R1:Items} {F F1:Items→Items} {q:Nat→List Value→Prop}
end
section
variable {u v w:World} {x y xf s t:Sl} {l ws fs pend:List Int} {h g:List CellD} {z z':LazyD} {b m n k f:Int} {a:Addr} {I J K L R R1:Items} {F F1:Items→Items} {q:Nat→List Value→Prop}
end
end Go.Vc
