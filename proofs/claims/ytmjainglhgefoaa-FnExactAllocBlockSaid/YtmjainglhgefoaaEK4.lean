/- Part of the proofs about the heaps and memories: a law is joined in the text whose name ends in W and the law. -/
import Derived.Test.YtmjainglhgefoaaEK3
import Derived.Test.YtmjainglhgefoaaEH2
namespace Go.Vc
open Go Go.Proofs Go.RowKit
set_option linter.all false

theorem trim_eq (h : List CellD) : trimL h = h.take (trimN h [] h.length) :=
  trimL_take (trimN_le _ _ _) (fun i h0 h1 => (trimN_free h0 h1).1) (fun hp => by have := trimN_last hp; simpa using this)
section
variable {u v w : World} {x y xf s t : Sl} {l ws fs pend : List Int} {h g : List CellD} {z z' : LazyD} {b m n k f : Int} {a : Addr} {I J K L R R1 : Items} {F F1 : Items → Items}

/-- heaps without kept cells -/
theorem vheap_lz (hd : vheap h) (hc : ∀ c ∈ h, 0 ≤ c.count) : vlazy ⟨h, []⟩ := ⟨⟨fun p hp => (by cases hp), List.nodup_nil, hc⟩, hd, fun p hp => (by cases hp)⟩
theorem lz_vheap (hz : vlazy ⟨h, []⟩) : vheap h := hz.2.1
end
end Go.Vc

namespace Go.Vc
open Go Go.Proofs Go.RowKit
set_option linter.all false
section
variable {u v w : World} {x y xf s t : Sl} {l ws fs pend : List Int} {h g : List CellD} {z z' : LazyD} {b m n k f : Int} {a : Addr} {I J K L R R1 : Items} {F F1 : Items → Items}

end
end Go.Vc
