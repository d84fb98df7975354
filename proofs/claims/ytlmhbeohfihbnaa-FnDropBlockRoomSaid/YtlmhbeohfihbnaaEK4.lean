/- Part of the proofs about the heaps and memories: a law is joined in the text whose name ends in W and the law. -/
import Derived.Test.YtlmhbeohfihbnaaEK3
import Derived.Test.YtlmhbeohfihbnaaEH2
namespace Go.Vc
open Go Go.Proofs Go.RowKit
set_option linter.all false

theorem trim_eq (h : List CellD) : trimL h = h.take (trimN h [] h.length) :=
  trimL_take (trimN_le _ _ _) (fun i h0 h1 => (trimN_free h0 h1).1) (fun hp => by have := trimN_last hp; simpa using this)
section
variable {u v w : World} {x y xf s t : Sl} {l ws fs pend : List Int} {h g : List CellD} {z z' : LazyD} {b m n k f : Int} {a : Addr} {I J K L R R1 : Items} {F F1 : Items → Items}

def dwOk (h : List CellD) (n : Int) : Prop := vheap h ∧ word h n = true ∧ (1000 ≤ n → (nth h (n - 1000)).count ≠ nth (refL h) (n - 1000))
/-- heaps without kept cells -/
theorem vheap_lz (hd : vheap h) (hc : ∀ c ∈ h, 0 ≤ c.count) : vlazy ⟨h, []⟩ := ⟨⟨fun p hp => (by cases hp), List.nodup_nil, hc⟩, hd, fun p hp => (by cases hp)⟩
theorem lz_vheap (hz : vlazy ⟨h, []⟩) : vheap h := hz.2.1
theorem dw_lz (hd : dwOk h n) (hc : ∀ c ∈ h, 0 ≤ c.count) (hp : 1000 ≤ n) : LZ h [] [n] :=
  drop_lz (z := ⟨h, []⟩) ⟨vheap_lz hd.1 hc, hd.2.1, hd.2.2⟩ hp

end
end Go.Vc

namespace Go.Vc
open Go Go.Proofs Go.RowKit
set_option linter.all false
section
variable {u v w : World} {x y xf s t : Sl} {l ws fs pend : List Int} {h g : List CellD} {z z' : LazyD} {b m n k f : Int} {a : Addr} {I J K L R R1 : Items} {F F1 : Items → Items}

theorem trim_keeps {h : List CellD} {k : Int} (k0 : 0 ≤ k) (k1 : k < h.length) (hc : (nth h k).count ≠ 0) : k < (trimL h).length ∧ nth (trimL h) k = nth h k := by
  have hle := trimN_le h [] h.length
  have hlt : k < trimN h [] h.length := by
    rcases Int.lt_or_le k (trimN h [] h.length) with h1 | h1
    · exact h1
    · exact absurd (trimN_free h1 k1).1 hc
  rw [trim_eq]
  refine ⟨by simp; omega, ?_⟩
  unfold nth List.getD
  rw [List.getElem?_take, if_pos (by omega)]

end
end Go.Vc
