/- Part of the proofs about the heaps and memories: a law is joined in the text whose name ends in W and the law. -/
import Derived.Test.YtelgbndeeccblaaGreatDoorEE4
/- append onto a row of one's own, the row itself kept. -/
namespace Go.Vc
open Go Go.RowKit
set_option linter.all false
section
variable {α : Type} [Dat α] {u w w' : World} {x y : Sl} {l : List α} {rows : List (List Value)} {sz : Nat} {L I R : Items} {F : Items → Items}
/-- what stands before is one's own too -/
theorem Own.front {a : Option Addr} {n c : Nat} {m : List α} (h : Own u ⟨a, n, c⟩ (l ++ m) I) : Own u ⟨a, l.length, c⟩ l I := by
 obtain ⟨rows, h1, h2, h3⟩ := h
 have hl : rows.length = l.length + m.length := by rw [h2.1, List.length_append]
 have hE : Els BB u (rows.take l.length) l := by
  refine ⟨by rw [List.length_take]; omega, fun i r b hr hb => ?_⟩
  have hi := (List.getElem?_eq_some_iff.1 hb).1
  rw [List.getElem?_take, if_pos hi] at hr
  exact h2.2 i r b hr (by rw [List.getElem?_append_left hi]; exact hb)
 have hB : l.length ≤ BB := by rw [List.length_append] at h3; omega
 refine ⟨rows.take l.length, ?_, hE, hB⟩
 generalize hx : (⟨a, n, c⟩ : Sl) = x at h1
 cases h1 with
 | nil =>
  cases hx
  have : l.length = 0 := by simp at hl; omega
  rw [this]
  exact .nil
 | blk g o n' c' cur e _ hn hc hm hs hr =>
  cases hx
  refine .blk g o _ c cur e _ (by rw [List.length_take]; omega) (by omega) hm hs fun q r hq => ?_
  rw [List.getElem?_take] at hq
  split at hq
  ·exact hr q r hq
  ·cases hq
end
end Go.Vc
