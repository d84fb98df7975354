/- Part of the proofs about the heaps and memories: a law is joined in the text whose name ends in W and the law. -/
import Derived.Test.YtlmhbeohfihbnaaEK3
import Derived.Test.YtlmhbeohfihbnaaEH2
namespace Go.Vc
open Go Go.Proofs Go.RowKit
set_option linter.all false

theorem trim_eq (h : List CellD) : trimL h = h.take (trimN h [] h.length) :=
  trimL_take (trimN_le _ _ _) (fun i h0 h1 => (trimN_free h0 h1).1) (fun hp => by have := trimN_last hp; simpa using this)
section
variable {u v w : World} {x y xf s t : Sl} {l ws fs pend : List Int} {h g : List CellD} {z z' : LazyD} {b m n k f : Int} {a : Addr} {I J K L R R1 : Items} {F F1 : Items → Items}

def dwOk (h : List CellD) (n : Int) : Prop := vheap h ∧ word h n = true ∧ (1000 ≤ n → (nth h (n - 1000)).count ≠ nth (refL h) (n - 1000))
/-- heaps without kept cells -/
theorem vheap_lz (hd : vheap h) (hc : ∀ c ∈ h, 0 ≤ c.count) : vlazy ⟨h, []⟩ := ⟨⟨fun p hp => (by cases hp), List.nodup_nil, hc⟩, hd, fun p hp => (by cases hp)⟩
theorem lz_vheap (hz : vlazy ⟨h, []⟩) : vheap h := hz.2.1
theorem dw_lz (hd : dwOk h n) (hc : ∀ c ∈ h, 0 ≤ c.count) (hp : 1000 ≤ n) : LZ h [] [n] :=
  drop_lz (z := ⟨h, []⟩) ⟨vheap_lz hd.1 hc, hd.2.1, hd.2.2⟩ hp

theorem c_liveCells (hx : Read v x h) : Fn Try.prog 43 #[x.val] v (.int .i64 (nlive h)) := by
  refine of43 _ _ _ ?_
  unfold vc43
  have hn := hx.n
  have hl := hx.le
  have hnl : ∀ i : Nat, nlive (h.take i) ≤ h.length := fun i => Nat.le_trans List.countP_le_length (by simp; omega)
  refine ⟨fun q i w => Sub v w ∧ 0 ≤ i ∧ i ≤ h.length ∧ q = nlive (h.take i.toNat), fun _ i _ => (h.length - i).toNat, ⟨.refl v, by omega, by omega, by simp [nlive]⟩, ?_⟩
  rintro q i w ⟨hs, h0, h1, h2⟩
  dsimp only
  have hb := hnl i.toNat
  refine ⟨fun hi => ?_, fun hi => ?_⟩
  · simp only [decide_eq_true_eq, decide_eq_false_iff_not, Bool.and_eq_true, Bool.and_eq_false_iff, Bool.or_eq_true, Bool.or_eq_false_iff, Bool.not_eq_true', Bool.not_eq_false', Bool.not_true, Bool.not_false, Bool.false_eq_true, Bool.true_eq_false, Int.not_lt, Int.not_le, ge_iff_le, gt_iff_lt, Bool.not_eq_eq_eq_not, Bool.true_or, Bool.or_true, Bool.false_or, Bool.or_false, Bool.true_and, Bool.and_true, false_or, or_false, true_and, and_true, Decidable.not_not] at hi
    have htk := take_nth (l := h) h0 (by omega)
    have hb2 := hnl (i + 1).toNat
    refine go_ix hx h0 (by omega) ?_
    obtain ⟨f, a1, a2, a3, _⟩ := (hx.src hs).cell (i := i) h0 (by omega)
    refine ⟨_, _, f, ⟨a1, a2, a3⟩, fun hc => ?_, fun hc => ?_⟩
    · simp only [decide_eq_true_eq, decide_eq_false_iff_not, Bool.and_eq_true, Bool.and_eq_false_iff, Bool.or_eq_true, Bool.or_eq_false_iff, Bool.not_eq_true', Bool.not_eq_false', Bool.not_true, Bool.not_false, Bool.false_eq_true, Bool.true_eq_false, Int.not_lt, Int.not_le, ge_iff_le, gt_iff_lt, Bool.not_eq_eq_eq_not, Bool.true_or, Bool.or_true, Bool.false_or, Bool.or_false, Bool.true_and, Bool.and_true, false_or, or_false, true_and, and_true, Decidable.not_not] at hc
      refine go_wr (by omega) (by omega) ?_
      refine go_wr (by omega) (by omega) ?_
      refine ⟨⟨hs, by omega, by omega, ?_⟩, by omega⟩
      rw [htk, nlive, List.countP_append, h2]
      simp [nlive, hc]
    · simp only [decide_eq_true_eq, decide_eq_false_iff_not, Bool.and_eq_true, Bool.and_eq_false_iff, Bool.or_eq_true, Bool.or_eq_false_iff, Bool.not_eq_true', Bool.not_eq_false', Bool.not_true, Bool.not_false, Bool.false_eq_true, Bool.true_eq_false, Int.not_lt, Int.not_le, ge_iff_le, gt_iff_lt, Bool.not_eq_eq_eq_not, Bool.true_or, Bool.or_true, Bool.false_or, Bool.or_false, Bool.true_and, Bool.and_true, false_or, or_false, true_and, and_true, Decidable.not_not] at hc
      refine go_wr (by omega) (by omega) ?_
      refine ⟨⟨hs, by omega, by omega, ?_⟩, by omega⟩
      have e : (if 0 < (nth h i).count then (1 : Nat) else 0) = 0 := if_neg (by omega)
      rw [htk, nlive, List.countP_append, h2]
      simp [nlive, e]
  · simp only [decide_eq_true_eq, decide_eq_false_iff_not, Bool.and_eq_true, Bool.and_eq_false_iff, Bool.or_eq_true, Bool.or_eq_false_iff, Bool.not_eq_true', Bool.not_eq_false', Bool.not_true, Bool.not_false, Bool.false_eq_true, Bool.true_eq_false, Int.not_lt, Int.not_le, ge_iff_le, gt_iff_lt, Bool.not_eq_eq_eq_not, Bool.true_or, Bool.or_true, Bool.false_or, Bool.or_false, Bool.true_and, Bool.and_true, false_or, or_false, true_and, and_true, Decidable.not_not] at hi
    rw [take_all (by omega)] at h2
    exact ⟨by rw [h2], hs⟩
theorem c_LiveCells (hx : Read v x h) (hd : vheap h) : Fn Try.prog 15 #[x.val] v (.int .i64 (nlive h)) := by
  refine of15 _ _ _ ?_
  unfold vc15
  refine ⟨_, c_implValidHeap hx, fun hc => ?_, fun _ => ?_⟩
  · rw [vheapB_iff.2 hd] at hc; cases hc
  refine Fn.use (c_liveCells hx) (.refl v) ?_
  intro w hS hs
  exact ⟨_, rfl, rfl, hs⟩
end
end Go.Vc

namespace Go.Vc
open Go Go.Proofs Go.RowKit
set_option linter.all false
section
variable {u v w : World} {x y xf s t : Sl} {l ws fs pend : List Int} {h g : List CellD} {z z' : LazyD} {b m n k f : Int} {a : Addr} {I J K L R R1 : Items} {F F1 : Items → Items}

theorem nlive_trim (h : List CellD) : nlive (trimL h) = nlive h := by
  rw [trim_eq]
  conv => rhs; rw [← List.take_append_drop (trimN h [] h.length) h]
  unfold nlive
  rw [List.countP_append]
  have : (h.drop (trimN h [] h.length)).countP (fun c => decide (0 < c.count)) = 0 := by
    rw [List.countP_eq_zero]
    intro c hc
    obtain ⟨i, hi, rfl⟩ := List.getElem_of_mem hc
    simp only [List.length_drop] at hi
    have := (trimN_free (h := h) (pend := []) (n := h.length) (k := ((trimN h [] h.length + i : Nat) : Int)) (by omega) (by omega)).1
    rw [nth_nat (l := h) (by omega)] at this
    simp [List.getElem_drop, this]
  omega
theorem trim_keeps {h : List CellD} {k : Int} (k0 : 0 ≤ k) (k1 : k < h.length) (hc : (nth h k).count ≠ 0) : k < (trimL h).length ∧ nth (trimL h) k = nth h k := by
  have hle := trimN_le h [] h.length
  have hlt : k < trimN h [] h.length := by
    rcases Int.lt_or_le k (trimN h [] h.length) with h1 | h1
    · exact h1
    · exact absurd (trimN_free h1 k1).1 hc
  rw [trim_eq]
  refine ⟨by simp; omega, ?_⟩
  unfold nth List.getD
  rw [List.getElem?_take, if_pos (by omega)]

end
end Go.Vc
