/- Part of the proofs about the heaps: a law is joined in the text whose name ends in W and the law. -/
import Derived.Test.YtmmkfmmcmjpcgaaBVcDeep
import Derived.Test.YtmmkfmmcmjpcgaaBC5
namespace Go.Vc
open Go Go.Proofs Go.RowKit
set_option linter.all false

instance : DatO CellD where
  own cs c K := ∃ f : Sl, cs = [intV c.count, intV c.tag, f.val] ∧ InI c.count ∧ InI c.tag ∧ ∀ u, Own u f c.fields K
  read := fun ⟨f, h1, h2, h3, h4⟩ hA => ⟨f, h1, h2, h3, let ⟨rows, k1, k2, k3⟩ := h4 _; ⟨rows, k1.rd hA, k2, k3⟩⟩

theorem Own.toAll {u : World} {x : Sl} {l : List Int} {I : Items} (h : Own u x l I) : ∀ u, Own u x l I := fun _ => h.ofInts

/-- the first free cell, or the place after all -/
def freeIdx (h : List CellD) : Nat := h.findIdx fun c => c.count == 0
def placeL (h : List CellD) (k : Int) (c : CellD) : List CellD := if k = h.length then h ++ [c] else h.set k.toNat c
noncomputable def allocL (h : List CellD) (tag : Int) (fs : List Int) : List CellD × Int :=
  if vheapB h && fs.all (word h) && vheapB (placeL h (freeIdx h) ⟨1, tag, fs⟩) then (placeL h (freeIdx h) ⟨1, tag, fs⟩, 1000 + freeIdx h) else ([], 0)
/-- without the free cells at the end -/
def trimL (h : List CellD) : List CellD := (h.reverse.dropWhile fun c => c.count == 0).reverse

theorem one_in : InI 1 := ⟨by omega, by omega⟩
theorem freeIdx_le (h : List CellD) : freeIdx h ≤ h.length := List.findIdx_le_length
theorem trimL_take {h : List CellD} {k : Nat} (hk : k ≤ h.length) (hz : ∀ i : Int, k ≤ i → i < h.length → (nth h i).count = 0) (hl : 0 < k → (nth h ((k : Int) - 1)).count ≠ 0) : trimL h = h.take k := by
  unfold trimL
  have e : h = h.take k ++ h.drop k := (List.take_append_drop k h).symm
  have h1 : ∀ c ∈ h.drop k, (c.count == 0) = true := by
    intro c hc
    obtain ⟨i, hi, rfl⟩ := List.getElem_of_mem hc
    simp only [List.length_drop] at hi
    have := hz ((k + i : Nat) : Int) (by omega) (by omega)
    rw [nth_nat (l := h) (by omega)] at this
    simpa [List.getElem_drop] using this
  conv => lhs; rw [e]
  rw [List.reverse_append, List.dropWhile_append_of_pos (fun c hc => h1 c (List.mem_reverse.1 hc))]
  rcases Nat.eq_zero_or_pos k with h0 | hp
  · subst h0; simp
  · have h2 := hl hp
    have hlt : k - 1 < h.length := by omega
    have e2 : h.take k = h.take (k - 1) ++ [h[k-1]] := by
      conv => lhs; rw [show k = k - 1 + 1 from by omega, List.take_add_one, List.getElem?_eq_getElem hlt]
      rfl
    rw [show ((k : Int) - 1) = ((k - 1 : Nat) : Int) from by omega, nth_nat (l := h) hlt] at h2
    rw [e2, List.reverse_append, List.reverse_singleton, List.singleton_append, List.dropWhile_cons_of_neg (by simpa using h2)]
    simp

section
variable {u v w : World} {x y xf : Sl} {l m fs : List Int} {h : List CellD} {n k : Int} {a : Addr} {I J L R : Items} {F : Items → Items}

theorem c_copyHeap (hx : Read v x h) : Mk Try.prog 96 #[x.val] v fun r J => ∃ y, r = y.val ∧ OwnD y h J := by
  refine of96 _ _ _ ?_
  unfold vc96
  have hn := hx.n
  have hl := hx.le
  refine St.build (α := CellD) (.refl v) (by (repeat' (first | exact VsOf.nil | apply VsOf.cons | (apply VOf.int; first | assumption | (constructor <;> first | omega | (simp only [List.length_set, List.length_append, List.length_replicate, List.length_cons, List.length_nil, List.length_take, List.length_drop, List.length_map, List.length_singleton] at *; omega))) | exact VOf.bool | exact VOf.str))) rfl (by decide) ?_
  intro y w1 I1 hO hS hs
  refine ⟨_, rfl, ?_⟩
  refine ⟨fun y i w => ∃ I, OwnD y (h.take i.toNat) I ∧ St v w (I ++ []) ∧ 0 ≤ i ∧ i ≤ h.length, fun _ i _ => (h.length - i).toNat, ⟨I1, ?_, hS, by omega, by omega⟩, ?_⟩
  · obtain ⟨rows, k1, k2, k3⟩ := hO
    have e : rows = [] := List.eq_nil_of_length_eq_zero (by simpa using k2.1)
    subst e
    exact ⟨[], I1, [], [], k1, by simp, by simp, fun i r a K h => by simp at h, by simp, by simp⟩
  rintro y i w ⟨I, hO, hS, h0, h1⟩
  dsimp only
  refine ⟨fun hi => ?_, fun hi => ?_⟩
  · simp only [decide_eq_true_eq, decide_eq_false_iff_not, Bool.and_eq_true, Bool.and_eq_false_iff, Bool.or_eq_true, Bool.or_eq_false_iff, Bool.not_eq_true', Bool.not_eq_false', Bool.not_true, Bool.not_false, Bool.false_eq_true, Bool.true_eq_false, Int.not_lt, Int.not_le, ge_iff_le, gt_iff_lt, Bool.not_eq_eq_eq_not, Bool.true_or, Bool.or_true, Bool.false_or, Bool.or_false, Bool.true_and, Bool.and_true, false_or, or_false, true_and, and_true, Decidable.not_not] at hi
    refine go_ix hx h0 (by omega) ?_
    refine ld_count (hx.src hS.sub) h0 (by omega) ?_
    intro a0 a1
    refine go_ix hx h0 (by omega) ?_
    refine ld_tag (hx.src hS.sub) h0 (by omega) ?_
    intro b0 b1
    refine go_ix hx h0 (by omega) ?_
    refine ld_fields (hx.src hS.sub) h0 (by omega) ?_
    intro f hf
    refine Mk.use (c_copyInts hf) hS ?_
    rintro _ w2 J ⟨z, rfl, hZ⟩ hS hsub
    refine ⟨_, rfl, hsub, ?_⟩
    refine St.buildR hS ?_ ?_ ?_ ?_
    · simp [Value.cells]
    · rfl
    · decide
    intro x3 w3 I3 hB hS hs _
    refine ⟨_, rfl, ?_⟩
    refine OwnD.push' (a := nth h i) hO hS (hB.rd hS.items) ⟨z, rfl, ⟨a0, a1⟩, ⟨b0, b1⟩, hZ.toAll⟩ (by simp; omega) (by decide) ?_
    intro x4 w4 I4 hO4 hS
    refine ⟨_, rfl, ?_⟩
    refine go_wr (by omega) (by omega) ?_
    refine ⟨⟨I4, ?_, hS.to, by omega, by omega⟩, by omega⟩
    rw [take_nth h0 (by omega)]; exact hO4
  · simp only [decide_eq_true_eq, decide_eq_false_iff_not, Bool.and_eq_true, Bool.and_eq_false_iff, Bool.or_eq_true, Bool.or_eq_false_iff, Bool.not_eq_true', Bool.not_eq_false', Bool.not_true, Bool.not_false, Bool.false_eq_true, Bool.true_eq_false, Int.not_lt, Int.not_le, ge_iff_le, gt_iff_lt, Bool.not_eq_eq_eq_not, Bool.true_or, Bool.or_true, Bool.false_or, Bool.or_false, Bool.true_and, Bool.and_true, false_or, or_false, true_and, and_true, Decidable.not_not] at hi
    rw [take_all (by omega)] at hO
    exact ⟨I, by simpa using hS, y, rfl, hO⟩

theorem c_freeIndex (hx : Read v x h) : Fn Try.prog 113 #[x.val] v (.int .i64 (freeIdx h)) := by
  refine of113 _ _ _ ?_
  unfold vc113
  have hn := hx.n
  have hl := hx.le
  refine ⟨fun i w => St v w [] ∧ 0 ≤ i ∧ i ≤ h.length ∧ ∀ c ∈ h.take i.toNat, c.count ≠ 0, fun i _ => (h.length - i).toNat, ⟨.refl v, by omega, by omega, by simp⟩, ?_⟩
  rintro i w ⟨hS, h0, h1, h2⟩
  dsimp only
  repeat' first | (intro hc; simp only [decide_eq_true_eq, decide_eq_false_iff_not, Bool.and_eq_true, Bool.and_eq_false_iff, Bool.or_eq_true, Bool.or_eq_false_iff, Bool.not_eq_true', Bool.not_eq_false', Bool.not_true, Bool.not_false, Bool.false_eq_true, Bool.true_eq_false, Int.not_lt, Int.not_le, ge_iff_le, gt_iff_lt, Bool.not_eq_eq_eq_not, Bool.true_or, Bool.or_true, Bool.false_or, Bool.or_false, Bool.true_and, Bool.and_true, false_or, or_false, true_and, and_true, Decidable.not_not] at hc) | (refine go_wr (by first | omega | (simp only [List.length_set, List.length_append, List.length_replicate, List.length_cons, List.length_nil, List.length_take, List.length_drop, List.length_map, List.length_singleton] at *; omega)) (by first | omega | (simp only [List.length_set, List.length_append, List.length_replicate, List.length_cons, List.length_nil, List.length_take, List.length_drop, List.length_map, List.length_singleton] at *; omega)) ?_) | (refine go_wrg (by (intro hc; simp only [decide_eq_true_eq, decide_eq_false_iff_not, Bool.and_eq_true, Bool.and_eq_false_iff, Bool.or_eq_true, Bool.or_eq_false_iff, Bool.not_eq_true', Bool.not_eq_false', Bool.not_true, Bool.not_false, Bool.false_eq_true, Bool.true_eq_false, Int.not_lt, Int.not_le, ge_iff_le, gt_iff_lt, Bool.not_eq_eq_eq_not, Bool.true_or, Bool.or_true, Bool.false_or, Bool.or_false, Bool.true_and, Bool.and_true, false_or, or_false, true_and, and_true, Decidable.not_not] at hc; constructor <;> first | omega | (simp only [List.length_set, List.length_append, List.length_replicate, List.length_cons, List.length_nil, List.length_take, List.length_drop, List.length_map, List.length_singleton] at *; omega))) ?_) | (refine go_ix (by assumption) (by first | omega | (simp only [List.length_set, List.length_append, List.length_replicate, List.length_cons, List.length_nil, List.length_take, List.length_drop, List.length_map, List.length_singleton] at *; omega)) (by first | omega | (simp only [List.length_set, List.length_append, List.length_replicate, List.length_cons, List.length_nil, List.length_take, List.length_drop, List.length_map, List.length_singleton] at *; omega)) ?_) | (refine go_oix (by assumption) (by first | omega | (simp only [List.length_set, List.length_append, List.length_replicate, List.length_cons, List.length_nil, List.length_take, List.length_drop, List.length_map, List.length_singleton] at *; omega)) (by first | omega | (simp only [List.length_set, List.length_append, List.length_replicate, List.length_cons, List.length_nil, List.length_take, List.length_drop, List.length_map, List.length_singleton] at *; omega)) ?_) | (refine go_ixg (by assumption) (by (intro hc; simp only [decide_eq_true_eq, decide_eq_false_iff_not, Bool.and_eq_true, Bool.and_eq_false_iff, Bool.or_eq_true, Bool.or_eq_false_iff, Bool.not_eq_true', Bool.not_eq_false', Bool.not_true, Bool.not_false, Bool.false_eq_true, Bool.true_eq_false, Int.not_lt, Int.not_le, ge_iff_le, gt_iff_lt, Bool.not_eq_eq_eq_not, Bool.true_or, Bool.or_true, Bool.false_or, Bool.or_false, Bool.true_and, Bool.and_true, false_or, or_false, true_and, and_true, Decidable.not_not] at hc; constructor <;> first | omega | (simp only [List.length_set, List.length_append, List.length_replicate, List.length_cons, List.length_nil, List.length_take, List.length_drop, List.length_map, List.length_singleton] at *; omega))) ?_) | (refine go_oixg (by assumption) (by (intro hc; simp only [decide_eq_true_eq, decide_eq_false_iff_not, Bool.and_eq_true, Bool.and_eq_false_iff, Bool.or_eq_true, Bool.or_eq_false_iff, Bool.not_eq_true', Bool.not_eq_false', Bool.not_true, Bool.not_false, Bool.false_eq_true, Bool.true_eq_false, Int.not_lt, Int.not_le, ge_iff_le, gt_iff_lt, Bool.not_eq_eq_eq_not, Bool.true_or, Bool.or_true, Bool.false_or, Bool.or_false, Bool.true_and, Bool.and_true, false_or, or_false, true_and, and_true, Decidable.not_not] at hc; constructor <;> first | omega | (simp only [List.length_set, List.length_append, List.length_replicate, List.length_cons, List.length_nil, List.length_take, List.length_drop, List.length_map, List.length_singleton] at *; omega))) ?_) | (refine ld_cell (by first | exact ReadB.src (by assumption) hS.sub | exact Own.src (by assumption) hS) (by first | omega | (simp only [List.length_set, List.length_append, List.length_replicate, List.length_cons, List.length_nil, List.length_take, List.length_drop, List.length_map, List.length_singleton] at *; omega)) (by first | omega | (simp only [List.length_set, List.length_append, List.length_replicate, List.length_cons, List.length_nil, List.length_take, List.length_drop, List.length_map, List.length_singleton] at *; omega)) ?_; intro f hf hcI htI) | (refine ld_count (by first | exact ReadB.src (by assumption) hS.sub | exact Own.src (by assumption) hS) (by first | omega | (simp only [List.length_set, List.length_append, List.length_replicate, List.length_cons, List.length_nil, List.length_take, List.length_drop, List.length_map, List.length_singleton] at *; omega)) (by first | omega | (simp only [List.length_set, List.length_append, List.length_replicate, List.length_cons, List.length_nil, List.length_take, List.length_drop, List.length_map, List.length_singleton] at *; omega)) ?_; intro hlo hhi) | (refine ld_countg (by first | exact ReadB.src (by assumption) hS.sub | exact Own.src (by assumption) hS) (by (intro hc; simp only [decide_eq_true_eq, decide_eq_false_iff_not, Bool.and_eq_true, Bool.and_eq_false_iff, Bool.or_eq_true, Bool.or_eq_false_iff, Bool.not_eq_true', Bool.not_eq_false', Bool.not_true, Bool.not_false, Bool.false_eq_true, Bool.true_eq_false, Int.not_lt, Int.not_le, ge_iff_le, gt_iff_lt, Bool.not_eq_eq_eq_not, Bool.true_or, Bool.or_true, Bool.false_or, Bool.or_false, Bool.true_and, Bool.and_true, false_or, or_false, true_and, and_true, Decidable.not_not] at hc; constructor <;> first | omega | (simp only [List.length_set, List.length_append, List.length_replicate, List.length_cons, List.length_nil, List.length_take, List.length_drop, List.length_map, List.length_singleton] at *; omega))) ?_) | (refine ld_tag (by first | exact ReadB.src (by assumption) hS.sub | exact Own.src (by assumption) hS) (by first | omega | (simp only [List.length_set, List.length_append, List.length_replicate, List.length_cons, List.length_nil, List.length_take, List.length_drop, List.length_map, List.length_singleton] at *; omega)) (by first | omega | (simp only [List.length_set, List.length_append, List.length_replicate, List.length_cons, List.length_nil, List.length_take, List.length_drop, List.length_map, List.length_singleton] at *; omega)) ?_; intro hlo hhi) | (refine ld_fields (by first | exact ReadB.src (by assumption) hS.sub | exact Own.src (by assumption) hS) (by first | omega | (simp only [List.length_set, List.length_append, List.length_replicate, List.length_cons, List.length_nil, List.length_take, List.length_drop, List.length_map, List.length_singleton] at *; omega)) (by first | omega | (simp only [List.length_set, List.length_append, List.length_replicate, List.length_cons, List.length_nil, List.length_take, List.length_drop, List.length_map, List.length_singleton] at *; omega)) ?_; intro f hf) | (refine ld_fieldsg (by first | exact ReadB.src (by assumption) hS.sub | exact Own.src (by assumption) hS) (by (intro hc; simp only [decide_eq_true_eq, decide_eq_false_iff_not, Bool.and_eq_true, Bool.and_eq_false_iff, Bool.or_eq_true, Bool.or_eq_false_iff, Bool.not_eq_true', Bool.not_eq_false', Bool.not_true, Bool.not_false, Bool.false_eq_true, Bool.true_eq_false, Int.not_lt, Int.not_le, ge_iff_le, gt_iff_lt, Bool.not_eq_eq_eq_not, Bool.true_or, Bool.or_true, Bool.false_or, Bool.or_false, Bool.true_and, Bool.and_true, false_or, or_false, true_and, and_true, Decidable.not_not] at hc; constructor <;> first | omega | (simp only [List.length_set, List.length_append, List.length_replicate, List.length_cons, List.length_nil, List.length_take, List.length_drop, List.length_map, List.length_singleton] at *; omega))) ?_; intro f hf) | (refine ld_int (by first | exact ReadB.mono (by assumption) hS.sub | exact Own.read (by assumption) hS | assumption) (by first | omega | (simp only [List.length_set, List.length_append, List.length_replicate, List.length_cons, List.length_nil, List.length_take, List.length_drop, List.length_map, List.length_singleton] at *; omega)) (by first | omega | (simp only [List.length_set, List.length_append, List.length_replicate, List.length_cons, List.length_nil, List.length_take, List.length_drop, List.length_map, List.length_singleton] at *; omega)) ?_; intro hlo hhi) | (refine ld_bool (by first | exact ReadB.mono (by assumption) hS.sub | exact Own.read (by assumption) hS | assumption) (by first | omega | (simp only [List.length_set, List.length_append, List.length_replicate, List.length_cons, List.length_nil, List.length_take, List.length_drop, List.length_map, List.length_singleton] at *; omega)) (by first | omega | (simp only [List.length_set, List.length_append, List.length_replicate, List.length_cons, List.length_nil, List.length_take, List.length_drop, List.length_map, List.length_singleton] at *; omega)) ?_) | (refine ld_byte (by first | exact ReadB.mono (by assumption) hS.sub | exact Own.read (by assumption) hS | assumption) (by first | omega | (simp only [List.length_set, List.length_append, List.length_replicate, List.length_cons, List.length_nil, List.length_take, List.length_drop, List.length_map, List.length_singleton] at *; omega)) (by first | omega | (simp only [List.length_set, List.length_append, List.length_replicate, List.length_cons, List.length_nil, List.length_take, List.length_drop, List.length_map, List.length_singleton] at *; omega)) ?_; intro hlo hhi) | (refine ld_intg (by first | exact ReadB.mono (by assumption) hS.sub | exact Own.read (by assumption) hS | assumption) (by (intro hc; simp only [decide_eq_true_eq, decide_eq_false_iff_not, Bool.and_eq_true, Bool.and_eq_false_iff, Bool.or_eq_true, Bool.or_eq_false_iff, Bool.not_eq_true', Bool.not_eq_false', Bool.not_true, Bool.not_false, Bool.false_eq_true, Bool.true_eq_false, Int.not_lt, Int.not_le, ge_iff_le, gt_iff_lt, Bool.not_eq_eq_eq_not, Bool.true_or, Bool.or_true, Bool.false_or, Bool.or_false, Bool.true_and, Bool.and_true, false_or, or_false, true_and, and_true, Decidable.not_not] at hc; constructor <;> first | omega | (simp only [List.length_set, List.length_append, List.length_replicate, List.length_cons, List.length_nil, List.length_take, List.length_drop, List.length_map, List.length_singleton] at *; omega))) ?_) | (refine ld_boolg (by first | exact ReadB.mono (by assumption) hS.sub | exact Own.read (by assumption) hS | assumption) (by (intro hc; simp only [decide_eq_true_eq, decide_eq_false_iff_not, Bool.and_eq_true, Bool.and_eq_false_iff, Bool.or_eq_true, Bool.or_eq_false_iff, Bool.not_eq_true', Bool.not_eq_false', Bool.not_true, Bool.not_false, Bool.false_eq_true, Bool.true_eq_false, Int.not_lt, Int.not_le, ge_iff_le, gt_iff_lt, Bool.not_eq_eq_eq_not, Bool.true_or, Bool.or_true, Bool.false_or, Bool.or_false, Bool.true_and, Bool.and_true, false_or, or_false, true_and, and_true, Decidable.not_not] at hc; constructor <;> first | omega | (simp only [List.length_set, List.length_append, List.length_replicate, List.length_cons, List.length_nil, List.length_take, List.length_drop, List.length_map, List.length_singleton] at *; omega))) ?_) | (refine ⟨_, Cel.load (by assumption) hS rfl, ?_⟩) | (refine ⟨_, fun _ => Cel.load (by assumption) hS rfl, ?_⟩) | (refine go_max ?_) | (refine go_nil ?_) | (refine Cel.store (by assumption) hS (by simp) ?_; intro w1 I1 hC hS; simp [putR] at hC) | (refine st_int (by assumption) hS (by first | omega | (simp only [List.length_set, List.length_append, List.length_replicate, List.length_cons, List.length_nil, List.length_take, List.length_drop, List.length_map, List.length_singleton] at *; omega)) (by first | omega | (simp only [List.length_set, List.length_append, List.length_replicate, List.length_cons, List.length_nil, List.length_take, List.length_drop, List.length_map, List.length_singleton] at *; omega)) (by first | assumption | (constructor <;> first | omega | (simp only [List.length_set, List.length_append, List.length_replicate, List.length_cons, List.length_nil, List.length_take, List.length_drop, List.length_map, List.length_singleton] at *; omega))) ?_; intro w1 I1 hO hS) | (refine st_bool (by assumption) hS (by first | omega | (simp only [List.length_set, List.length_append, List.length_replicate, List.length_cons, List.length_nil, List.length_take, List.length_drop, List.length_map, List.length_singleton] at *; omega)) (by first | omega | (simp only [List.length_set, List.length_append, List.length_replicate, List.length_cons, List.length_nil, List.length_take, List.length_drop, List.length_map, List.length_singleton] at *; omega)) ?_; intro w1 I1 hO hS) | (with_reducible refine And.intro rfl ?_) | (with_reducible refine And.intro (by omega) ?_) | (with_reducible refine And.intro ?_ ?_) | (with_reducible rfl) | assumption | omega | exact hS.sub
  · have e : freeIdx h = i.toNat := by
      unfold freeIdx
      rw [List.findIdx_eq (by omega : i.toNat < h.length)]
      have hc' : (h[i.toNat]'(by omega)).count = 0 := by
        have := nth_nat (l := h) (i := i.toNat) (by omega)
        rw [Int.toNat_of_nonneg h0] at this
        rw [← this]; exact hc
      refine ⟨by simpa using hc', fun j hj => ?_⟩
      have := h2 (h[j]'(by omega)) (List.mem_take_iff_getElem.2 ⟨j, by omega, rfl⟩)
      simpa using this
    rw [e, Int.toNat_of_nonneg h0]
  · rw [take_nth h0 (by omega)]; intro k hk
    rcases List.mem_append.1 hk with hk | hk
    · exact h2 k hk
    · rw [List.mem_singleton.1 hk]; exact hc
  · rw [take_all (by omega)] at h2
    have e : freeIdx h = h.length := by
      unfold freeIdx
      rw [List.findIdx_eq_length]
      intro c hc; simpa using h2 c hc
    rw [e, hn]

theorem length_placeL (h : List CellD) (k : Int) (c : CellD) : (placeL h k c).length ≤ h.length + 1 := by
  unfold placeL; split <;> simp

theorem c_place (hO : OwnD x h I) (hS : St u w L) [p : Pos I L R F] (hf : Read w xf fs) (hk0 : 0 ≤ k) (hk1 : k ≤ h.length) (hn : InI n) (hl : h.length < 1099511627776) :
    Trip Try.prog 85 #[x.val, .int .i64 k, .int .i64 n, xf.val] w fun r w' => ∃ y I', r = y.val ∧ OwnD y (placeL h k ⟨1, n, fs⟩) I' ∧ St u w' (I' ++ R) := by
  have hxn := hO.n
  have hxl := hO.le
  replace hS := hS.front (I := I)
  refine of85 _ _ _ _ _ _ ?_
  unfold vc85
  refine Mk.usew (c_copyInts hf) hS ?_
  rintro _ w2 J ⟨z, rfl, hZ⟩ hS hsub
  refine ⟨_, rfl, fun hc => ?_, fun hc => ?_⟩
  · simp only [decide_eq_true_eq, decide_eq_false_iff_not, Bool.and_eq_true, Bool.and_eq_false_iff, Bool.or_eq_true, Bool.or_eq_false_iff, Bool.not_eq_true', Bool.not_eq_false', Bool.not_true, Bool.not_false, Bool.false_eq_true, Bool.true_eq_false, Int.not_lt, Int.not_le, ge_iff_le, gt_iff_lt, Bool.not_eq_eq_eq_not, Bool.true_or, Bool.or_true, Bool.false_or, Bool.or_false, Bool.true_and, Bool.and_true, false_or, or_false, true_and, and_true, Decidable.not_not] at hc
    refine St.buildR hS ?_ ?_ ?_ ?_
    · simp [Value.cells]
    · rfl
    · decide
    intro x3 w3 I3 hB hS hs _
    refine ⟨_, rfl, ?_⟩
    refine OwnD.push' (a := (⟨1, n, fs⟩ : CellD)) hO hS (hB.rd hS.items) ⟨z, rfl, one_in, hn, hZ.toAll⟩ (by omega) (by decide) ?_
    intro x4 w4 I4 hO4 hS
    refine ⟨_, rfl, _, I4, rfl, ?_, hS.to⟩
    rw [placeL, if_pos (by omega)]; exact hO4
  · simp only [decide_eq_true_eq, decide_eq_false_iff_not, Bool.and_eq_true, Bool.and_eq_false_iff, Bool.or_eq_true, Bool.or_eq_false_iff, Bool.not_eq_true', Bool.not_eq_false', Bool.not_true, Bool.not_false, Bool.false_eq_true, Bool.true_eq_false, Int.not_lt, Int.not_le, ge_iff_le, gt_iff_lt, Bool.not_eq_eq_eq_not, Bool.true_or, Bool.or_true, Bool.false_or, Bool.or_false, Bool.true_and, Bool.and_true, false_or, or_false, true_and, and_true, Decidable.not_not] at hc
    refine ⟨hO.ix hk0 (by omega), ?_⟩
    refine OwnD.store hO hS hk0 (by omega) (⟨1, n, fs⟩ : CellD) J (Nat.le_refl 3) (fun r K hr => ⟨J, ?_, .inl rfl⟩) ?_
    · obtain ⟨f, rfl, _⟩ := hr
      exact ⟨z, rfl, one_in, hn, hZ.toAll⟩
    · intro w4 I4 hO4 hS
      refine ⟨_, I4 ++ J, rfl, ?_, by rw [List.append_assoc]; exact hS.to⟩
      rw [placeL, if_neg (by omega)]; exact hO4

theorem c_trim (hO : OwnD x h I) (hS : St u w L) [p : Pos I L R F] : Trip Try.prog 115 #[x.val] w fun r w' => ∃ y, r = y.val ∧ OwnD y (trimL h) I ∧ St u w' L := by
  have hn := hO.n
  have hl := hO.le
  refine of115 _ _ _ ?_
  unfold vc115
  refine ⟨fun i w' => St u w' L ∧ 0 ≤ i ∧ i ≤ h.length ∧ ∀ j : Int, i ≤ j → j < h.length → (nth h j).count = 0, fun i _ => i.toNat, ⟨hS, by omega, by omega, fun j h1 h2 => by omega⟩, ?_⟩
  rintro i w' ⟨hS, h0, h1, h2⟩
  dsimp only
  refine ⟨i - 1, fun hc => wrap_i64 (by omega) (by omega), fun hc => hO.ix (by simp only [decide_eq_true_eq, decide_eq_false_iff_not, Bool.and_eq_true, Bool.and_eq_false_iff, Bool.or_eq_true, Bool.or_eq_false_iff, Bool.not_eq_true', Bool.not_eq_false', Bool.not_true, Bool.not_false, Bool.false_eq_true, Bool.true_eq_false, Int.not_lt, Int.not_le, ge_iff_le, gt_iff_lt, Bool.not_eq_eq_eq_not, Bool.true_or, Bool.or_true, Bool.false_or, Bool.or_false, Bool.true_and, Bool.and_true, false_or, or_false, true_and, and_true, Decidable.not_not] at hc; omega) (by omega), ?_⟩
  refine ld_countg (hO.src hS) (fun hc => ⟨by simp only [decide_eq_true_eq, decide_eq_false_iff_not, Bool.and_eq_true, Bool.and_eq_false_iff, Bool.or_eq_true, Bool.or_eq_false_iff, Bool.not_eq_true', Bool.not_eq_false', Bool.not_true, Bool.not_false, Bool.false_eq_true, Bool.true_eq_false, Int.not_lt, Int.not_le, ge_iff_le, gt_iff_lt, Bool.not_eq_eq_eq_not, Bool.true_or, Bool.or_true, Bool.false_or, Bool.or_false, Bool.true_and, Bool.and_true, false_or, or_false, true_and, and_true, Decidable.not_not] at hc; omega, by omega⟩) ?_
  refine ⟨fun hc => ?_, fun hc => ?_⟩
  · simp only [decide_eq_true_eq, decide_eq_false_iff_not, Bool.and_eq_true, Bool.and_eq_false_iff, Bool.or_eq_true, Bool.or_eq_false_iff, Bool.not_eq_true', Bool.not_eq_false', Bool.not_true, Bool.not_false, Bool.false_eq_true, Bool.true_eq_false, Int.not_lt, Int.not_le, ge_iff_le, gt_iff_lt, Bool.not_eq_eq_eq_not, Bool.true_or, Bool.or_true, Bool.false_or, Bool.or_false, Bool.true_and, Bool.and_true, false_or, or_false, true_and, and_true, Decidable.not_not] at hc
    refine go_wr (by omega) (by omega) ?_
    refine ⟨⟨hS, by omega, by omega, fun j j0 j1 => ?_⟩, by omega⟩
    by_cases e : j = i - 1
    · rw [e]; exact hc.2
    · exact h2 j (by omega) j1
  · simp only [decide_eq_true_eq, decide_eq_false_iff_not, Bool.and_eq_true, Bool.and_eq_false_iff, Bool.or_eq_true, Bool.or_eq_false_iff, Bool.not_eq_true', Bool.not_eq_false', Bool.not_true, Bool.not_false, Bool.false_eq_true, Bool.true_eq_false, Int.not_lt, Int.not_le, ge_iff_le, gt_iff_lt, Bool.not_eq_eq_eq_not, Bool.true_or, Bool.or_true, Bool.false_or, Bool.or_false, Bool.true_and, Bool.and_true, false_or, or_false, true_and, and_true, Decidable.not_not] at hc
    refine ⟨⟨by omega, by omega, ?_⟩, _, rfl, ?_, hS⟩
    · obtain ⟨_, hr, _⟩ := OwnD.read hO hS; have := hr.2.1; omega
    · rw [trimL_take (k := i.toNat) (by omega) (fun j j0 j1 => h2 j (by omega) j1) (fun hp => by rw [Int.toNat_of_nonneg h0]; rcases hc with hc | hc; omega; exact hc)]
      exact hO.cut h0 h1
end
end Go.Vc
