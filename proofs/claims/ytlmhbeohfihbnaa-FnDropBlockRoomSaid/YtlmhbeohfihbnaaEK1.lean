/- Part of the proofs about the heaps and memories: a law is joined in the text whose name ends in W and the law. -/
import Derived.Test.YtlmhbeohfihbnaaEE4
import Derived.Test.YtlmhbeohfihbnaaEG
import Derived.Test.YtlmhbeohfihbnaaEH1
namespace Go.Vc
open Go Go.Proofs Go.RowKit
set_option linter.all false

instance : SlT Try.prog 23 1 8 [intV 0] := .of (by kernel_rfl) rfl (by decide)

/-- the reader of random numbers: its position is at most m -/
def Rdr (u : World) (a : Addr) (m : Int) (I : Items) : Prop :=
  ∃ (b : Sl) (bs : List UInt8) (p : Int), Cel a [b.val, .int .i64 p] I ∧ Read u b bs ∧ bs.length ≤ 2000 ∧ 0 ≤ p ∧ p ≤ m
theorem Rdr.mono {u u' : World} {a : Addr} {m : Int} {I : Items} (h : Rdr u a m I) (hs : Sub u u') : Rdr u' a m I :=
  let ⟨b, bs, p, h1, h2, h3⟩ := h; ⟨b, bs, p, h1, h2.mono hs, h3⟩
theorem Rdr.le {u : World} {a : Addr} {m m' : Int} {I : Items} (h : Rdr u a m I) (hm : m ≤ m') : Rdr u a m' I :=
  let ⟨b, bs, p, h1, h2, h3, h4, h5⟩ := h; ⟨b, bs, p, h1, h2, h3, h4, by omega⟩

theorem c_pick {u w : World} {a : Addr} {m n : Int} {I L R : Items} {F : Items → Items} (hr : Rdr u a m I) (hS : St u w L) [p : Pos I L R F] (hm : m ≤ 1000000000) (hn1 : -1000000000000 ≤ n) (hn : n ≤ 1000000000000) :
    Trip Try.prog 62 #[.pointer (some (a.add 0)), .int .i64 n] w fun r w' => ∃ k I', r = .int .i64 k ∧ Rdr u a (m + 1) I' ∧ St u w' (I' ++ R) ∧ 0 ≤ k ∧ (1 ≤ n → k < n) ∧ (n < 1 → k = 0) := by
  replace hS := hS.front (I := I)
  obtain ⟨b, bs, q, hC, hB, hbs, hq0, hq1⟩ := hr
  refine of62 _ _ _ _ ?_
  unfold vc62
  have hbn := hB.n
  have fin : ∀ (w1 : World) (I1 : Items) (k : Int), Cel a [b.val, .int .i64 (q + 1)] I1 → St u w1 (I1 ++ R) → 0 ≤ k → (1 ≤ n → k < n) → (n < 1 → k = 0) →
      ∃ k' I', Value.int .i64 k = .int .i64 k' ∧ Rdr u a (m + 1) I' ∧ St u w1 (I' ++ R) ∧ 0 ≤ k' ∧ (1 ≤ n → k' < n) ∧ (n < 1 → k' = 0) :=
    fun w1 I1 k h1 h2 h3 h4 h5 => ⟨k, I1, rfl, ⟨b, bs, q + 1, h1, hB, hbs, by omega, by omega⟩, h2, h3, h4, h5⟩
  have tm : ∀ x y : Int, 0 ≤ x → 0 < y → 0 ≤ x.tmod y ∧ x.tmod y < y := fun x y h1 h2 => ⟨Int.tmod_nonneg _ h1, Int.tmod_lt_of_pos _ h2⟩
  have td : ∀ x y : Int, 0 ≤ x → 0 < y → 0 ≤ x.tdiv y ∧ x.tdiv y ≤ x := fun x y h1 h2 => ⟨Int.tdiv_nonneg h1 (by omega), Int.tdiv_le_self _ h1⟩
  repeat' first | (intro hc; simp only [decide_eq_true_eq, decide_eq_false_iff_not, Bool.and_eq_true, Bool.and_eq_false_iff, Bool.or_eq_true, Bool.or_eq_false_iff, Bool.not_eq_true', Bool.not_eq_false', Bool.not_true, Bool.not_false, Bool.false_eq_true, Bool.true_eq_false, Int.not_lt, Int.not_le, ge_iff_le, gt_iff_lt, Bool.not_eq_eq_eq_not, Bool.true_or, Bool.or_true, Bool.false_or, Bool.or_false, Bool.true_and, Bool.and_true, false_or, or_false, true_and, and_true, Decidable.not_not] at hc) | (refine go_wr (by first | omega | (simp only [List.length_set, List.length_append, List.length_replicate, List.length_cons, List.length_nil, List.length_take, List.length_drop, List.length_map, List.length_singleton] at *; omega)) (by first | omega | (simp only [List.length_set, List.length_append, List.length_replicate, List.length_cons, List.length_nil, List.length_take, List.length_drop, List.length_map, List.length_singleton] at *; omega)) ?_) | (refine go_wrg (by (intro hc; simp only [decide_eq_true_eq, decide_eq_false_iff_not, Bool.and_eq_true, Bool.and_eq_false_iff, Bool.or_eq_true, Bool.or_eq_false_iff, Bool.not_eq_true', Bool.not_eq_false', Bool.not_true, Bool.not_false, Bool.false_eq_true, Bool.true_eq_false, Int.not_lt, Int.not_le, ge_iff_le, gt_iff_lt, Bool.not_eq_eq_eq_not, Bool.true_or, Bool.or_true, Bool.false_or, Bool.or_false, Bool.true_and, Bool.and_true, false_or, or_false, true_and, and_true, Decidable.not_not] at hc; constructor <;> first | omega | (simp only [List.length_set, List.length_append, List.length_replicate, List.length_cons, List.length_nil, List.length_take, List.length_drop, List.length_map, List.length_singleton] at *; omega))) ?_) | (refine go_ix (by assumption) (by first | omega | (simp only [List.length_set, List.length_append, List.length_replicate, List.length_cons, List.length_nil, List.length_take, List.length_drop, List.length_map, List.length_singleton] at *; omega)) (by first | omega | (simp only [List.length_set, List.length_append, List.length_replicate, List.length_cons, List.length_nil, List.length_take, List.length_drop, List.length_map, List.length_singleton] at *; omega)) ?_) | (refine go_oix (by assumption) (by first | omega | (simp only [List.length_set, List.length_append, List.length_replicate, List.length_cons, List.length_nil, List.length_take, List.length_drop, List.length_map, List.length_singleton] at *; omega)) (by first | omega | (simp only [List.length_set, List.length_append, List.length_replicate, List.length_cons, List.length_nil, List.length_take, List.length_drop, List.length_map, List.length_singleton] at *; omega)) ?_) | (refine go_ixg (by assumption) (by (intro hc; simp only [decide_eq_true_eq, decide_eq_false_iff_not, Bool.and_eq_true, Bool.and_eq_false_iff, Bool.or_eq_true, Bool.or_eq_false_iff, Bool.not_eq_true', Bool.not_eq_false', Bool.not_true, Bool.not_false, Bool.false_eq_true, Bool.true_eq_false, Int.not_lt, Int.not_le, ge_iff_le, gt_iff_lt, Bool.not_eq_eq_eq_not, Bool.true_or, Bool.or_true, Bool.false_or, Bool.or_false, Bool.true_and, Bool.and_true, false_or, or_false, true_and, and_true, Decidable.not_not] at hc; constructor <;> first | omega | (simp only [List.length_set, List.length_append, List.length_replicate, List.length_cons, List.length_nil, List.length_take, List.length_drop, List.length_map, List.length_singleton] at *; omega))) ?_) | (refine go_oixg (by assumption) (by (intro hc; simp only [decide_eq_true_eq, decide_eq_false_iff_not, Bool.and_eq_true, Bool.and_eq_false_iff, Bool.or_eq_true, Bool.or_eq_false_iff, Bool.not_eq_true', Bool.not_eq_false', Bool.not_true, Bool.not_false, Bool.false_eq_true, Bool.true_eq_false, Int.not_lt, Int.not_le, ge_iff_le, gt_iff_lt, Bool.not_eq_eq_eq_not, Bool.true_or, Bool.or_true, Bool.false_or, Bool.or_false, Bool.true_and, Bool.and_true, false_or, or_false, true_and, and_true, Decidable.not_not] at hc; constructor <;> first | omega | (simp only [List.length_set, List.length_append, List.length_replicate, List.length_cons, List.length_nil, List.length_take, List.length_drop, List.length_map, List.length_singleton] at *; omega))) ?_) | (refine ld_cell (by first | exact ReadB.src (by assumption) hS.sub | exact Own.src (by assumption) hS) (by first | omega | (simp only [List.length_set, List.length_append, List.length_replicate, List.length_cons, List.length_nil, List.length_take, List.length_drop, List.length_map, List.length_singleton] at *; omega)) (by first | omega | (simp only [List.length_set, List.length_append, List.length_replicate, List.length_cons, List.length_nil, List.length_take, List.length_drop, List.length_map, List.length_singleton] at *; omega)) ?_; intro f hf hcI htI) | (refine ld_count (by first | exact ReadB.src (by assumption) hS.sub | exact Own.src (by assumption) hS) (by first | omega | (simp only [List.length_set, List.length_append, List.length_replicate, List.length_cons, List.length_nil, List.length_take, List.length_drop, List.length_map, List.length_singleton] at *; omega)) (by first | omega | (simp only [List.length_set, List.length_append, List.length_replicate, List.length_cons, List.length_nil, List.length_take, List.length_drop, List.length_map, List.length_singleton] at *; omega)) ?_; intro hlo hhi) | (refine ld_countg (by first | exact ReadB.src (by assumption) hS.sub | exact Own.src (by assumption) hS) (by (intro hc; simp only [decide_eq_true_eq, decide_eq_false_iff_not, Bool.and_eq_true, Bool.and_eq_false_iff, Bool.or_eq_true, Bool.or_eq_false_iff, Bool.not_eq_true', Bool.not_eq_false', Bool.not_true, Bool.not_false, Bool.false_eq_true, Bool.true_eq_false, Int.not_lt, Int.not_le, ge_iff_le, gt_iff_lt, Bool.not_eq_eq_eq_not, Bool.true_or, Bool.or_true, Bool.false_or, Bool.or_false, Bool.true_and, Bool.and_true, false_or, or_false, true_and, and_true, Decidable.not_not] at hc; constructor <;> first | omega | (simp only [List.length_set, List.length_append, List.length_replicate, List.length_cons, List.length_nil, List.length_take, List.length_drop, List.length_map, List.length_singleton] at *; omega))) ?_) | (refine ld_tag (by first | exact ReadB.src (by assumption) hS.sub | exact Own.src (by assumption) hS) (by first | omega | (simp only [List.length_set, List.length_append, List.length_replicate, List.length_cons, List.length_nil, List.length_take, List.length_drop, List.length_map, List.length_singleton] at *; omega)) (by first | omega | (simp only [List.length_set, List.length_append, List.length_replicate, List.length_cons, List.length_nil, List.length_take, List.length_drop, List.length_map, List.length_singleton] at *; omega)) ?_; intro hlo hhi) | (refine ld_fields (by first | exact ReadB.src (by assumption) hS.sub | exact Own.src (by assumption) hS) (by first | omega | (simp only [List.length_set, List.length_append, List.length_replicate, List.length_cons, List.length_nil, List.length_take, List.length_drop, List.length_map, List.length_singleton] at *; omega)) (by first | omega | (simp only [List.length_set, List.length_append, List.length_replicate, List.length_cons, List.length_nil, List.length_take, List.length_drop, List.length_map, List.length_singleton] at *; omega)) ?_; intro f hf) | (refine ld_fieldsg (by first | exact ReadB.src (by assumption) hS.sub | exact Own.src (by assumption) hS) (by (intro hc; simp only [decide_eq_true_eq, decide_eq_false_iff_not, Bool.and_eq_true, Bool.and_eq_false_iff, Bool.or_eq_true, Bool.or_eq_false_iff, Bool.not_eq_true', Bool.not_eq_false', Bool.not_true, Bool.not_false, Bool.false_eq_true, Bool.true_eq_false, Int.not_lt, Int.not_le, ge_iff_le, gt_iff_lt, Bool.not_eq_eq_eq_not, Bool.true_or, Bool.or_true, Bool.false_or, Bool.or_false, Bool.true_and, Bool.and_true, false_or, or_false, true_and, and_true, Decidable.not_not] at hc; constructor <;> first | omega | (simp only [List.length_set, List.length_append, List.length_replicate, List.length_cons, List.length_nil, List.length_take, List.length_drop, List.length_map, List.length_singleton] at *; omega))) ?_; intro f hf) | (refine ld_int (by first | exact ReadB.mono (by assumption) hS.sub | exact Own.read (by assumption) hS | assumption) (by first | omega | (simp only [List.length_set, List.length_append, List.length_replicate, List.length_cons, List.length_nil, List.length_take, List.length_drop, List.length_map, List.length_singleton] at *; omega)) (by first | omega | (simp only [List.length_set, List.length_append, List.length_replicate, List.length_cons, List.length_nil, List.length_take, List.length_drop, List.length_map, List.length_singleton] at *; omega)) ?_; intro hlo hhi) | (refine ld_bool (by first | exact ReadB.mono (by assumption) hS.sub | exact Own.read (by assumption) hS | assumption) (by first | omega | (simp only [List.length_set, List.length_append, List.length_replicate, List.length_cons, List.length_nil, List.length_take, List.length_drop, List.length_map, List.length_singleton] at *; omega)) (by first | omega | (simp only [List.length_set, List.length_append, List.length_replicate, List.length_cons, List.length_nil, List.length_take, List.length_drop, List.length_map, List.length_singleton] at *; omega)) ?_) | (refine ld_byte (by first | exact ReadB.mono (by assumption) hS.sub | exact Own.read (by assumption) hS | assumption) (by first | omega | (simp only [List.length_set, List.length_append, List.length_replicate, List.length_cons, List.length_nil, List.length_take, List.length_drop, List.length_map, List.length_singleton] at *; omega)) (by first | omega | (simp only [List.length_set, List.length_append, List.length_replicate, List.length_cons, List.length_nil, List.length_take, List.length_drop, List.length_map, List.length_singleton] at *; omega)) ?_; intro hlo hhi) | (refine ld_intg (by first | exact ReadB.mono (by assumption) hS.sub | exact Own.read (by assumption) hS | assumption) (by (intro hc; simp only [decide_eq_true_eq, decide_eq_false_iff_not, Bool.and_eq_true, Bool.and_eq_false_iff, Bool.or_eq_true, Bool.or_eq_false_iff, Bool.not_eq_true', Bool.not_eq_false', Bool.not_true, Bool.not_false, Bool.false_eq_true, Bool.true_eq_false, Int.not_lt, Int.not_le, ge_iff_le, gt_iff_lt, Bool.not_eq_eq_eq_not, Bool.true_or, Bool.or_true, Bool.false_or, Bool.or_false, Bool.true_and, Bool.and_true, false_or, or_false, true_and, and_true, Decidable.not_not] at hc; constructor <;> first | omega | (simp only [List.length_set, List.length_append, List.length_replicate, List.length_cons, List.length_nil, List.length_take, List.length_drop, List.length_map, List.length_singleton] at *; omega))) ?_) | (refine ld_boolg (by first | exact ReadB.mono (by assumption) hS.sub | exact Own.read (by assumption) hS | assumption) (by (intro hc; simp only [decide_eq_true_eq, decide_eq_false_iff_not, Bool.and_eq_true, Bool.and_eq_false_iff, Bool.or_eq_true, Bool.or_eq_false_iff, Bool.not_eq_true', Bool.not_eq_false', Bool.not_true, Bool.not_false, Bool.false_eq_true, Bool.true_eq_false, Int.not_lt, Int.not_le, ge_iff_le, gt_iff_lt, Bool.not_eq_eq_eq_not, Bool.true_or, Bool.or_true, Bool.false_or, Bool.or_false, Bool.true_and, Bool.and_true, false_or, or_false, true_and, and_true, Decidable.not_not] at hc; constructor <;> first | omega | (simp only [List.length_set, List.length_append, List.length_replicate, List.length_cons, List.length_nil, List.length_take, List.length_drop, List.length_map, List.length_singleton] at *; omega))) ?_) | (refine ⟨_, Cel.load (by assumption) hS rfl, ?_⟩) | (refine ⟨_, fun _ => Cel.load (by assumption) hS rfl, ?_⟩) | (refine go_max ?_) | (refine go_nil ?_) | (refine Cel.store (by assumption) hS (by simp) ?_; intro w1 I1 hC hS; simp [putR] at hC) | (refine st_int (by assumption) hS (by first | omega | (simp only [List.length_set, List.length_append, List.length_replicate, List.length_cons, List.length_nil, List.length_take, List.length_drop, List.length_map, List.length_singleton] at *; omega)) (by first | omega | (simp only [List.length_set, List.length_append, List.length_replicate, List.length_cons, List.length_nil, List.length_take, List.length_drop, List.length_map, List.length_singleton] at *; omega)) (by first | assumption | (constructor <;> first | omega | (simp only [List.length_set, List.length_append, List.length_replicate, List.length_cons, List.length_nil, List.length_take, List.length_drop, List.length_map, List.length_singleton] at *; omega))) ?_; intro w1 I1 hO hS) | (refine st_bool (by assumption) hS (by first | omega | (simp only [List.length_set, List.length_append, List.length_replicate, List.length_cons, List.length_nil, List.length_take, List.length_drop, List.length_map, List.length_singleton] at *; omega)) (by first | omega | (simp only [List.length_set, List.length_append, List.length_replicate, List.length_cons, List.length_nil, List.length_take, List.length_drop, List.length_map, List.length_singleton] at *; omega)) ?_; intro w1 I1 hO hS) | (with_reducible refine And.intro rfl ?_) | (with_reducible refine And.intro (by omega) ?_) | (with_reducible refine And.intro ?_ ?_) | (with_reducible rfl) | assumption | omega | exact hS.sub
  · have t0 := tm 0 1 (by omega) (by omega)
    rcases hc with hc | hc
    · exact fin _ _ 0 hC hS (by omega) (by omega) (by omega)
    · exact fin _ _ 0 hC hS (by omega) (by omega) (by omega)
  · exact fin _ _ _ hC hS (tm _ n (by omega) (by omega)).1 (fun _ => (tm _ n (by omega) (by omega)).2) (by omega)
  · exact hB.ix (tm _ _ (by omega) (by omega)).1 (by have := (tm (q + 1 - 1) b.n (by omega) (by omega)).2; omega)
  · have t0 := tm (q + 1 - 1) b.n (by omega) (by omega)
    have t1 := tm ((q + 1 - 1) * 7 + 3) b.n (by omega) (by omega)
    have t2 := td (q + 1 - 1) b.n (by omega) (by omega)
    refine ld_byte (hB.mono hS.sub) t0.1 (by omega) ?_
    intro b0 b1
    refine go_wr (by omega) (by omega) ?_
    refine go_wr (by omega) (by omega) ?_
    refine ⟨_, Cel.load hC hS rfl, ?_⟩
    refine go_wr (by omega) (by omega) ?_
    refine go_wr (by omega) (by omega) ?_
    refine ⟨_, Cel.load hC hS rfl, by omega, hB.ix t1.1 (by omega), ?_⟩
    refine ld_byte (hB.mono hS.sub) t1.1 (by omega) ?_
    intro b2 b3
    repeat' first | (intro hc; simp only [decide_eq_true_eq, decide_eq_false_iff_not, Bool.and_eq_true, Bool.and_eq_false_iff, Bool.or_eq_true, Bool.or_eq_false_iff, Bool.not_eq_true', Bool.not_eq_false', Bool.not_true, Bool.not_false, Bool.false_eq_true, Bool.true_eq_false, Int.not_lt, Int.not_le, ge_iff_le, gt_iff_lt, Bool.not_eq_eq_eq_not, Bool.true_or, Bool.or_true, Bool.false_or, Bool.or_false, Bool.true_and, Bool.and_true, false_or, or_false, true_and, and_true, Decidable.not_not] at hc) | (refine go_wr (by first | omega | (simp only [List.length_set, List.length_append, List.length_replicate, List.length_cons, List.length_nil, List.length_take, List.length_drop, List.length_map, List.length_singleton] at *; omega)) (by first | omega | (simp only [List.length_set, List.length_append, List.length_replicate, List.length_cons, List.length_nil, List.length_take, List.length_drop, List.length_map, List.length_singleton] at *; omega)) ?_) | (refine go_wrg (by (intro hc; simp only [decide_eq_true_eq, decide_eq_false_iff_not, Bool.and_eq_true, Bool.and_eq_false_iff, Bool.or_eq_true, Bool.or_eq_false_iff, Bool.not_eq_true', Bool.not_eq_false', Bool.not_true, Bool.not_false, Bool.false_eq_true, Bool.true_eq_false, Int.not_lt, Int.not_le, ge_iff_le, gt_iff_lt, Bool.not_eq_eq_eq_not, Bool.true_or, Bool.or_true, Bool.false_or, Bool.or_false, Bool.true_and, Bool.and_true, false_or, or_false, true_and, and_true, Decidable.not_not] at hc; constructor <;> first | omega | (simp only [List.length_set, List.length_append, List.length_replicate, List.length_cons, List.length_nil, List.length_take, List.length_drop, List.length_map, List.length_singleton] at *; omega))) ?_) | (refine go_ix (by assumption) (by first | omega | (simp only [List.length_set, List.length_append, List.length_replicate, List.length_cons, List.length_nil, List.length_take, List.length_drop, List.length_map, List.length_singleton] at *; omega)) (by first | omega | (simp only [List.length_set, List.length_append, List.length_replicate, List.length_cons, List.length_nil, List.length_take, List.length_drop, List.length_map, List.length_singleton] at *; omega)) ?_) | (refine go_oix (by assumption) (by first | omega | (simp only [List.length_set, List.length_append, List.length_replicate, List.length_cons, List.length_nil, List.length_take, List.length_drop, List.length_map, List.length_singleton] at *; omega)) (by first | omega | (simp only [List.length_set, List.length_append, List.length_replicate, List.length_cons, List.length_nil, List.length_take, List.length_drop, List.length_map, List.length_singleton] at *; omega)) ?_) | (refine go_ixg (by assumption) (by (intro hc; simp only [decide_eq_true_eq, decide_eq_false_iff_not, Bool.and_eq_true, Bool.and_eq_false_iff, Bool.or_eq_true, Bool.or_eq_false_iff, Bool.not_eq_true', Bool.not_eq_false', Bool.not_true, Bool.not_false, Bool.false_eq_true, Bool.true_eq_false, Int.not_lt, Int.not_le, ge_iff_le, gt_iff_lt, Bool.not_eq_eq_eq_not, Bool.true_or, Bool.or_true, Bool.false_or, Bool.or_false, Bool.true_and, Bool.and_true, false_or, or_false, true_and, and_true, Decidable.not_not] at hc; constructor <;> first | omega | (simp only [List.length_set, List.length_append, List.length_replicate, List.length_cons, List.length_nil, List.length_take, List.length_drop, List.length_map, List.length_singleton] at *; omega))) ?_) | (refine go_oixg (by assumption) (by (intro hc; simp only [decide_eq_true_eq, decide_eq_false_iff_not, Bool.and_eq_true, Bool.and_eq_false_iff, Bool.or_eq_true, Bool.or_eq_false_iff, Bool.not_eq_true', Bool.not_eq_false', Bool.not_true, Bool.not_false, Bool.false_eq_true, Bool.true_eq_false, Int.not_lt, Int.not_le, ge_iff_le, gt_iff_lt, Bool.not_eq_eq_eq_not, Bool.true_or, Bool.or_true, Bool.false_or, Bool.or_false, Bool.true_and, Bool.and_true, false_or, or_false, true_and, and_true, Decidable.not_not] at hc; constructor <;> first | omega | (simp only [List.length_set, List.length_append, List.length_replicate, List.length_cons, List.length_nil, List.length_take, List.length_drop, List.length_map, List.length_singleton] at *; omega))) ?_) | (refine ld_cell (by first | exact ReadB.src (by assumption) hS.sub | exact Own.src (by assumption) hS) (by first | omega | (simp only [List.length_set, List.length_append, List.length_replicate, List.length_cons, List.length_nil, List.length_take, List.length_drop, List.length_map, List.length_singleton] at *; omega)) (by first | omega | (simp only [List.length_set, List.length_append, List.length_replicate, List.length_cons, List.length_nil, List.length_take, List.length_drop, List.length_map, List.length_singleton] at *; omega)) ?_; intro f hf hcI htI) | (refine ld_count (by first | exact ReadB.src (by assumption) hS.sub | exact Own.src (by assumption) hS) (by first | omega | (simp only [List.length_set, List.length_append, List.length_replicate, List.length_cons, List.length_nil, List.length_take, List.length_drop, List.length_map, List.length_singleton] at *; omega)) (by first | omega | (simp only [List.length_set, List.length_append, List.length_replicate, List.length_cons, List.length_nil, List.length_take, List.length_drop, List.length_map, List.length_singleton] at *; omega)) ?_; intro hlo hhi) | (refine ld_countg (by first | exact ReadB.src (by assumption) hS.sub | exact Own.src (by assumption) hS) (by (intro hc; simp only [decide_eq_true_eq, decide_eq_false_iff_not, Bool.and_eq_true, Bool.and_eq_false_iff, Bool.or_eq_true, Bool.or_eq_false_iff, Bool.not_eq_true', Bool.not_eq_false', Bool.not_true, Bool.not_false, Bool.false_eq_true, Bool.true_eq_false, Int.not_lt, Int.not_le, ge_iff_le, gt_iff_lt, Bool.not_eq_eq_eq_not, Bool.true_or, Bool.or_true, Bool.false_or, Bool.or_false, Bool.true_and, Bool.and_true, false_or, or_false, true_and, and_true, Decidable.not_not] at hc; constructor <;> first | omega | (simp only [List.length_set, List.length_append, List.length_replicate, List.length_cons, List.length_nil, List.length_take, List.length_drop, List.length_map, List.length_singleton] at *; omega))) ?_) | (refine ld_tag (by first | exact ReadB.src (by assumption) hS.sub | exact Own.src (by assumption) hS) (by first | omega | (simp only [List.length_set, List.length_append, List.length_replicate, List.length_cons, List.length_nil, List.length_take, List.length_drop, List.length_map, List.length_singleton] at *; omega)) (by first | omega | (simp only [List.length_set, List.length_append, List.length_replicate, List.length_cons, List.length_nil, List.length_take, List.length_drop, List.length_map, List.length_singleton] at *; omega)) ?_; intro hlo hhi) | (refine ld_fields (by first | exact ReadB.src (by assumption) hS.sub | exact Own.src (by assumption) hS) (by first | omega | (simp only [List.length_set, List.length_append, List.length_replicate, List.length_cons, List.length_nil, List.length_take, List.length_drop, List.length_map, List.length_singleton] at *; omega)) (by first | omega | (simp only [List.length_set, List.length_append, List.length_replicate, List.length_cons, List.length_nil, List.length_take, List.length_drop, List.length_map, List.length_singleton] at *; omega)) ?_; intro f hf) | (refine ld_fieldsg (by first | exact ReadB.src (by assumption) hS.sub | exact Own.src (by assumption) hS) (by (intro hc; simp only [decide_eq_true_eq, decide_eq_false_iff_not, Bool.and_eq_true, Bool.and_eq_false_iff, Bool.or_eq_true, Bool.or_eq_false_iff, Bool.not_eq_true', Bool.not_eq_false', Bool.not_true, Bool.not_false, Bool.false_eq_true, Bool.true_eq_false, Int.not_lt, Int.not_le, ge_iff_le, gt_iff_lt, Bool.not_eq_eq_eq_not, Bool.true_or, Bool.or_true, Bool.false_or, Bool.or_false, Bool.true_and, Bool.and_true, false_or, or_false, true_and, and_true, Decidable.not_not] at hc; constructor <;> first | omega | (simp only [List.length_set, List.length_append, List.length_replicate, List.length_cons, List.length_nil, List.length_take, List.length_drop, List.length_map, List.length_singleton] at *; omega))) ?_; intro f hf) | (refine ld_int (by first | exact ReadB.mono (by assumption) hS.sub | exact Own.read (by assumption) hS | assumption) (by first | omega | (simp only [List.length_set, List.length_append, List.length_replicate, List.length_cons, List.length_nil, List.length_take, List.length_drop, List.length_map, List.length_singleton] at *; omega)) (by first | omega | (simp only [List.length_set, List.length_append, List.length_replicate, List.length_cons, List.length_nil, List.length_take, List.length_drop, List.length_map, List.length_singleton] at *; omega)) ?_; intro hlo hhi) | (refine ld_bool (by first | exact ReadB.mono (by assumption) hS.sub | exact Own.read (by assumption) hS | assumption) (by first | omega | (simp only [List.length_set, List.length_append, List.length_replicate, List.length_cons, List.length_nil, List.length_take, List.length_drop, List.length_map, List.length_singleton] at *; omega)) (by first | omega | (simp only [List.length_set, List.length_append, List.length_replicate, List.length_cons, List.length_nil, List.length_take, List.length_drop, List.length_map, List.length_singleton] at *; omega)) ?_) | (refine ld_byte (by first | exact ReadB.mono (by assumption) hS.sub | exact Own.read (by assumption) hS | assumption) (by first | omega | (simp only [List.length_set, List.length_append, List.length_replicate, List.length_cons, List.length_nil, List.length_take, List.length_drop, List.length_map, List.length_singleton] at *; omega)) (by first | omega | (simp only [List.length_set, List.length_append, List.length_replicate, List.length_cons, List.length_nil, List.length_take, List.length_drop, List.length_map, List.length_singleton] at *; omega)) ?_; intro hlo hhi) | (refine ld_intg (by first | exact ReadB.mono (by assumption) hS.sub | exact Own.read (by assumption) hS | assumption) (by (intro hc; simp only [decide_eq_true_eq, decide_eq_false_iff_not, Bool.and_eq_true, Bool.and_eq_false_iff, Bool.or_eq_true, Bool.or_eq_false_iff, Bool.not_eq_true', Bool.not_eq_false', Bool.not_true, Bool.not_false, Bool.false_eq_true, Bool.true_eq_false, Int.not_lt, Int.not_le, ge_iff_le, gt_iff_lt, Bool.not_eq_eq_eq_not, Bool.true_or, Bool.or_true, Bool.false_or, Bool.or_false, Bool.true_and, Bool.and_true, false_or, or_false, true_and, and_true, Decidable.not_not] at hc; constructor <;> first | omega | (simp only [List.length_set, List.length_append, List.length_replicate, List.length_cons, List.length_nil, List.length_take, List.length_drop, List.length_map, List.length_singleton] at *; omega))) ?_) | (refine ld_boolg (by first | exact ReadB.mono (by assumption) hS.sub | exact Own.read (by assumption) hS | assumption) (by (intro hc; simp only [decide_eq_true_eq, decide_eq_false_iff_not, Bool.and_eq_true, Bool.and_eq_false_iff, Bool.or_eq_true, Bool.or_eq_false_iff, Bool.not_eq_true', Bool.not_eq_false', Bool.not_true, Bool.not_false, Bool.false_eq_true, Bool.true_eq_false, Int.not_lt, Int.not_le, ge_iff_le, gt_iff_lt, Bool.not_eq_eq_eq_not, Bool.true_or, Bool.or_true, Bool.false_or, Bool.or_false, Bool.true_and, Bool.and_true, false_or, or_false, true_and, and_true, Decidable.not_not] at hc; constructor <;> first | omega | (simp only [List.length_set, List.length_append, List.length_replicate, List.length_cons, List.length_nil, List.length_take, List.length_drop, List.length_map, List.length_singleton] at *; omega))) ?_) | (refine ⟨_, Cel.load (by assumption) hS rfl, ?_⟩) | (refine ⟨_, fun _ => Cel.load (by assumption) hS rfl, ?_⟩) | (refine go_max ?_) | (refine go_nil ?_) | (refine Cel.store (by assumption) hS (by simp) ?_; intro w1 I1 hC hS; simp [putR] at hC) | (refine st_int (by assumption) hS (by first | omega | (simp only [List.length_set, List.length_append, List.length_replicate, List.length_cons, List.length_nil, List.length_take, List.length_drop, List.length_map, List.length_singleton] at *; omega)) (by first | omega | (simp only [List.length_set, List.length_append, List.length_replicate, List.length_cons, List.length_nil, List.length_take, List.length_drop, List.length_map, List.length_singleton] at *; omega)) (by first | assumption | (constructor <;> first | omega | (simp only [List.length_set, List.length_append, List.length_replicate, List.length_cons, List.length_nil, List.length_take, List.length_drop, List.length_map, List.length_singleton] at *; omega))) ?_; intro w1 I1 hO hS) | (refine st_bool (by assumption) hS (by first | omega | (simp only [List.length_set, List.length_append, List.length_replicate, List.length_cons, List.length_nil, List.length_take, List.length_drop, List.length_map, List.length_singleton] at *; omega)) (by first | omega | (simp only [List.length_set, List.length_append, List.length_replicate, List.length_cons, List.length_nil, List.length_take, List.length_drop, List.length_map, List.length_singleton] at *; omega)) ?_; intro w1 I1 hO hS) | (with_reducible refine And.intro rfl ?_) | (with_reducible refine And.intro (by omega) ?_) | (with_reducible refine And.intro ?_ ?_) | (with_reducible rfl) | assumption | omega | exact hS.sub
    · refine go_quo (by omega) (by omega) (by omega) ?_
      have t3 := td (↑(nth bs ((q + 1 - 1).tmod ↑b.n)).toNat * 131 + ↑(nth bs (((q + 1 - 1) * 7 + 3).tmod ↑b.n)).toNat * 1117 + (q + 1 - 1) * 29 + (q + 1 - 1).tdiv ↑b.n * 53) 64 (by omega) (by omega)
      refine go_wr (by omega) (by omega) ?_
      refine go_wr (by omega) (by omega) ?_
      refine go_quo (by omega) (by omega) (by omega) ?_
      refine go_xor (by omega) (by omega) (by omega) (by omega) ?_
      intro r hr0 hr1
      exact ⟨by omega, fin _ _ _ hC hS (tm _ n (by omega) (by omega)).1 (fun _ => (tm _ n (by omega) (by omega)).2) (by omega)⟩

/-! ### lists of numbers -/
section
variable {u v w : World} {x y : Sl} {l m : List Int} {n : Int} {a : Addr} {I L R : Items} {F : Items → Items}

theorem c_specIsIn (hx : Read v x l) : Fn Try.prog 72 #[x.val, .int .i64 n] v (.bool (decide (n ∈ l))) := by
  refine of72 _ _ _ _ ?_
  unfold vc72
  have hn := hx.n
  have hl := hx.le
  refine ⟨fun i w => St v w [] ∧ 0 ≤ i ∧ i ≤ l.length ∧ n ∉ l.take i.toNat, fun i _ => (l.length - i).toNat, ⟨.refl v, by omega, by omega, by simp⟩, ?_⟩
  rintro i w ⟨hS, h0, h1, h2⟩
  dsimp only
  repeat' first | (intro hc; simp only [decide_eq_true_eq, decide_eq_false_iff_not, Bool.and_eq_true, Bool.and_eq_false_iff, Bool.or_eq_true, Bool.or_eq_false_iff, Bool.not_eq_true', Bool.not_eq_false', Bool.not_true, Bool.not_false, Bool.false_eq_true, Bool.true_eq_false, Int.not_lt, Int.not_le, ge_iff_le, gt_iff_lt, Bool.not_eq_eq_eq_not, Bool.true_or, Bool.or_true, Bool.false_or, Bool.or_false, Bool.true_and, Bool.and_true, false_or, or_false, true_and, and_true, Decidable.not_not] at hc) | (refine go_wr (by first | omega | (simp only [List.length_set, List.length_append, List.length_replicate, List.length_cons, List.length_nil, List.length_take, List.length_drop, List.length_map, List.length_singleton] at *; omega)) (by first | omega | (simp only [List.length_set, List.length_append, List.length_replicate, List.length_cons, List.length_nil, List.length_take, List.length_drop, List.length_map, List.length_singleton] at *; omega)) ?_) | (refine go_wrg (by (intro hc; simp only [decide_eq_true_eq, decide_eq_false_iff_not, Bool.and_eq_true, Bool.and_eq_false_iff, Bool.or_eq_true, Bool.or_eq_false_iff, Bool.not_eq_true', Bool.not_eq_false', Bool.not_true, Bool.not_false, Bool.false_eq_true, Bool.true_eq_false, Int.not_lt, Int.not_le, ge_iff_le, gt_iff_lt, Bool.not_eq_eq_eq_not, Bool.true_or, Bool.or_true, Bool.false_or, Bool.or_false, Bool.true_and, Bool.and_true, false_or, or_false, true_and, and_true, Decidable.not_not] at hc; constructor <;> first | omega | (simp only [List.length_set, List.length_append, List.length_replicate, List.length_cons, List.length_nil, List.length_take, List.length_drop, List.length_map, List.length_singleton] at *; omega))) ?_) | (refine go_ix (by assumption) (by first | omega | (simp only [List.length_set, List.length_append, List.length_replicate, List.length_cons, List.length_nil, List.length_take, List.length_drop, List.length_map, List.length_singleton] at *; omega)) (by first | omega | (simp only [List.length_set, List.length_append, List.length_replicate, List.length_cons, List.length_nil, List.length_take, List.length_drop, List.length_map, List.length_singleton] at *; omega)) ?_) | (refine go_oix (by assumption) (by first | omega | (simp only [List.length_set, List.length_append, List.length_replicate, List.length_cons, List.length_nil, List.length_take, List.length_drop, List.length_map, List.length_singleton] at *; omega)) (by first | omega | (simp only [List.length_set, List.length_append, List.length_replicate, List.length_cons, List.length_nil, List.length_take, List.length_drop, List.length_map, List.length_singleton] at *; omega)) ?_) | (refine go_ixg (by assumption) (by (intro hc; simp only [decide_eq_true_eq, decide_eq_false_iff_not, Bool.and_eq_true, Bool.and_eq_false_iff, Bool.or_eq_true, Bool.or_eq_false_iff, Bool.not_eq_true', Bool.not_eq_false', Bool.not_true, Bool.not_false, Bool.false_eq_true, Bool.true_eq_false, Int.not_lt, Int.not_le, ge_iff_le, gt_iff_lt, Bool.not_eq_eq_eq_not, Bool.true_or, Bool.or_true, Bool.false_or, Bool.or_false, Bool.true_and, Bool.and_true, false_or, or_false, true_and, and_true, Decidable.not_not] at hc; constructor <;> first | omega | (simp only [List.length_set, List.length_append, List.length_replicate, List.length_cons, List.length_nil, List.length_take, List.length_drop, List.length_map, List.length_singleton] at *; omega))) ?_) | (refine go_oixg (by assumption) (by (intro hc; simp only [decide_eq_true_eq, decide_eq_false_iff_not, Bool.and_eq_true, Bool.and_eq_false_iff, Bool.or_eq_true, Bool.or_eq_false_iff, Bool.not_eq_true', Bool.not_eq_false', Bool.not_true, Bool.not_false, Bool.false_eq_true, Bool.true_eq_false, Int.not_lt, Int.not_le, ge_iff_le, gt_iff_lt, Bool.not_eq_eq_eq_not, Bool.true_or, Bool.or_true, Bool.false_or, Bool.or_false, Bool.true_and, Bool.and_true, false_or, or_false, true_and, and_true, Decidable.not_not] at hc; constructor <;> first | omega | (simp only [List.length_set, List.length_append, List.length_replicate, List.length_cons, List.length_nil, List.length_take, List.length_drop, List.length_map, List.length_singleton] at *; omega))) ?_) | (refine ld_cell (by first | exact ReadB.src (by assumption) hS.sub | exact Own.src (by assumption) hS) (by first | omega | (simp only [List.length_set, List.length_append, List.length_replicate, List.length_cons, List.length_nil, List.length_take, List.length_drop, List.length_map, List.length_singleton] at *; omega)) (by first | omega | (simp only [List.length_set, List.length_append, List.length_replicate, List.length_cons, List.length_nil, List.length_take, List.length_drop, List.length_map, List.length_singleton] at *; omega)) ?_; intro f hf hcI htI) | (refine ld_count (by first | exact ReadB.src (by assumption) hS.sub | exact Own.src (by assumption) hS) (by first | omega | (simp only [List.length_set, List.length_append, List.length_replicate, List.length_cons, List.length_nil, List.length_take, List.length_drop, List.length_map, List.length_singleton] at *; omega)) (by first | omega | (simp only [List.length_set, List.length_append, List.length_replicate, List.length_cons, List.length_nil, List.length_take, List.length_drop, List.length_map, List.length_singleton] at *; omega)) ?_; intro hlo hhi) | (refine ld_countg (by first | exact ReadB.src (by assumption) hS.sub | exact Own.src (by assumption) hS) (by (intro hc; simp only [decide_eq_true_eq, decide_eq_false_iff_not, Bool.and_eq_true, Bool.and_eq_false_iff, Bool.or_eq_true, Bool.or_eq_false_iff, Bool.not_eq_true', Bool.not_eq_false', Bool.not_true, Bool.not_false, Bool.false_eq_true, Bool.true_eq_false, Int.not_lt, Int.not_le, ge_iff_le, gt_iff_lt, Bool.not_eq_eq_eq_not, Bool.true_or, Bool.or_true, Bool.false_or, Bool.or_false, Bool.true_and, Bool.and_true, false_or, or_false, true_and, and_true, Decidable.not_not] at hc; constructor <;> first | omega | (simp only [List.length_set, List.length_append, List.length_replicate, List.length_cons, List.length_nil, List.length_take, List.length_drop, List.length_map, List.length_singleton] at *; omega))) ?_) | (refine ld_tag (by first | exact ReadB.src (by assumption) hS.sub | exact Own.src (by assumption) hS) (by first | omega | (simp only [List.length_set, List.length_append, List.length_replicate, List.length_cons, List.length_nil, List.length_take, List.length_drop, List.length_map, List.length_singleton] at *; omega)) (by first | omega | (simp only [List.length_set, List.length_append, List.length_replicate, List.length_cons, List.length_nil, List.length_take, List.length_drop, List.length_map, List.length_singleton] at *; omega)) ?_; intro hlo hhi) | (refine ld_fields (by first | exact ReadB.src (by assumption) hS.sub | exact Own.src (by assumption) hS) (by first | omega | (simp only [List.length_set, List.length_append, List.length_replicate, List.length_cons, List.length_nil, List.length_take, List.length_drop, List.length_map, List.length_singleton] at *; omega)) (by first | omega | (simp only [List.length_set, List.length_append, List.length_replicate, List.length_cons, List.length_nil, List.length_take, List.length_drop, List.length_map, List.length_singleton] at *; omega)) ?_; intro f hf) | (refine ld_fieldsg (by first | exact ReadB.src (by assumption) hS.sub | exact Own.src (by assumption) hS) (by (intro hc; simp only [decide_eq_true_eq, decide_eq_false_iff_not, Bool.and_eq_true, Bool.and_eq_false_iff, Bool.or_eq_true, Bool.or_eq_false_iff, Bool.not_eq_true', Bool.not_eq_false', Bool.not_true, Bool.not_false, Bool.false_eq_true, Bool.true_eq_false, Int.not_lt, Int.not_le, ge_iff_le, gt_iff_lt, Bool.not_eq_eq_eq_not, Bool.true_or, Bool.or_true, Bool.false_or, Bool.or_false, Bool.true_and, Bool.and_true, false_or, or_false, true_and, and_true, Decidable.not_not] at hc; constructor <;> first | omega | (simp only [List.length_set, List.length_append, List.length_replicate, List.length_cons, List.length_nil, List.length_take, List.length_drop, List.length_map, List.length_singleton] at *; omega))) ?_; intro f hf) | (refine ld_int (by first | exact ReadB.mono (by assumption) hS.sub | exact Own.read (by assumption) hS | assumption) (by first | omega | (simp only [List.length_set, List.length_append, List.length_replicate, List.length_cons, List.length_nil, List.length_take, List.length_drop, List.length_map, List.length_singleton] at *; omega)) (by first | omega | (simp only [List.length_set, List.length_append, List.length_replicate, List.length_cons, List.length_nil, List.length_take, List.length_drop, List.length_map, List.length_singleton] at *; omega)) ?_; intro hlo hhi) | (refine ld_bool (by first | exact ReadB.mono (by assumption) hS.sub | exact Own.read (by assumption) hS | assumption) (by first | omega | (simp only [List.length_set, List.length_append, List.length_replicate, List.length_cons, List.length_nil, List.length_take, List.length_drop, List.length_map, List.length_singleton] at *; omega)) (by first | omega | (simp only [List.length_set, List.length_append, List.length_replicate, List.length_cons, List.length_nil, List.length_take, List.length_drop, List.length_map, List.length_singleton] at *; omega)) ?_) | (refine ld_byte (by first | exact ReadB.mono (by assumption) hS.sub | exact Own.read (by assumption) hS | assumption) (by first | omega | (simp only [List.length_set, List.length_append, List.length_replicate, List.length_cons, List.length_nil, List.length_take, List.length_drop, List.length_map, List.length_singleton] at *; omega)) (by first | omega | (simp only [List.length_set, List.length_append, List.length_replicate, List.length_cons, List.length_nil, List.length_take, List.length_drop, List.length_map, List.length_singleton] at *; omega)) ?_; intro hlo hhi) | (refine ld_intg (by first | exact ReadB.mono (by assumption) hS.sub | exact Own.read (by assumption) hS | assumption) (by (intro hc; simp only [decide_eq_true_eq, decide_eq_false_iff_not, Bool.and_eq_true, Bool.and_eq_false_iff, Bool.or_eq_true, Bool.or_eq_false_iff, Bool.not_eq_true', Bool.not_eq_false', Bool.not_true, Bool.not_false, Bool.false_eq_true, Bool.true_eq_false, Int.not_lt, Int.not_le, ge_iff_le, gt_iff_lt, Bool.not_eq_eq_eq_not, Bool.true_or, Bool.or_true, Bool.false_or, Bool.or_false, Bool.true_and, Bool.and_true, false_or, or_false, true_and, and_true, Decidable.not_not] at hc; constructor <;> first | omega | (simp only [List.length_set, List.length_append, List.length_replicate, List.length_cons, List.length_nil, List.length_take, List.length_drop, List.length_map, List.length_singleton] at *; omega))) ?_) | (refine ld_boolg (by first | exact ReadB.mono (by assumption) hS.sub | exact Own.read (by assumption) hS | assumption) (by (intro hc; simp only [decide_eq_true_eq, decide_eq_false_iff_not, Bool.and_eq_true, Bool.and_eq_false_iff, Bool.or_eq_true, Bool.or_eq_false_iff, Bool.not_eq_true', Bool.not_eq_false', Bool.not_true, Bool.not_false, Bool.false_eq_true, Bool.true_eq_false, Int.not_lt, Int.not_le, ge_iff_le, gt_iff_lt, Bool.not_eq_eq_eq_not, Bool.true_or, Bool.or_true, Bool.false_or, Bool.or_false, Bool.true_and, Bool.and_true, false_or, or_false, true_and, and_true, Decidable.not_not] at hc; constructor <;> first | omega | (simp only [List.length_set, List.length_append, List.length_replicate, List.length_cons, List.length_nil, List.length_take, List.length_drop, List.length_map, List.length_singleton] at *; omega))) ?_) | (refine ⟨_, Cel.load (by assumption) hS rfl, ?_⟩) | (refine ⟨_, fun _ => Cel.load (by assumption) hS rfl, ?_⟩) | (refine go_max ?_) | (refine go_nil ?_) | (refine Cel.store (by assumption) hS (by simp) ?_; intro w1 I1 hC hS; simp [putR] at hC) | (refine st_int (by assumption) hS (by first | omega | (simp only [List.length_set, List.length_append, List.length_replicate, List.length_cons, List.length_nil, List.length_take, List.length_drop, List.length_map, List.length_singleton] at *; omega)) (by first | omega | (simp only [List.length_set, List.length_append, List.length_replicate, List.length_cons, List.length_nil, List.length_take, List.length_drop, List.length_map, List.length_singleton] at *; omega)) (by first | assumption | (constructor <;> first | omega | (simp only [List.length_set, List.length_append, List.length_replicate, List.length_cons, List.length_nil, List.length_take, List.length_drop, List.length_map, List.length_singleton] at *; omega))) ?_; intro w1 I1 hO hS) | (refine st_bool (by assumption) hS (by first | omega | (simp only [List.length_set, List.length_append, List.length_replicate, List.length_cons, List.length_nil, List.length_take, List.length_drop, List.length_map, List.length_singleton] at *; omega)) (by first | omega | (simp only [List.length_set, List.length_append, List.length_replicate, List.length_cons, List.length_nil, List.length_take, List.length_drop, List.length_map, List.length_singleton] at *; omega)) ?_; intro w1 I1 hO hS) | (with_reducible refine And.intro rfl ?_) | (with_reducible refine And.intro (by omega) ?_) | (with_reducible refine And.intro ?_ ?_) | (with_reducible rfl) | assumption | omega | exact hS.sub
  · exact val_true (hc ▸ nth_mem h0 (by omega))
  · rw [take_nth h0 (by omega)]; simp only [List.mem_append, List.mem_singleton, not_or]; exact ⟨h2, fun e => hc e.symm⟩
  · rw [take_all (by omega)] at h2; exact val_false h2

theorem c_equalInts (hx : Read v x l) (hy : Read v y m) : Fn Try.prog 40 #[x.val, y.val] v (.bool (decide (l = m))) := by
  refine of40 _ _ _ _ ?_
  unfold vc40
  have hn := hx.n
  have hm := hy.n
  have hl := hx.le
  have hS := St.refl v
  repeat' first | (intro hc; simp only [decide_eq_true_eq, decide_eq_false_iff_not, Bool.and_eq_true, Bool.and_eq_false_iff, Bool.or_eq_true, Bool.or_eq_false_iff, Bool.not_eq_true', Bool.not_eq_false', Bool.not_true, Bool.not_false, Bool.false_eq_true, Bool.true_eq_false, Int.not_lt, Int.not_le, ge_iff_le, gt_iff_lt, Bool.not_eq_eq_eq_not, Bool.true_or, Bool.or_true, Bool.false_or, Bool.or_false, Bool.true_and, Bool.and_true, false_or, or_false, true_and, and_true, Decidable.not_not] at hc) | (refine go_wr (by first | omega | (simp only [List.length_set, List.length_append, List.length_replicate, List.length_cons, List.length_nil, List.length_take, List.length_drop, List.length_map, List.length_singleton] at *; omega)) (by first | omega | (simp only [List.length_set, List.length_append, List.length_replicate, List.length_cons, List.length_nil, List.length_take, List.length_drop, List.length_map, List.length_singleton] at *; omega)) ?_) | (refine go_wrg (by (intro hc; simp only [decide_eq_true_eq, decide_eq_false_iff_not, Bool.and_eq_true, Bool.and_eq_false_iff, Bool.or_eq_true, Bool.or_eq_false_iff, Bool.not_eq_true', Bool.not_eq_false', Bool.not_true, Bool.not_false, Bool.false_eq_true, Bool.true_eq_false, Int.not_lt, Int.not_le, ge_iff_le, gt_iff_lt, Bool.not_eq_eq_eq_not, Bool.true_or, Bool.or_true, Bool.false_or, Bool.or_false, Bool.true_and, Bool.and_true, false_or, or_false, true_and, and_true, Decidable.not_not] at hc; constructor <;> first | omega | (simp only [List.length_set, List.length_append, List.length_replicate, List.length_cons, List.length_nil, List.length_take, List.length_drop, List.length_map, List.length_singleton] at *; omega))) ?_) | (refine go_ix (by assumption) (by first | omega | (simp only [List.length_set, List.length_append, List.length_replicate, List.length_cons, List.length_nil, List.length_take, List.length_drop, List.length_map, List.length_singleton] at *; omega)) (by first | omega | (simp only [List.length_set, List.length_append, List.length_replicate, List.length_cons, List.length_nil, List.length_take, List.length_drop, List.length_map, List.length_singleton] at *; omega)) ?_) | (refine go_oix (by assumption) (by first | omega | (simp only [List.length_set, List.length_append, List.length_replicate, List.length_cons, List.length_nil, List.length_take, List.length_drop, List.length_map, List.length_singleton] at *; omega)) (by first | omega | (simp only [List.length_set, List.length_append, List.length_replicate, List.length_cons, List.length_nil, List.length_take, List.length_drop, List.length_map, List.length_singleton] at *; omega)) ?_) | (refine go_ixg (by assumption) (by (intro hc; simp only [decide_eq_true_eq, decide_eq_false_iff_not, Bool.and_eq_true, Bool.and_eq_false_iff, Bool.or_eq_true, Bool.or_eq_false_iff, Bool.not_eq_true', Bool.not_eq_false', Bool.not_true, Bool.not_false, Bool.false_eq_true, Bool.true_eq_false, Int.not_lt, Int.not_le, ge_iff_le, gt_iff_lt, Bool.not_eq_eq_eq_not, Bool.true_or, Bool.or_true, Bool.false_or, Bool.or_false, Bool.true_and, Bool.and_true, false_or, or_false, true_and, and_true, Decidable.not_not] at hc; constructor <;> first | omega | (simp only [List.length_set, List.length_append, List.length_replicate, List.length_cons, List.length_nil, List.length_take, List.length_drop, List.length_map, List.length_singleton] at *; omega))) ?_) | (refine go_oixg (by assumption) (by (intro hc; simp only [decide_eq_true_eq, decide_eq_false_iff_not, Bool.and_eq_true, Bool.and_eq_false_iff, Bool.or_eq_true, Bool.or_eq_false_iff, Bool.not_eq_true', Bool.not_eq_false', Bool.not_true, Bool.not_false, Bool.false_eq_true, Bool.true_eq_false, Int.not_lt, Int.not_le, ge_iff_le, gt_iff_lt, Bool.not_eq_eq_eq_not, Bool.true_or, Bool.or_true, Bool.false_or, Bool.or_false, Bool.true_and, Bool.and_true, false_or, or_false, true_and, and_true, Decidable.not_not] at hc; constructor <;> first | omega | (simp only [List.length_set, List.length_append, List.length_replicate, List.length_cons, List.length_nil, List.length_take, List.length_drop, List.length_map, List.length_singleton] at *; omega))) ?_) | (refine ld_cell (by first | exact ReadB.src (by assumption) hS.sub | exact Own.src (by assumption) hS) (by first | omega | (simp only [List.length_set, List.length_append, List.length_replicate, List.length_cons, List.length_nil, List.length_take, List.length_drop, List.length_map, List.length_singleton] at *; omega)) (by first | omega | (simp only [List.length_set, List.length_append, List.length_replicate, List.length_cons, List.length_nil, List.length_take, List.length_drop, List.length_map, List.length_singleton] at *; omega)) ?_; intro f hf hcI htI) | (refine ld_count (by first | exact ReadB.src (by assumption) hS.sub | exact Own.src (by assumption) hS) (by first | omega | (simp only [List.length_set, List.length_append, List.length_replicate, List.length_cons, List.length_nil, List.length_take, List.length_drop, List.length_map, List.length_singleton] at *; omega)) (by first | omega | (simp only [List.length_set, List.length_append, List.length_replicate, List.length_cons, List.length_nil, List.length_take, List.length_drop, List.length_map, List.length_singleton] at *; omega)) ?_; intro hlo hhi) | (refine ld_countg (by first | exact ReadB.src (by assumption) hS.sub | exact Own.src (by assumption) hS) (by (intro hc; simp only [decide_eq_true_eq, decide_eq_false_iff_not, Bool.and_eq_true, Bool.and_eq_false_iff, Bool.or_eq_true, Bool.or_eq_false_iff, Bool.not_eq_true', Bool.not_eq_false', Bool.not_true, Bool.not_false, Bool.false_eq_true, Bool.true_eq_false, Int.not_lt, Int.not_le, ge_iff_le, gt_iff_lt, Bool.not_eq_eq_eq_not, Bool.true_or, Bool.or_true, Bool.false_or, Bool.or_false, Bool.true_and, Bool.and_true, false_or, or_false, true_and, and_true, Decidable.not_not] at hc; constructor <;> first | omega | (simp only [List.length_set, List.length_append, List.length_replicate, List.length_cons, List.length_nil, List.length_take, List.length_drop, List.length_map, List.length_singleton] at *; omega))) ?_) | (refine ld_tag (by first | exact ReadB.src (by assumption) hS.sub | exact Own.src (by assumption) hS) (by first | omega | (simp only [List.length_set, List.length_append, List.length_replicate, List.length_cons, List.length_nil, List.length_take, List.length_drop, List.length_map, List.length_singleton] at *; omega)) (by first | omega | (simp only [List.length_set, List.length_append, List.length_replicate, List.length_cons, List.length_nil, List.length_take, List.length_drop, List.length_map, List.length_singleton] at *; omega)) ?_; intro hlo hhi) | (refine ld_fields (by first | exact ReadB.src (by assumption) hS.sub | exact Own.src (by assumption) hS) (by first | omega | (simp only [List.length_set, List.length_append, List.length_replicate, List.length_cons, List.length_nil, List.length_take, List.length_drop, List.length_map, List.length_singleton] at *; omega)) (by first | omega | (simp only [List.length_set, List.length_append, List.length_replicate, List.length_cons, List.length_nil, List.length_take, List.length_drop, List.length_map, List.length_singleton] at *; omega)) ?_; intro f hf) | (refine ld_fieldsg (by first | exact ReadB.src (by assumption) hS.sub | exact Own.src (by assumption) hS) (by (intro hc; simp only [decide_eq_true_eq, decide_eq_false_iff_not, Bool.and_eq_true, Bool.and_eq_false_iff, Bool.or_eq_true, Bool.or_eq_false_iff, Bool.not_eq_true', Bool.not_eq_false', Bool.not_true, Bool.not_false, Bool.false_eq_true, Bool.true_eq_false, Int.not_lt, Int.not_le, ge_iff_le, gt_iff_lt, Bool.not_eq_eq_eq_not, Bool.true_or, Bool.or_true, Bool.false_or, Bool.or_false, Bool.true_and, Bool.and_true, false_or, or_false, true_and, and_true, Decidable.not_not] at hc; constructor <;> first | omega | (simp only [List.length_set, List.length_append, List.length_replicate, List.length_cons, List.length_nil, List.length_take, List.length_drop, List.length_map, List.length_singleton] at *; omega))) ?_; intro f hf) | (refine ld_int (by first | exact ReadB.mono (by assumption) hS.sub | exact Own.read (by assumption) hS | assumption) (by first | omega | (simp only [List.length_set, List.length_append, List.length_replicate, List.length_cons, List.length_nil, List.length_take, List.length_drop, List.length_map, List.length_singleton] at *; omega)) (by first | omega | (simp only [List.length_set, List.length_append, List.length_replicate, List.length_cons, List.length_nil, List.length_take, List.length_drop, List.length_map, List.length_singleton] at *; omega)) ?_; intro hlo hhi) | (refine ld_bool (by first | exact ReadB.mono (by assumption) hS.sub | exact Own.read (by assumption) hS | assumption) (by first | omega | (simp only [List.length_set, List.length_append, List.length_replicate, List.length_cons, List.length_nil, List.length_take, List.length_drop, List.length_map, List.length_singleton] at *; omega)) (by first | omega | (simp only [List.length_set, List.length_append, List.length_replicate, List.length_cons, List.length_nil, List.length_take, List.length_drop, List.length_map, List.length_singleton] at *; omega)) ?_) | (refine ld_byte (by first | exact ReadB.mono (by assumption) hS.sub | exact Own.read (by assumption) hS | assumption) (by first | omega | (simp only [List.length_set, List.length_append, List.length_replicate, List.length_cons, List.length_nil, List.length_take, List.length_drop, List.length_map, List.length_singleton] at *; omega)) (by first | omega | (simp only [List.length_set, List.length_append, List.length_replicate, List.length_cons, List.length_nil, List.length_take, List.length_drop, List.length_map, List.length_singleton] at *; omega)) ?_; intro hlo hhi) | (refine ld_intg (by first | exact ReadB.mono (by assumption) hS.sub | exact Own.read (by assumption) hS | assumption) (by (intro hc; simp only [decide_eq_true_eq, decide_eq_false_iff_not, Bool.and_eq_true, Bool.and_eq_false_iff, Bool.or_eq_true, Bool.or_eq_false_iff, Bool.not_eq_true', Bool.not_eq_false', Bool.not_true, Bool.not_false, Bool.false_eq_true, Bool.true_eq_false, Int.not_lt, Int.not_le, ge_iff_le, gt_iff_lt, Bool.not_eq_eq_eq_not, Bool.true_or, Bool.or_true, Bool.false_or, Bool.or_false, Bool.true_and, Bool.and_true, false_or, or_false, true_and, and_true, Decidable.not_not] at hc; constructor <;> first | omega | (simp only [List.length_set, List.length_append, List.length_replicate, List.length_cons, List.length_nil, List.length_take, List.length_drop, List.length_map, List.length_singleton] at *; omega))) ?_) | (refine ld_boolg (by first | exact ReadB.mono (by assumption) hS.sub | exact Own.read (by assumption) hS | assumption) (by (intro hc; simp only [decide_eq_true_eq, decide_eq_false_iff_not, Bool.and_eq_true, Bool.and_eq_false_iff, Bool.or_eq_true, Bool.or_eq_false_iff, Bool.not_eq_true', Bool.not_eq_false', Bool.not_true, Bool.not_false, Bool.false_eq_true, Bool.true_eq_false, Int.not_lt, Int.not_le, ge_iff_le, gt_iff_lt, Bool.not_eq_eq_eq_not, Bool.true_or, Bool.or_true, Bool.false_or, Bool.or_false, Bool.true_and, Bool.and_true, false_or, or_false, true_and, and_true, Decidable.not_not] at hc; constructor <;> first | omega | (simp only [List.length_set, List.length_append, List.length_replicate, List.length_cons, List.length_nil, List.length_take, List.length_drop, List.length_map, List.length_singleton] at *; omega))) ?_) | (refine ⟨_, Cel.load (by assumption) hS rfl, ?_⟩) | (refine ⟨_, fun _ => Cel.load (by assumption) hS rfl, ?_⟩) | (refine go_max ?_) | (refine go_nil ?_) | (refine Cel.store (by assumption) hS (by simp) ?_; intro w1 I1 hC hS; simp [putR] at hC) | (refine st_int (by assumption) hS (by first | omega | (simp only [List.length_set, List.length_append, List.length_replicate, List.length_cons, List.length_nil, List.length_take, List.length_drop, List.length_map, List.length_singleton] at *; omega)) (by first | omega | (simp only [List.length_set, List.length_append, List.length_replicate, List.length_cons, List.length_nil, List.length_take, List.length_drop, List.length_map, List.length_singleton] at *; omega)) (by first | assumption | (constructor <;> first | omega | (simp only [List.length_set, List.length_append, List.length_replicate, List.length_cons, List.length_nil, List.length_take, List.length_drop, List.length_map, List.length_singleton] at *; omega))) ?_; intro w1 I1 hO hS) | (refine st_bool (by assumption) hS (by first | omega | (simp only [List.length_set, List.length_append, List.length_replicate, List.length_cons, List.length_nil, List.length_take, List.length_drop, List.length_map, List.length_singleton] at *; omega)) (by first | omega | (simp only [List.length_set, List.length_append, List.length_replicate, List.length_cons, List.length_nil, List.length_take, List.length_drop, List.length_map, List.length_singleton] at *; omega)) ?_; intro w1 I1 hO hS) | (with_reducible refine And.intro rfl ?_) | (with_reducible refine And.intro (by omega) ?_) | (with_reducible refine And.intro ?_ ?_) | (with_reducible rfl) | assumption | omega | exact hS.sub
  · exact val_false fun e => hc (by rw [hn, hm, e])
  have hlm : l.length = m.length := by omega
  refine ⟨fun i w => St v w [] ∧ 0 ≤ i ∧ i ≤ l.length ∧ l.take i.toNat = m.take i.toNat, fun i _ => (l.length - i).toNat, ⟨.refl v, by omega, by omega, by simp⟩, ?_⟩
  rintro i w ⟨hS, h0, h1, h2⟩
  dsimp only
  repeat' first | (intro hc; simp only [decide_eq_true_eq, decide_eq_false_iff_not, Bool.and_eq_true, Bool.and_eq_false_iff, Bool.or_eq_true, Bool.or_eq_false_iff, Bool.not_eq_true', Bool.not_eq_false', Bool.not_true, Bool.not_false, Bool.false_eq_true, Bool.true_eq_false, Int.not_lt, Int.not_le, ge_iff_le, gt_iff_lt, Bool.not_eq_eq_eq_not, Bool.true_or, Bool.or_true, Bool.false_or, Bool.or_false, Bool.true_and, Bool.and_true, false_or, or_false, true_and, and_true, Decidable.not_not] at hc) | (refine go_wr (by first | omega | (simp only [List.length_set, List.length_append, List.length_replicate, List.length_cons, List.length_nil, List.length_take, List.length_drop, List.length_map, List.length_singleton] at *; omega)) (by first | omega | (simp only [List.length_set, List.length_append, List.length_replicate, List.length_cons, List.length_nil, List.length_take, List.length_drop, List.length_map, List.length_singleton] at *; omega)) ?_) | (refine go_wrg (by (intro hc; simp only [decide_eq_true_eq, decide_eq_false_iff_not, Bool.and_eq_true, Bool.and_eq_false_iff, Bool.or_eq_true, Bool.or_eq_false_iff, Bool.not_eq_true', Bool.not_eq_false', Bool.not_true, Bool.not_false, Bool.false_eq_true, Bool.true_eq_false, Int.not_lt, Int.not_le, ge_iff_le, gt_iff_lt, Bool.not_eq_eq_eq_not, Bool.true_or, Bool.or_true, Bool.false_or, Bool.or_false, Bool.true_and, Bool.and_true, false_or, or_false, true_and, and_true, Decidable.not_not] at hc; constructor <;> first | omega | (simp only [List.length_set, List.length_append, List.length_replicate, List.length_cons, List.length_nil, List.length_take, List.length_drop, List.length_map, List.length_singleton] at *; omega))) ?_) | (refine go_ix (by assumption) (by first | omega | (simp only [List.length_set, List.length_append, List.length_replicate, List.length_cons, List.length_nil, List.length_take, List.length_drop, List.length_map, List.length_singleton] at *; omega)) (by first | omega | (simp only [List.length_set, List.length_append, List.length_replicate, List.length_cons, List.length_nil, List.length_take, List.length_drop, List.length_map, List.length_singleton] at *; omega)) ?_) | (refine go_oix (by assumption) (by first | omega | (simp only [List.length_set, List.length_append, List.length_replicate, List.length_cons, List.length_nil, List.length_take, List.length_drop, List.length_map, List.length_singleton] at *; omega)) (by first | omega | (simp only [List.length_set, List.length_append, List.length_replicate, List.length_cons, List.length_nil, List.length_take, List.length_drop, List.length_map, List.length_singleton] at *; omega)) ?_) | (refine go_ixg (by assumption) (by (intro hc; simp only [decide_eq_true_eq, decide_eq_false_iff_not, Bool.and_eq_true, Bool.and_eq_false_iff, Bool.or_eq_true, Bool.or_eq_false_iff, Bool.not_eq_true', Bool.not_eq_false', Bool.not_true, Bool.not_false, Bool.false_eq_true, Bool.true_eq_false, Int.not_lt, Int.not_le, ge_iff_le, gt_iff_lt, Bool.not_eq_eq_eq_not, Bool.true_or, Bool.or_true, Bool.false_or, Bool.or_false, Bool.true_and, Bool.and_true, false_or, or_false, true_and, and_true, Decidable.not_not] at hc; constructor <;> first | omega | (simp only [List.length_set, List.length_append, List.length_replicate, List.length_cons, List.length_nil, List.length_take, List.length_drop, List.length_map, List.length_singleton] at *; omega))) ?_) | (refine go_oixg (by assumption) (by (intro hc; simp only [decide_eq_true_eq, decide_eq_false_iff_not, Bool.and_eq_true, Bool.and_eq_false_iff, Bool.or_eq_true, Bool.or_eq_false_iff, Bool.not_eq_true', Bool.not_eq_false', Bool.not_true, Bool.not_false, Bool.false_eq_true, Bool.true_eq_false, Int.not_lt, Int.not_le, ge_iff_le, gt_iff_lt, Bool.not_eq_eq_eq_not, Bool.true_or, Bool.or_true, Bool.false_or, Bool.or_false, Bool.true_and, Bool.and_true, false_or, or_false, true_and, and_true, Decidable.not_not] at hc; constructor <;> first | omega | (simp only [List.length_set, List.length_append, List.length_replicate, List.length_cons, List.length_nil, List.length_take, List.length_drop, List.length_map, List.length_singleton] at *; omega))) ?_) | (refine ld_cell (by first | exact ReadB.src (by assumption) hS.sub | exact Own.src (by assumption) hS) (by first | omega | (simp only [List.length_set, List.length_append, List.length_replicate, List.length_cons, List.length_nil, List.length_take, List.length_drop, List.length_map, List.length_singleton] at *; omega)) (by first | omega | (simp only [List.length_set, List.length_append, List.length_replicate, List.length_cons, List.length_nil, List.length_take, List.length_drop, List.length_map, List.length_singleton] at *; omega)) ?_; intro f hf hcI htI) | (refine ld_count (by first | exact ReadB.src (by assumption) hS.sub | exact Own.src (by assumption) hS) (by first | omega | (simp only [List.length_set, List.length_append, List.length_replicate, List.length_cons, List.length_nil, List.length_take, List.length_drop, List.length_map, List.length_singleton] at *; omega)) (by first | omega | (simp only [List.length_set, List.length_append, List.length_replicate, List.length_cons, List.length_nil, List.length_take, List.length_drop, List.length_map, List.length_singleton] at *; omega)) ?_; intro hlo hhi) | (refine ld_countg (by first | exact ReadB.src (by assumption) hS.sub | exact Own.src (by assumption) hS) (by (intro hc; simp only [decide_eq_true_eq, decide_eq_false_iff_not, Bool.and_eq_true, Bool.and_eq_false_iff, Bool.or_eq_true, Bool.or_eq_false_iff, Bool.not_eq_true', Bool.not_eq_false', Bool.not_true, Bool.not_false, Bool.false_eq_true, Bool.true_eq_false, Int.not_lt, Int.not_le, ge_iff_le, gt_iff_lt, Bool.not_eq_eq_eq_not, Bool.true_or, Bool.or_true, Bool.false_or, Bool.or_false, Bool.true_and, Bool.and_true, false_or, or_false, true_and, and_true, Decidable.not_not] at hc; constructor <;> first | omega | (simp only [List.length_set, List.length_append, List.length_replicate, List.length_cons, List.length_nil, List.length_take, List.length_drop, List.length_map, List.length_singleton] at *; omega))) ?_) | (refine ld_tag (by first | exact ReadB.src (by assumption) hS.sub | exact Own.src (by assumption) hS) (by first | omega | (simp only [List.length_set, List.length_append, List.length_replicate, List.length_cons, List.length_nil, List.length_take, List.length_drop, List.length_map, List.length_singleton] at *; omega)) (by first | omega | (simp only [List.length_set, List.length_append, List.length_replicate, List.length_cons, List.length_nil, List.length_take, List.length_drop, List.length_map, List.length_singleton] at *; omega)) ?_; intro hlo hhi) | (refine ld_fields (by first | exact ReadB.src (by assumption) hS.sub | exact Own.src (by assumption) hS) (by first | omega | (simp only [List.length_set, List.length_append, List.length_replicate, List.length_cons, List.length_nil, List.length_take, List.length_drop, List.length_map, List.length_singleton] at *; omega)) (by first | omega | (simp only [List.length_set, List.length_append, List.length_replicate, List.length_cons, List.length_nil, List.length_take, List.length_drop, List.length_map, List.length_singleton] at *; omega)) ?_; intro f hf) | (refine ld_fieldsg (by first | exact ReadB.src (by assumption) hS.sub | exact Own.src (by assumption) hS) (by (intro hc; simp only [decide_eq_true_eq, decide_eq_false_iff_not, Bool.and_eq_true, Bool.and_eq_false_iff, Bool.or_eq_true, Bool.or_eq_false_iff, Bool.not_eq_true', Bool.not_eq_false', Bool.not_true, Bool.not_false, Bool.false_eq_true, Bool.true_eq_false, Int.not_lt, Int.not_le, ge_iff_le, gt_iff_lt, Bool.not_eq_eq_eq_not, Bool.true_or, Bool.or_true, Bool.false_or, Bool.or_false, Bool.true_and, Bool.and_true, false_or, or_false, true_and, and_true, Decidable.not_not] at hc; constructor <;> first | omega | (simp only [List.length_set, List.length_append, List.length_replicate, List.length_cons, List.length_nil, List.length_take, List.length_drop, List.length_map, List.length_singleton] at *; omega))) ?_; intro f hf) | (refine ld_int (by first | exact ReadB.mono (by assumption) hS.sub | exact Own.read (by assumption) hS | assumption) (by first | omega | (simp only [List.length_set, List.length_append, List.length_replicate, List.length_cons, List.length_nil, List.length_take, List.length_drop, List.length_map, List.length_singleton] at *; omega)) (by first | omega | (simp only [List.length_set, List.length_append, List.length_replicate, List.length_cons, List.length_nil, List.length_take, List.length_drop, List.length_map, List.length_singleton] at *; omega)) ?_; intro hlo hhi) | (refine ld_bool (by first | exact ReadB.mono (by assumption) hS.sub | exact Own.read (by assumption) hS | assumption) (by first | omega | (simp only [List.length_set, List.length_append, List.length_replicate, List.length_cons, List.length_nil, List.length_take, List.length_drop, List.length_map, List.length_singleton] at *; omega)) (by first | omega | (simp only [List.length_set, List.length_append, List.length_replicate, List.length_cons, List.length_nil, List.length_take, List.length_drop, List.length_map, List.length_singleton] at *; omega)) ?_) | (refine ld_byte (by first | exact ReadB.mono (by assumption) hS.sub | exact Own.read (by assumption) hS | assumption) (by first | omega | (simp only [List.length_set, List.length_append, List.length_replicate, List.length_cons, List.length_nil, List.length_take, List.length_drop, List.length_map, List.length_singleton] at *; omega)) (by first | omega | (simp only [List.length_set, List.length_append, List.length_replicate, List.length_cons, List.length_nil, List.length_take, List.length_drop, List.length_map, List.length_singleton] at *; omega)) ?_; intro hlo hhi) | (refine ld_intg (by first | exact ReadB.mono (by assumption) hS.sub | exact Own.read (by assumption) hS | assumption) (by (intro hc; simp only [decide_eq_true_eq, decide_eq_false_iff_not, Bool.and_eq_true, Bool.and_eq_false_iff, Bool.or_eq_true, Bool.or_eq_false_iff, Bool.not_eq_true', Bool.not_eq_false', Bool.not_true, Bool.not_false, Bool.false_eq_true, Bool.true_eq_false, Int.not_lt, Int.not_le, ge_iff_le, gt_iff_lt, Bool.not_eq_eq_eq_not, Bool.true_or, Bool.or_true, Bool.false_or, Bool.or_false, Bool.true_and, Bool.and_true, false_or, or_false, true_and, and_true, Decidable.not_not] at hc; constructor <;> first | omega | (simp only [List.length_set, List.length_append, List.length_replicate, List.length_cons, List.length_nil, List.length_take, List.length_drop, List.length_map, List.length_singleton] at *; omega))) ?_) | (refine ld_boolg (by first | exact ReadB.mono (by assumption) hS.sub | exact Own.read (by assumption) hS | assumption) (by (intro hc; simp only [decide_eq_true_eq, decide_eq_false_iff_not, Bool.and_eq_true, Bool.and_eq_false_iff, Bool.or_eq_true, Bool.or_eq_false_iff, Bool.not_eq_true', Bool.not_eq_false', Bool.not_true, Bool.not_false, Bool.false_eq_true, Bool.true_eq_false, Int.not_lt, Int.not_le, ge_iff_le, gt_iff_lt, Bool.not_eq_eq_eq_not, Bool.true_or, Bool.or_true, Bool.false_or, Bool.or_false, Bool.true_and, Bool.and_true, false_or, or_false, true_and, and_true, Decidable.not_not] at hc; constructor <;> first | omega | (simp only [List.length_set, List.length_append, List.length_replicate, List.length_cons, List.length_nil, List.length_take, List.length_drop, List.length_map, List.length_singleton] at *; omega))) ?_) | (refine ⟨_, Cel.load (by assumption) hS rfl, ?_⟩) | (refine ⟨_, fun _ => Cel.load (by assumption) hS rfl, ?_⟩) | (refine go_max ?_) | (refine go_nil ?_) | (refine Cel.store (by assumption) hS (by simp) ?_; intro w1 I1 hC hS; simp [putR] at hC) | (refine st_int (by assumption) hS (by first | omega | (simp only [List.length_set, List.length_append, List.length_replicate, List.length_cons, List.length_nil, List.length_take, List.length_drop, List.length_map, List.length_singleton] at *; omega)) (by first | omega | (simp only [List.length_set, List.length_append, List.length_replicate, List.length_cons, List.length_nil, List.length_take, List.length_drop, List.length_map, List.length_singleton] at *; omega)) (by first | assumption | (constructor <;> first | omega | (simp only [List.length_set, List.length_append, List.length_replicate, List.length_cons, List.length_nil, List.length_take, List.length_drop, List.length_map, List.length_singleton] at *; omega))) ?_; intro w1 I1 hO hS) | (refine st_bool (by assumption) hS (by first | omega | (simp only [List.length_set, List.length_append, List.length_replicate, List.length_cons, List.length_nil, List.length_take, List.length_drop, List.length_map, List.length_singleton] at *; omega)) (by first | omega | (simp only [List.length_set, List.length_append, List.length_replicate, List.length_cons, List.length_nil, List.length_take, List.length_drop, List.length_map, List.length_singleton] at *; omega)) ?_; intro w1 I1 hO hS) | (with_reducible refine And.intro rfl ?_) | (with_reducible refine And.intro (by omega) ?_) | (with_reducible refine And.intro ?_ ?_) | (with_reducible rfl) | assumption | omega | exact hS.sub
  · exact val_false fun e => hc (by rw [e])
  · rw [take_nth h0 (by omega), take_nth h0 (by omega), h2, hc]
  · rw [take_all (by omega), take_all (by omega)] at h2; exact val_true h2

theorem c_copyInts (hx : Read v x l) : Mk Try.prog 73 #[x.val] v fun r J => ∃ y, r = y.val ∧ Own v y l J := by
  refine of73 _ _ _ ?_
  unfold vc73
  have hS := St.refl v
  have hl := hx.le
  refine St.build (α := Int) hS (by (repeat' (first | exact VsOf.nil | apply VsOf.cons | (apply VOf.int; first | assumption | (constructor <;> first | omega | (simp only [List.length_set, List.length_append, List.length_replicate, List.length_cons, List.length_nil, List.length_take, List.length_drop, List.length_map, List.length_singleton] at *; omega))) | exact VOf.bool | exact VOf.str))) rfl (by decide) ?_
  intro x1 w1 I1 hO hS hs
  refine ⟨_, rfl, ?_⟩
  refine Own.append hO hS (hx.src hS.sub) (by simp; omega) (by decide) ?_
  intro x2 w2 I2 hO hS
  exact ⟨_, rfl, I2, by simpa using hS, _, rfl, by simpa using hO⟩

theorem c_cloneInts (hx : Read v x l) : Mk Try.prog 64 #[x.val] v fun r J => ∃ y, r = y.val ∧ Own v y l J := by
  refine of64 _ _ _ ?_
  unfold vc64
  have hS := St.refl v
  have hl := hx.le
  refine go_nil ⟨fun hc => ?_, fun _ => ?_⟩
  · have := hx.nil_of (Option.isNone_iff_eq_none.1 hc)
    subst this
    exact ⟨[], hS, _, rfl, Own.nil v⟩
  refine St.build (α := Int) hS (by (repeat' (first | exact VsOf.nil | apply VsOf.cons | (apply VOf.int; first | assumption | (constructor <;> first | omega | (simp only [List.length_set, List.length_append, List.length_replicate, List.length_cons, List.length_nil, List.length_take, List.length_drop, List.length_map, List.length_singleton] at *; omega))) | exact VOf.bool | exact VOf.str))) rfl (by decide) ?_
  intro x1 w1 I1 hO hS hs
  refine ⟨_, rfl, ?_⟩
  refine Own.append hO hS (hx.src hS.sub) (by simp; omega) (by decide) ?_
  intro x2 w2 I2 hO hS
  exact ⟨_, rfl, I2, by simpa using hS, _, rfl, by simpa using hO⟩

theorem c_inRange {a b : Int} : Fn Try.prog 35 #[.int .i64 n, .int .i64 a, .int .i64 b] v (.bool (decide (a ≤ n) && decide (n ≤ b))) := by
  refine of35 _ _ _ _ _ ?_
  unfold vc35
  exact ⟨rfl, .refl v⟩
theorem c_isPointer : Fn Try.prog 46 #[.int .i64 n] v (.bool (decide (n ≥ 1000))) := by
  refine of46 _ _ _ ?_
  unfold vc46
  exact ⟨rfl, .refl v⟩
theorem c_isInt : Fn Try.prog 32 #[.int .i64 n] v (.bool (decide (n ≥ -999) && decide (n ≤ 999))) := by
  refine of32 _ _ _ ?_
  unfold vc32
  exact ⟨rfl, .refl v⟩
theorem c_allZero (hx : Read v x l) : Fn Try.prog 84 #[x.val] v (.bool (decide (∀ n ∈ l, n = 0))) := by
  refine of84 _ _ _ ?_
  unfold vc84
  have hn := hx.n
  have hl := hx.le
  refine ⟨fun i w => St v w [] ∧ 0 ≤ i ∧ i ≤ l.length ∧ ∀ n ∈ l.take i.toNat, n = 0, fun i _ => (l.length - i).toNat, ⟨.refl v, by omega, by omega, by simp⟩, ?_⟩
  rintro i w ⟨hS, h0, h1, h2⟩
  dsimp only
  repeat' first | (intro hc; simp only [decide_eq_true_eq, decide_eq_false_iff_not, Bool.and_eq_true, Bool.and_eq_false_iff, Bool.or_eq_true, Bool.or_eq_false_iff, Bool.not_eq_true', Bool.not_eq_false', Bool.not_true, Bool.not_false, Bool.false_eq_true, Bool.true_eq_false, Int.not_lt, Int.not_le, ge_iff_le, gt_iff_lt, Bool.not_eq_eq_eq_not, Bool.true_or, Bool.or_true, Bool.false_or, Bool.or_false, Bool.true_and, Bool.and_true, false_or, or_false, true_and, and_true, Decidable.not_not] at hc) | (refine go_wr (by first | omega | (simp only [List.length_set, List.length_append, List.length_replicate, List.length_cons, List.length_nil, List.length_take, List.length_drop, List.length_map, List.length_singleton] at *; omega)) (by first | omega | (simp only [List.length_set, List.length_append, List.length_replicate, List.length_cons, List.length_nil, List.length_take, List.length_drop, List.length_map, List.length_singleton] at *; omega)) ?_) | (refine go_wrg (by (intro hc; simp only [decide_eq_true_eq, decide_eq_false_iff_not, Bool.and_eq_true, Bool.and_eq_false_iff, Bool.or_eq_true, Bool.or_eq_false_iff, Bool.not_eq_true', Bool.not_eq_false', Bool.not_true, Bool.not_false, Bool.false_eq_true, Bool.true_eq_false, Int.not_lt, Int.not_le, ge_iff_le, gt_iff_lt, Bool.not_eq_eq_eq_not, Bool.true_or, Bool.or_true, Bool.false_or, Bool.or_false, Bool.true_and, Bool.and_true, false_or, or_false, true_and, and_true, Decidable.not_not] at hc; constructor <;> first | omega | (simp only [List.length_set, List.length_append, List.length_replicate, List.length_cons, List.length_nil, List.length_take, List.length_drop, List.length_map, List.length_singleton] at *; omega))) ?_) | (refine go_ix (by assumption) (by first | omega | (simp only [List.length_set, List.length_append, List.length_replicate, List.length_cons, List.length_nil, List.length_take, List.length_drop, List.length_map, List.length_singleton] at *; omega)) (by first | omega | (simp only [List.length_set, List.length_append, List.length_replicate, List.length_cons, List.length_nil, List.length_take, List.length_drop, List.length_map, List.length_singleton] at *; omega)) ?_) | (refine go_oix (by assumption) (by first | omega | (simp only [List.length_set, List.length_append, List.length_replicate, List.length_cons, List.length_nil, List.length_take, List.length_drop, List.length_map, List.length_singleton] at *; omega)) (by first | omega | (simp only [List.length_set, List.length_append, List.length_replicate, List.length_cons, List.length_nil, List.length_take, List.length_drop, List.length_map, List.length_singleton] at *; omega)) ?_) | (refine go_ixg (by assumption) (by (intro hc; simp only [decide_eq_true_eq, decide_eq_false_iff_not, Bool.and_eq_true, Bool.and_eq_false_iff, Bool.or_eq_true, Bool.or_eq_false_iff, Bool.not_eq_true', Bool.not_eq_false', Bool.not_true, Bool.not_false, Bool.false_eq_true, Bool.true_eq_false, Int.not_lt, Int.not_le, ge_iff_le, gt_iff_lt, Bool.not_eq_eq_eq_not, Bool.true_or, Bool.or_true, Bool.false_or, Bool.or_false, Bool.true_and, Bool.and_true, false_or, or_false, true_and, and_true, Decidable.not_not] at hc; constructor <;> first | omega | (simp only [List.length_set, List.length_append, List.length_replicate, List.length_cons, List.length_nil, List.length_take, List.length_drop, List.length_map, List.length_singleton] at *; omega))) ?_) | (refine go_oixg (by assumption) (by (intro hc; simp only [decide_eq_true_eq, decide_eq_false_iff_not, Bool.and_eq_true, Bool.and_eq_false_iff, Bool.or_eq_true, Bool.or_eq_false_iff, Bool.not_eq_true', Bool.not_eq_false', Bool.not_true, Bool.not_false, Bool.false_eq_true, Bool.true_eq_false, Int.not_lt, Int.not_le, ge_iff_le, gt_iff_lt, Bool.not_eq_eq_eq_not, Bool.true_or, Bool.or_true, Bool.false_or, Bool.or_false, Bool.true_and, Bool.and_true, false_or, or_false, true_and, and_true, Decidable.not_not] at hc; constructor <;> first | omega | (simp only [List.length_set, List.length_append, List.length_replicate, List.length_cons, List.length_nil, List.length_take, List.length_drop, List.length_map, List.length_singleton] at *; omega))) ?_) | (refine ld_cell (by first | exact ReadB.src (by assumption) hS.sub | exact Own.src (by assumption) hS) (by first | omega | (simp only [List.length_set, List.length_append, List.length_replicate, List.length_cons, List.length_nil, List.length_take, List.length_drop, List.length_map, List.length_singleton] at *; omega)) (by first | omega | (simp only [List.length_set, List.length_append, List.length_replicate, List.length_cons, List.length_nil, List.length_take, List.length_drop, List.length_map, List.length_singleton] at *; omega)) ?_; intro f hf hcI htI) | (refine ld_count (by first | exact ReadB.src (by assumption) hS.sub | exact Own.src (by assumption) hS) (by first | omega | (simp only [List.length_set, List.length_append, List.length_replicate, List.length_cons, List.length_nil, List.length_take, List.length_drop, List.length_map, List.length_singleton] at *; omega)) (by first | omega | (simp only [List.length_set, List.length_append, List.length_replicate, List.length_cons, List.length_nil, List.length_take, List.length_drop, List.length_map, List.length_singleton] at *; omega)) ?_; intro hlo hhi) | (refine ld_countg (by first | exact ReadB.src (by assumption) hS.sub | exact Own.src (by assumption) hS) (by (intro hc; simp only [decide_eq_true_eq, decide_eq_false_iff_not, Bool.and_eq_true, Bool.and_eq_false_iff, Bool.or_eq_true, Bool.or_eq_false_iff, Bool.not_eq_true', Bool.not_eq_false', Bool.not_true, Bool.not_false, Bool.false_eq_true, Bool.true_eq_false, Int.not_lt, Int.not_le, ge_iff_le, gt_iff_lt, Bool.not_eq_eq_eq_not, Bool.true_or, Bool.or_true, Bool.false_or, Bool.or_false, Bool.true_and, Bool.and_true, false_or, or_false, true_and, and_true, Decidable.not_not] at hc; constructor <;> first | omega | (simp only [List.length_set, List.length_append, List.length_replicate, List.length_cons, List.length_nil, List.length_take, List.length_drop, List.length_map, List.length_singleton] at *; omega))) ?_) | (refine ld_tag (by first | exact ReadB.src (by assumption) hS.sub | exact Own.src (by assumption) hS) (by first | omega | (simp only [List.length_set, List.length_append, List.length_replicate, List.length_cons, List.length_nil, List.length_take, List.length_drop, List.length_map, List.length_singleton] at *; omega)) (by first | omega | (simp only [List.length_set, List.length_append, List.length_replicate, List.length_cons, List.length_nil, List.length_take, List.length_drop, List.length_map, List.length_singleton] at *; omega)) ?_; intro hlo hhi) | (refine ld_fields (by first | exact ReadB.src (by assumption) hS.sub | exact Own.src (by assumption) hS) (by first | omega | (simp only [List.length_set, List.length_append, List.length_replicate, List.length_cons, List.length_nil, List.length_take, List.length_drop, List.length_map, List.length_singleton] at *; omega)) (by first | omega | (simp only [List.length_set, List.length_append, List.length_replicate, List.length_cons, List.length_nil, List.length_take, List.length_drop, List.length_map, List.length_singleton] at *; omega)) ?_; intro f hf) | (refine ld_fieldsg (by first | exact ReadB.src (by assumption) hS.sub | exact Own.src (by assumption) hS) (by (intro hc; simp only [decide_eq_true_eq, decide_eq_false_iff_not, Bool.and_eq_true, Bool.and_eq_false_iff, Bool.or_eq_true, Bool.or_eq_false_iff, Bool.not_eq_true', Bool.not_eq_false', Bool.not_true, Bool.not_false, Bool.false_eq_true, Bool.true_eq_false, Int.not_lt, Int.not_le, ge_iff_le, gt_iff_lt, Bool.not_eq_eq_eq_not, Bool.true_or, Bool.or_true, Bool.false_or, Bool.or_false, Bool.true_and, Bool.and_true, false_or, or_false, true_and, and_true, Decidable.not_not] at hc; constructor <;> first | omega | (simp only [List.length_set, List.length_append, List.length_replicate, List.length_cons, List.length_nil, List.length_take, List.length_drop, List.length_map, List.length_singleton] at *; omega))) ?_; intro f hf) | (refine ld_int (by first | exact ReadB.mono (by assumption) hS.sub | exact Own.read (by assumption) hS | assumption) (by first | omega | (simp only [List.length_set, List.length_append, List.length_replicate, List.length_cons, List.length_nil, List.length_take, List.length_drop, List.length_map, List.length_singleton] at *; omega)) (by first | omega | (simp only [List.length_set, List.length_append, List.length_replicate, List.length_cons, List.length_nil, List.length_take, List.length_drop, List.length_map, List.length_singleton] at *; omega)) ?_; intro hlo hhi) | (refine ld_bool (by first | exact ReadB.mono (by assumption) hS.sub | exact Own.read (by assumption) hS | assumption) (by first | omega | (simp only [List.length_set, List.length_append, List.length_replicate, List.length_cons, List.length_nil, List.length_take, List.length_drop, List.length_map, List.length_singleton] at *; omega)) (by first | omega | (simp only [List.length_set, List.length_append, List.length_replicate, List.length_cons, List.length_nil, List.length_take, List.length_drop, List.length_map, List.length_singleton] at *; omega)) ?_) | (refine ld_byte (by first | exact ReadB.mono (by assumption) hS.sub | exact Own.read (by assumption) hS | assumption) (by first | omega | (simp only [List.length_set, List.length_append, List.length_replicate, List.length_cons, List.length_nil, List.length_take, List.length_drop, List.length_map, List.length_singleton] at *; omega)) (by first | omega | (simp only [List.length_set, List.length_append, List.length_replicate, List.length_cons, List.length_nil, List.length_take, List.length_drop, List.length_map, List.length_singleton] at *; omega)) ?_; intro hlo hhi) | (refine ld_intg (by first | exact ReadB.mono (by assumption) hS.sub | exact Own.read (by assumption) hS | assumption) (by (intro hc; simp only [decide_eq_true_eq, decide_eq_false_iff_not, Bool.and_eq_true, Bool.and_eq_false_iff, Bool.or_eq_true, Bool.or_eq_false_iff, Bool.not_eq_true', Bool.not_eq_false', Bool.not_true, Bool.not_false, Bool.false_eq_true, Bool.true_eq_false, Int.not_lt, Int.not_le, ge_iff_le, gt_iff_lt, Bool.not_eq_eq_eq_not, Bool.true_or, Bool.or_true, Bool.false_or, Bool.or_false, Bool.true_and, Bool.and_true, false_or, or_false, true_and, and_true, Decidable.not_not] at hc; constructor <;> first | omega | (simp only [List.length_set, List.length_append, List.length_replicate, List.length_cons, List.length_nil, List.length_take, List.length_drop, List.length_map, List.length_singleton] at *; omega))) ?_) | (refine ld_boolg (by first | exact ReadB.mono (by assumption) hS.sub | exact Own.read (by assumption) hS | assumption) (by (intro hc; simp only [decide_eq_true_eq, decide_eq_false_iff_not, Bool.and_eq_true, Bool.and_eq_false_iff, Bool.or_eq_true, Bool.or_eq_false_iff, Bool.not_eq_true', Bool.not_eq_false', Bool.not_true, Bool.not_false, Bool.false_eq_true, Bool.true_eq_false, Int.not_lt, Int.not_le, ge_iff_le, gt_iff_lt, Bool.not_eq_eq_eq_not, Bool.true_or, Bool.or_true, Bool.false_or, Bool.or_false, Bool.true_and, Bool.and_true, false_or, or_false, true_and, and_true, Decidable.not_not] at hc; constructor <;> first | omega | (simp only [List.length_set, List.length_append, List.length_replicate, List.length_cons, List.length_nil, List.length_take, List.length_drop, List.length_map, List.length_singleton] at *; omega))) ?_) | (refine ⟨_, Cel.load (by assumption) hS rfl, ?_⟩) | (refine ⟨_, fun _ => Cel.load (by assumption) hS rfl, ?_⟩) | (refine go_max ?_) | (refine go_nil ?_) | (refine Cel.store (by assumption) hS (by simp) ?_; intro w1 I1 hC hS; simp [putR] at hC) | (refine st_int (by assumption) hS (by first | omega | (simp only [List.length_set, List.length_append, List.length_replicate, List.length_cons, List.length_nil, List.length_take, List.length_drop, List.length_map, List.length_singleton] at *; omega)) (by first | omega | (simp only [List.length_set, List.length_append, List.length_replicate, List.length_cons, List.length_nil, List.length_take, List.length_drop, List.length_map, List.length_singleton] at *; omega)) (by first | assumption | (constructor <;> first | omega | (simp only [List.length_set, List.length_append, List.length_replicate, List.length_cons, List.length_nil, List.length_take, List.length_drop, List.length_map, List.length_singleton] at *; omega))) ?_; intro w1 I1 hO hS) | (refine st_bool (by assumption) hS (by first | omega | (simp only [List.length_set, List.length_append, List.length_replicate, List.length_cons, List.length_nil, List.length_take, List.length_drop, List.length_map, List.length_singleton] at *; omega)) (by first | omega | (simp only [List.length_set, List.length_append, List.length_replicate, List.length_cons, List.length_nil, List.length_take, List.length_drop, List.length_map, List.length_singleton] at *; omega)) ?_; intro w1 I1 hO hS) | (with_reducible refine And.intro rfl ?_) | (with_reducible refine And.intro (by omega) ?_) | (with_reducible refine And.intro ?_ ?_) | (with_reducible rfl) | assumption | omega | exact hS.sub
  · exact val_false fun h => hc (h _ (nth_mem h0 (by omega)))
  · rw [take_nth h0 (by omega)]; intro k hk
    rcases List.mem_append.1 hk with hk | hk
    · exact h2 k hk
    · rw [List.mem_singleton.1 hk]; exact hc
  · rw [take_all (by omega)] at h2; exact val_true h2
theorem c_zeros (h0 : 0 ≤ n) (h1 : n ≤ 1099511627776) : Mk Try.prog 38 #[.int .i64 n] v fun r J => ∃ z, r = z.val ∧ Own v z (List.replicate n.toNat (0 : Int)) J := by
  refine of38 _ _ _ ?_
  unfold vc38
  refine St.makeInts (.refl v) h0 h1 (by decide) ?_
  intro x1 w1 I1 hO hS hs
  exact ⟨_, rfl, I1, by simpa using hS, _, rfl, hO⟩
end
end Go.Vc

namespace Go.Vc
open Go Go.Proofs Go.RowKit
set_option linter.all false

instance : SlT Try.prog 31 3 40 [intV 0, intV 0, .slice none 0 0] := .of (by kernel_rfl) rfl (by decide)
instance : SlT Try.prog 99 1 1 [.bool false] := .of (by kernel_rfl) rfl (by decide)

section
variable {u v w : World} {x y : Sl} {l m : List Int} {h : List CellD} {n k : Int} {a : Addr} {I J L R : Items} {F : Items → Items}

theorem c_newReader {code : List UInt8} (hx : Read v x code) : Mk Try.prog 26 #[x.val] v fun r J => ∃ a, r = .pointer (some (a.add 0)) ∧ Rdr v a 0 J := by
  refine of26 _ _ _ ?_
  unfold vc26
  have hn := hx.n
  refine ⟨fun hc => ⟨?_, ?_⟩, fun hc => ?_⟩
  · simp only [decide_eq_true_eq, decide_eq_false_iff_not, Bool.and_eq_true, Bool.and_eq_false_iff, Bool.or_eq_true, Bool.or_eq_false_iff, Bool.not_eq_true', Bool.not_eq_false', Bool.not_true, Bool.not_false, Bool.false_eq_true, Bool.true_eq_false, Int.not_lt, Int.not_le, ge_iff_le, gt_iff_lt, Bool.not_eq_eq_eq_not, Bool.true_or, Bool.or_true, Bool.false_or, Bool.or_false, Bool.true_and, Bool.and_true, false_or, or_false, true_and, and_true, Decidable.not_not] at hc
    obtain ⟨_, h, _⟩ := hx
    have := h.2.1
    exact ⟨by omega, by omega, by omega⟩
  · simp only [decide_eq_true_eq, decide_eq_false_iff_not, Bool.and_eq_true, Bool.and_eq_false_iff, Bool.or_eq_true, Bool.or_eq_false_iff, Bool.not_eq_true', Bool.not_eq_false', Bool.not_true, Bool.not_false, Bool.false_eq_true, Bool.true_eq_false, Int.not_lt, Int.not_le, ge_iff_le, gt_iff_lt, Bool.not_eq_eq_eq_not, Bool.true_or, Bool.or_true, Bool.false_or, Bool.or_false, Bool.true_and, Bool.and_true, false_or, or_false, true_and, and_true, Decidable.not_not] at hc
    refine St.box (vals := [(x.cut 0 2000 1).val, .int .i64 0]) (.refl v) fun a w I hC hS hs => ?_
    have := hx.cut (lo := 0) (hi := 2000) (by omega) (by omega) (by omega)
    exact ⟨I, by simpa using hS, a, rfl, _, _, 0, hC, this, by simp; omega, by omega, by omega⟩
  · simp only [decide_eq_true_eq, decide_eq_false_iff_not, Bool.and_eq_true, Bool.and_eq_false_iff, Bool.or_eq_true, Bool.or_eq_false_iff, Bool.not_eq_true', Bool.not_eq_false', Bool.not_true, Bool.not_false, Bool.false_eq_true, Bool.true_eq_false, Int.not_lt, Int.not_le, ge_iff_le, gt_iff_lt, Bool.not_eq_eq_eq_not, Bool.true_or, Bool.or_true, Bool.false_or, Bool.or_false, Bool.true_and, Bool.and_true, false_or, or_false, true_and, and_true, Decidable.not_not] at hc
    refine St.box (vals := [x.val, .int .i64 0]) (.refl v) fun a w I hC hS hs => ?_
    exact ⟨I, by simpa using hS, a, rfl, _, _, 0, hC, hx, by omega, by omega, by omega⟩

theorem c_one {m : Int} {l : List Int} (hr : Rdr u a m I) (hO : Own u x l J) (hS : St u w (J ++ L)) [p : Pos I L R F] (hm : m ≤ 1000000000) (hl : 0 < l.length) (hl2 : l.length ≤ 1000000) :
    Trip Try.prog 28 #[.pointer (some (a.add 0)), x.val] w fun r w' => ∃ k I', r = .int .i64 k ∧ Rdr u a (m + 1) I' ∧ St u w' (I' ++ R) ∧ k ∈ l := by
  refine of28 _ _ _ _ ?_
  unfold vc28
  have hn := hO.n
  refine Trip.mono' (c_pick (n := x.n) hr hS hm (by omega) (by omega)) ?_
  rintro _ w1 ⟨k, I1, rfl, hR, hS, hk0, hk1, hk2⟩
  refine ⟨_, rfl, ?_⟩
  refine go_oix hO hk0 (by omega) ?_
  refine ld_int (Own.read hO hS) hk0 (by omega) ?_
  intro b0 b1
  exact ⟨_, I1, rfl, hR, hS.to, nth_mem hk0 (by omega)⟩

theorem c_spoilInts {m : Int} {l : List Int} (hr : Rdr u a m I) (hx : Read w x l) (hS : St u w L) [p : Pos I L R F] (hm : m ≤ 999999990) (hl : l.length ≤ 1000000) :
    Trip Try.prog 63 #[.pointer (some (a.add 0)), x.val] w fun r w' => ∃ y, ∃ (l' : List Int), ∃ J I', r = y.val ∧ Own u y l' J ∧ Rdr u a (m + 3) I' ∧ St u w' (J ++ (I' ++ R)) ∧ l'.length ≤ l.length + 1 := by
  replace hS := hS.front (I := I)
  refine of63 _ _ _ _ ?_
  unfold vc63
  refine Mk.usew (c_copyInts hx) hS ?_
  rintro _ w1 J1 ⟨y, rfl, hO⟩ hS hsub
  replace hO : Own u y l J1 := hO.ofInts
  have hn := hO.n
  refine ⟨_, rfl, ?_⟩
  have tail : ∀ (w : World) (I : Items) (m' : Int), Rdr u a m' I → St u w (I ++ (J1 ++ R)) → m' ≤ m + 1 →
    StepT Try.prog (Instr.buildSlice 23 5 #[(0, .int .i64 0), (1, .int .i64 1), (2, .int .i64 2), (3, .int .i64 (-1)), (4, .int .i64 1000)]) w fun r17 w18 =>
      ∃ x19 : Sl, r17 = x19.val ∧ Trip Try.prog 28 #[.pointer (some (a.add 0)), x19.val] w18 fun r20 w21 =>
        ∃ n22 : Int, r20 = .int .i64 n22 ∧ StepT Try.prog (Instr.buildSlice 23 1 #[(0, .int .i64 n22)]) w21 fun r23 w24 =>
          ∃ x25 : Sl, r23 = x25.val ∧ StepT Try.prog (Builtin.append_ #[23, 23] 23 #[y.val, x25.val]) w24 fun r26 w27 =>
            ∃ x28 : Sl, r26 = x28.val ∧ ∃ y, ∃ (l' : List Int), ∃ J I', x28.val = y.val ∧ Own u y l' J ∧ Rdr u a (m + 3) I' ∧ St u w27 (J ++ (I' ++ R)) ∧ l'.length ≤ l.length + 1 := by
    intro w I m' hR hS hm'
    refine St.build (α := Int) hS (by (repeat' (first | exact VsOf.nil | apply VsOf.cons | (apply VOf.int; first | assumption | (constructor <;> first | omega | (simp only [List.length_set, List.length_append, List.length_replicate, List.length_cons, List.length_nil, List.length_take, List.length_drop, List.length_map, List.length_singleton] at *; omega))) | exact VOf.bool | exact VOf.str))) rfl (by decide) ?_
    intro x1 w1 I1 hO1 hS hs
    refine ⟨_, rfl, ?_⟩
    refine Trip.mono' (c_one hR hO1 hS (by omega) (by simp) (by simp)) ?_
    rintro _ w2 ⟨k, I2, rfl, hR, hS, hk⟩
    refine ⟨_, rfl, ?_⟩
    have hki : InI k := by simp only [List.mem_cons, List.not_mem_nil, or_false] at hk; omega
    refine St.build (α := Int) hS (by (repeat' (first | exact VsOf.nil | apply VsOf.cons | (apply VOf.int; first | assumption | (constructor <;> first | omega | (simp only [List.length_set, List.length_append, List.length_replicate, List.length_cons, List.length_nil, List.length_take, List.length_drop, List.length_map, List.length_singleton] at *; omega))) | exact VOf.bool | exact VOf.str))) rfl (by decide) ?_
    intro x3 w3 I3 hO3 hS hs
    refine ⟨_, rfl, ?_⟩
    refine Own.append hO hS (hO3.src hS) (by simp; omega) (by decide) ?_
    intro x4 w4 I4 hO4 hS
    exact ⟨_, rfl, _, _, I4, I2, rfl, hO4, hR.le (by omega), hS.to, by simp⟩
  refine ⟨fun hc => ?_, fun hc => tail _ _ _ hr hS.to (by omega)⟩
  simp only [decide_eq_true_eq, decide_eq_false_iff_not, Bool.and_eq_true, Bool.and_eq_false_iff, Bool.or_eq_true, Bool.or_eq_false_iff, Bool.not_eq_true', Bool.not_eq_false', Bool.not_true, Bool.not_false, Bool.false_eq_true, Bool.true_eq_false, Int.not_lt, Int.not_le, ge_iff_le, gt_iff_lt, Bool.not_eq_eq_eq_not, Bool.true_or, Bool.or_true, Bool.false_or, Bool.or_false, Bool.true_and, Bool.and_true, false_or, or_false, true_and, and_true, Decidable.not_not] at hc
  refine Trip.mono' (c_pick (n := 2) hr hS (by omega) (by omega) (by omega)) ?_
  rintro _ w2 ⟨k, I2, rfl, hR, hS, hk0, hk1, hk2⟩
  refine ⟨_, rfl, fun hc => ?_, fun hc => tail _ _ _ hR hS.to (by omega)⟩
  refine Trip.mono' (c_pick (n := y.n) hR hS (by omega) (by omega) (by omega)) ?_
  rintro _ w3 ⟨k3, I3, rfl, hR, hS, hk0, hk1, hk2⟩
  refine ⟨_, rfl, ?_⟩
  refine St.build (α := Int) hS (by (repeat' (first | exact VsOf.nil | apply VsOf.cons | (apply VOf.int; first | assumption | (constructor <;> first | omega | (simp only [List.length_set, List.length_append, List.length_replicate, List.length_cons, List.length_nil, List.length_take, List.length_drop, List.length_map, List.length_singleton] at *; omega))) | exact VOf.bool | exact VOf.str))) rfl (by decide) ?_
  intro x4 w4 I4 hO4 hS hs
  refine ⟨_, rfl, ?_⟩
  refine Trip.mono' (c_one hR hO4 hS (by omega) (by simp) (by simp)) ?_
  rintro _ w5 ⟨k5, I5, rfl, hR, hS, hk⟩
  have hki : InI k5 := by simp only [List.mem_cons, List.not_mem_nil, or_false] at hk; omega
  refine ⟨_, rfl, ?_⟩
  refine go_oix hO (by omega) (by omega) ?_
  refine st_int hO hS (by omega) (by omega) hki ?_
  intro w6 I6 hO6 hS
  exact ⟨_, _, I6, I5, rfl, hO6, hR.le (by omega), hS.to, by simp⟩

end
end Go.Vc

namespace Go.Vc
open Go Go.Proofs Go.RowKit
set_option linter.all false

def atI (n : Int) : Int := IntKind.wrap .i64 (n - 1000)
theorem atI_of {n : Int} (h : 1000 ≤ n) (h1 : n ≤ 9223372036854775807) : atI n = n - 1000 := wrap_i64 (by omega) (by omega)
theorem atI_neg {n : Int} (h : n < 1000) (h1 : -9223372036854775808 ≤ n) : atI n < 0 ∨ atI n ≥ 9223372036854774808 := by
  unfold atI
  rcases Int.lt_or_le (n - 1000) (-9223372036854775808) with hlt | hge
  · right
    have e : IntKind.wrap .i64 (n - 1000) = n - 1000 + 18446744073709551616 := by
      simp [IntKind.wrap, IntKind.signed, IntKind.bits]; split <;> omega
    rw [e]; omega
  · left; rw [wrap_i64 hge (by omega)]; omega

section
variable {u v w : World} {x y : Sl} {l m : List Int} {h : List CellD} {n k : Int} {a : Addr} {I J L R : Items} {F : Items → Items}

theorem go_at {K : Int → Prop} (k : K (atI n)) : ∃ r, Wr .i64 (n - 1000) r ∧ K r := ⟨_, rfl, k⟩

/-! ### the reference's -/
theorem c_isLive (hx : Read v x h) (hn : InI n) : Fn Try.prog 76 #[x.val, .int .i64 n] v (.bool (live h n)) := by
  refine of76 _ _ _ _ ?_
  unfold vc76
  have hxn := hx.n
  have hl := hx.le
  have hS := St.refl v
  refine go_at ?_
  refine go_wr (by omega) (by omega) ?_
  refine ⟨_, c_inRange, _, fun _ => c_isPointer, ?_⟩
  have key : (decide (0 ≤ atI n) && decide (atI n ≤ (x.n : Int) - 1) && decide (n ≥ 1000)) = true → n - 1000 = atI n ∧ 0 ≤ n - 1000 ∧ n - 1000 < h.length := by
    intro hc
    simp only [decide_eq_true_eq, decide_eq_false_iff_not, Bool.and_eq_true, Bool.and_eq_false_iff, Bool.or_eq_true, Bool.or_eq_false_iff, Bool.not_eq_true', Bool.not_eq_false', Bool.not_true, Bool.not_false, Bool.false_eq_true, Bool.true_eq_false, Int.not_lt, Int.not_le, ge_iff_le, gt_iff_lt, Bool.not_eq_eq_eq_not, Bool.true_or, Bool.or_true, Bool.false_or, Bool.or_false, Bool.true_and, Bool.and_true, false_or, or_false, true_and, and_true, Decidable.not_not] at hc
    have := atI_of hc.2 hn.2
    omega
  refine ⟨n - 1000, fun hc => wrap_i64 (by have := key hc; omega) (by have := key hc; omega), fun hc => hx.ix (key hc).2.1 (key hc).2.2, ?_⟩
  refine ld_countg (hx.src hS.sub) (fun hc => (key hc).2) ?_
  refine ⟨?_, hS.sub⟩
  congr 1
  apply Bool.eq_iff_iff.2
  simp only [live, decide_eq_true_eq, decide_eq_false_iff_not, Bool.and_eq_true, Bool.and_eq_false_iff, Bool.or_eq_true, Bool.or_eq_false_iff, Bool.not_eq_true', Bool.not_eq_false', Bool.not_true, Bool.not_false, Bool.false_eq_true, Bool.true_eq_false, Int.not_lt, Int.not_le, ge_iff_le, gt_iff_lt, Bool.not_eq_eq_eq_not, Bool.true_or, Bool.or_true, Bool.false_or, Bool.or_false, Bool.true_and, Bool.and_true, false_or, or_false, true_and, and_true, Decidable.not_not]
  constructor
  · rintro ⟨⟨⟨h1, h2⟩, h3⟩, h4⟩
    exact ⟨⟨h3, by have := atI_of h3 hn.2; omega⟩, h4⟩
  · rintro ⟨⟨h1, h2⟩, h3⟩
    have := atI_of h1 hn.2
    exact ⟨⟨⟨by omega, by omega⟩, h1⟩, h3⟩

theorem c_isWord (hx : Read v x h) (hn : InI n) : Fn Try.prog 85 #[x.val, .int .i64 n] v (.bool (word h n)) := by
  refine of85 _ _ _ _ ?_
  unfold vc85
  exact ⟨_, c_inRange, _, fun _ => c_isLive hx hn, rfl, .refl v⟩

theorem c_validCell {c : CellD} {f : Sl} (hx : Read v x h) (hf : Read v f c.fields) (hc : InI c.count) (ht : InI c.tag) : Fn Try.prog 81 #[x.val, .agg #[.int .i64 c.count, .int .i64 c.tag, f.val]] v (.bool (vcell h c)) := by
  refine of81 _ _ _ _ _ _ ?_
  unfold vc81
  have hfn := hf.n
  have hl := hf.le
  refine ⟨_, fun _ => c_inRange, fun hc => ?_, fun hc => ⟨fun hc1 => ?_, fun hc1 => ?_⟩⟩
  · refine ⟨?_, .refl v⟩
    simp only [decide_eq_true_eq, decide_eq_false_iff_not, Bool.and_eq_true, Bool.and_eq_false_iff, Bool.or_eq_true, Bool.or_eq_false_iff, Bool.not_eq_true', Bool.not_eq_false', Bool.not_true, Bool.not_false, Bool.false_eq_true, Bool.true_eq_false, Int.not_lt, Int.not_le, ge_iff_le, gt_iff_lt, Bool.not_eq_eq_eq_not, Bool.true_or, Bool.or_true, Bool.false_or, Bool.or_false, Bool.true_and, Bool.and_true, false_or, or_false, true_and, and_true, Decidable.not_not] at hc
    have : ¬ vcell h c = true := by
      simp only [vcell, icell, decide_eq_true_eq, decide_eq_false_iff_not, Bool.and_eq_true, Bool.and_eq_false_iff, Bool.or_eq_true, Bool.or_eq_false_iff, Bool.not_eq_true', Bool.not_eq_false', Bool.not_true, Bool.not_false, Bool.false_eq_true, Bool.true_eq_false, Int.not_lt, Int.not_le, ge_iff_le, gt_iff_lt, Bool.not_eq_eq_eq_not, Bool.true_or, Bool.or_true, Bool.false_or, Bool.or_false, Bool.true_and, Bool.and_true, false_or, or_false, true_and, and_true, Decidable.not_not]; omega
    rw [Bool.eq_false_iff.2 this]
  · simp only [decide_eq_true_eq, decide_eq_false_iff_not, Bool.and_eq_true, Bool.and_eq_false_iff, Bool.or_eq_true, Bool.or_eq_false_iff, Bool.not_eq_true', Bool.not_eq_false', Bool.not_true, Bool.not_false, Bool.false_eq_true, Bool.true_eq_false, Int.not_lt, Int.not_le, ge_iff_le, gt_iff_lt, Bool.not_eq_eq_eq_not, Bool.true_or, Bool.or_true, Bool.false_or, Bool.or_false, Bool.true_and, Bool.and_true, false_or, or_false, true_and, and_true, Decidable.not_not] at hc hc1
    refine ⟨_, fun _ => c_allZero hf, ?_, .refl v⟩
    congr 1
    apply Bool.eq_iff_iff.2
    simp only [vcell, icell, decide_eq_true_eq, decide_eq_false_iff_not, Bool.and_eq_true, Bool.and_eq_false_iff, Bool.or_eq_true, Bool.or_eq_false_iff, Bool.not_eq_true', Bool.not_eq_false', Bool.not_true, Bool.not_false, Bool.false_eq_true, Bool.true_eq_false, Int.not_lt, Int.not_le, ge_iff_le, gt_iff_lt, Bool.not_eq_eq_eq_not, Bool.true_or, Bool.or_true, Bool.false_or, Bool.or_false, Bool.true_and, Bool.and_true, false_or, or_false, true_and, and_true, Decidable.not_not, List.all_eq_true]
    constructor
    · rintro ⟨⟨h1, h2⟩, h3⟩
      refine ⟨⟨⟨⟨⟨⟨⟨by omega, by omega⟩, by omega⟩, by omega⟩, fun _ => h1⟩, fun e => ?_⟩, fun f hf => ⟨?_, fun _ => h2 f hf⟩⟩, by omega⟩
      · rcases h3 with h3 | h3
        · omega
        · exact List.eq_nil_of_length_eq_zero (by omega)
      · have := h2 f hf; subst this; rfl
    · rintro ⟨⟨⟨⟨⟨⟨⟨h1, h2⟩, h3⟩, h4⟩, h5⟩, h6⟩, h7⟩, h8⟩
      rcases Int.lt_or_le c.count 0 with hlt | hge
      · exact ⟨⟨h5 hc1, fun f hf => (h7 f hf).2 hlt⟩, .inl hlt⟩
      · have := h6 (by omega)
        exact ⟨⟨h5 hc1, by rw [this]; simp⟩, .inr (by rw [hfn, this]; rfl)⟩
  · simp only [decide_eq_true_eq, decide_eq_false_iff_not, Bool.and_eq_true, Bool.and_eq_false_iff, Bool.or_eq_true, Bool.or_eq_false_iff, Bool.not_eq_true', Bool.not_eq_false', Bool.not_true, Bool.not_false, Bool.false_eq_true, Bool.true_eq_false, Int.not_lt, Int.not_le, ge_iff_le, gt_iff_lt, Bool.not_eq_eq_eq_not, Bool.true_or, Bool.or_true, Bool.false_or, Bool.or_false, Bool.true_and, Bool.and_true, false_or, or_false, true_and, and_true, Decidable.not_not] at hc hc1
    refine ⟨fun i w => St v w [] ∧ 0 ≤ i ∧ i ≤ c.fields.length ∧ ∀ g ∈ c.fields.take i.toNat, word h g = true, fun i _ => (c.fields.length - i).toNat, ⟨.refl v, by omega, by omega, by simp⟩, ?_⟩
    rintro i w ⟨hS, h0, h1, h2⟩
    dsimp only
    refine ⟨fun hi => ?_, fun hi => ?_⟩
    · simp only [decide_eq_true_eq, decide_eq_false_iff_not, Bool.and_eq_true, Bool.and_eq_false_iff, Bool.or_eq_true, Bool.or_eq_false_iff, Bool.not_eq_true', Bool.not_eq_false', Bool.not_true, Bool.not_false, Bool.false_eq_true, Bool.true_eq_false, Int.not_lt, Int.not_le, ge_iff_le, gt_iff_lt, Bool.not_eq_eq_eq_not, Bool.true_or, Bool.or_true, Bool.false_or, Bool.or_false, Bool.true_and, Bool.and_true, false_or, or_false, true_and, and_true, Decidable.not_not] at hi
      refine ⟨hf.ix h0 (by omega), ?_⟩
      refine ld_int (hf.mono hS.sub) h0 (by omega) ?_
      intro a0 a1
      refine ⟨_, c_isWord (hx.mono hS.sub) ⟨a0, a1⟩, fun hw => ?_, fun hw => ?_⟩
      · refine ⟨?_, hS.sub⟩
        simp only [decide_eq_true_eq, decide_eq_false_iff_not, Bool.and_eq_true, Bool.and_eq_false_iff, Bool.or_eq_true, Bool.or_eq_false_iff, Bool.not_eq_true', Bool.not_eq_false', Bool.not_true, Bool.not_false, Bool.false_eq_true, Bool.true_eq_false, Int.not_lt, Int.not_le, ge_iff_le, gt_iff_lt, Bool.not_eq_eq_eq_not, Bool.true_or, Bool.or_true, Bool.false_or, Bool.or_false, Bool.true_and, Bool.and_true, false_or, or_false, true_and, and_true, Decidable.not_not] at hw
        have : ¬ vcell h c = true := by
          simp only [vcell, icell, decide_eq_true_eq, decide_eq_false_iff_not, Bool.and_eq_true, Bool.and_eq_false_iff, Bool.or_eq_true, Bool.or_eq_false_iff, Bool.not_eq_true', Bool.not_eq_false', Bool.not_true, Bool.not_false, Bool.false_eq_true, Bool.true_eq_false, Int.not_lt, Int.not_le, ge_iff_le, gt_iff_lt, Bool.not_eq_eq_eq_not, Bool.true_or, Bool.or_true, Bool.false_or, Bool.or_false, Bool.true_and, Bool.and_true, false_or, or_false, true_and, and_true, Decidable.not_not, List.all_eq_true]
          intro hh
          have := (hh.1.2 _ (nth_mem h0 (by omega))).1
          rw [hw] at this; cases this
        rw [Bool.eq_false_iff.2 this]
      · simp only [decide_eq_true_eq, decide_eq_false_iff_not, Bool.and_eq_true, Bool.and_eq_false_iff, Bool.or_eq_true, Bool.or_eq_false_iff, Bool.not_eq_true', Bool.not_eq_false', Bool.not_true, Bool.not_false, Bool.false_eq_true, Bool.true_eq_false, Int.not_lt, Int.not_le, ge_iff_le, gt_iff_lt, Bool.not_eq_eq_eq_not, Bool.true_or, Bool.or_true, Bool.false_or, Bool.or_false, Bool.true_and, Bool.and_true, false_or, or_false, true_and, and_true, Decidable.not_not] at hw
        repeat' first | (intro hc; simp only [decide_eq_true_eq, decide_eq_false_iff_not, Bool.and_eq_true, Bool.and_eq_false_iff, Bool.or_eq_true, Bool.or_eq_false_iff, Bool.not_eq_true', Bool.not_eq_false', Bool.not_true, Bool.not_false, Bool.false_eq_true, Bool.true_eq_false, Int.not_lt, Int.not_le, ge_iff_le, gt_iff_lt, Bool.not_eq_eq_eq_not, Bool.true_or, Bool.or_true, Bool.false_or, Bool.or_false, Bool.true_and, Bool.and_true, false_or, or_false, true_and, and_true, Decidable.not_not] at hc) | (refine go_wr (by first | omega | (simp only [List.length_set, List.length_append, List.length_replicate, List.length_cons, List.length_nil, List.length_take, List.length_drop, List.length_map, List.length_singleton] at *; omega)) (by first | omega | (simp only [List.length_set, List.length_append, List.length_replicate, List.length_cons, List.length_nil, List.length_take, List.length_drop, List.length_map, List.length_singleton] at *; omega)) ?_) | (refine go_wrg (by (intro hc; simp only [decide_eq_true_eq, decide_eq_false_iff_not, Bool.and_eq_true, Bool.and_eq_false_iff, Bool.or_eq_true, Bool.or_eq_false_iff, Bool.not_eq_true', Bool.not_eq_false', Bool.not_true, Bool.not_false, Bool.false_eq_true, Bool.true_eq_false, Int.not_lt, Int.not_le, ge_iff_le, gt_iff_lt, Bool.not_eq_eq_eq_not, Bool.true_or, Bool.or_true, Bool.false_or, Bool.or_false, Bool.true_and, Bool.and_true, false_or, or_false, true_and, and_true, Decidable.not_not] at hc; constructor <;> first | omega | (simp only [List.length_set, List.length_append, List.length_replicate, List.length_cons, List.length_nil, List.length_take, List.length_drop, List.length_map, List.length_singleton] at *; omega))) ?_) | (refine go_ix (by assumption) (by first | omega | (simp only [List.length_set, List.length_append, List.length_replicate, List.length_cons, List.length_nil, List.length_take, List.length_drop, List.length_map, List.length_singleton] at *; omega)) (by first | omega | (simp only [List.length_set, List.length_append, List.length_replicate, List.length_cons, List.length_nil, List.length_take, List.length_drop, List.length_map, List.length_singleton] at *; omega)) ?_) | (refine go_oix (by assumption) (by first | omega | (simp only [List.length_set, List.length_append, List.length_replicate, List.length_cons, List.length_nil, List.length_take, List.length_drop, List.length_map, List.length_singleton] at *; omega)) (by first | omega | (simp only [List.length_set, List.length_append, List.length_replicate, List.length_cons, List.length_nil, List.length_take, List.length_drop, List.length_map, List.length_singleton] at *; omega)) ?_) | (refine go_ixg (by assumption) (by (intro hc; simp only [decide_eq_true_eq, decide_eq_false_iff_not, Bool.and_eq_true, Bool.and_eq_false_iff, Bool.or_eq_true, Bool.or_eq_false_iff, Bool.not_eq_true', Bool.not_eq_false', Bool.not_true, Bool.not_false, Bool.false_eq_true, Bool.true_eq_false, Int.not_lt, Int.not_le, ge_iff_le, gt_iff_lt, Bool.not_eq_eq_eq_not, Bool.true_or, Bool.or_true, Bool.false_or, Bool.or_false, Bool.true_and, Bool.and_true, false_or, or_false, true_and, and_true, Decidable.not_not] at hc; constructor <;> first | omega | (simp only [List.length_set, List.length_append, List.length_replicate, List.length_cons, List.length_nil, List.length_take, List.length_drop, List.length_map, List.length_singleton] at *; omega))) ?_) | (refine go_oixg (by assumption) (by (intro hc; simp only [decide_eq_true_eq, decide_eq_false_iff_not, Bool.and_eq_true, Bool.and_eq_false_iff, Bool.or_eq_true, Bool.or_eq_false_iff, Bool.not_eq_true', Bool.not_eq_false', Bool.not_true, Bool.not_false, Bool.false_eq_true, Bool.true_eq_false, Int.not_lt, Int.not_le, ge_iff_le, gt_iff_lt, Bool.not_eq_eq_eq_not, Bool.true_or, Bool.or_true, Bool.false_or, Bool.or_false, Bool.true_and, Bool.and_true, false_or, or_false, true_and, and_true, Decidable.not_not] at hc; constructor <;> first | omega | (simp only [List.length_set, List.length_append, List.length_replicate, List.length_cons, List.length_nil, List.length_take, List.length_drop, List.length_map, List.length_singleton] at *; omega))) ?_) | (refine ld_cell (by first | exact ReadB.src (by assumption) hS.sub | exact Own.src (by assumption) hS) (by first | omega | (simp only [List.length_set, List.length_append, List.length_replicate, List.length_cons, List.length_nil, List.length_take, List.length_drop, List.length_map, List.length_singleton] at *; omega)) (by first | omega | (simp only [List.length_set, List.length_append, List.length_replicate, List.length_cons, List.length_nil, List.length_take, List.length_drop, List.length_map, List.length_singleton] at *; omega)) ?_; intro f hf hcI htI) | (refine ld_count (by first | exact ReadB.src (by assumption) hS.sub | exact Own.src (by assumption) hS) (by first | omega | (simp only [List.length_set, List.length_append, List.length_replicate, List.length_cons, List.length_nil, List.length_take, List.length_drop, List.length_map, List.length_singleton] at *; omega)) (by first | omega | (simp only [List.length_set, List.length_append, List.length_replicate, List.length_cons, List.length_nil, List.length_take, List.length_drop, List.length_map, List.length_singleton] at *; omega)) ?_; intro hlo hhi) | (refine ld_countg (by first | exact ReadB.src (by assumption) hS.sub | exact Own.src (by assumption) hS) (by (intro hc; simp only [decide_eq_true_eq, decide_eq_false_iff_not, Bool.and_eq_true, Bool.and_eq_false_iff, Bool.or_eq_true, Bool.or_eq_false_iff, Bool.not_eq_true', Bool.not_eq_false', Bool.not_true, Bool.not_false, Bool.false_eq_true, Bool.true_eq_false, Int.not_lt, Int.not_le, ge_iff_le, gt_iff_lt, Bool.not_eq_eq_eq_not, Bool.true_or, Bool.or_true, Bool.false_or, Bool.or_false, Bool.true_and, Bool.and_true, false_or, or_false, true_and, and_true, Decidable.not_not] at hc; constructor <;> first | omega | (simp only [List.length_set, List.length_append, List.length_replicate, List.length_cons, List.length_nil, List.length_take, List.length_drop, List.length_map, List.length_singleton] at *; omega))) ?_) | (refine ld_tag (by first | exact ReadB.src (by assumption) hS.sub | exact Own.src (by assumption) hS) (by first | omega | (simp only [List.length_set, List.length_append, List.length_replicate, List.length_cons, List.length_nil, List.length_take, List.length_drop, List.length_map, List.length_singleton] at *; omega)) (by first | omega | (simp only [List.length_set, List.length_append, List.length_replicate, List.length_cons, List.length_nil, List.length_take, List.length_drop, List.length_map, List.length_singleton] at *; omega)) ?_; intro hlo hhi) | (refine ld_fields (by first | exact ReadB.src (by assumption) hS.sub | exact Own.src (by assumption) hS) (by first | omega | (simp only [List.length_set, List.length_append, List.length_replicate, List.length_cons, List.length_nil, List.length_take, List.length_drop, List.length_map, List.length_singleton] at *; omega)) (by first | omega | (simp only [List.length_set, List.length_append, List.length_replicate, List.length_cons, List.length_nil, List.length_take, List.length_drop, List.length_map, List.length_singleton] at *; omega)) ?_; intro f hf) | (refine ld_fieldsg (by first | exact ReadB.src (by assumption) hS.sub | exact Own.src (by assumption) hS) (by (intro hc; simp only [decide_eq_true_eq, decide_eq_false_iff_not, Bool.and_eq_true, Bool.and_eq_false_iff, Bool.or_eq_true, Bool.or_eq_false_iff, Bool.not_eq_true', Bool.not_eq_false', Bool.not_true, Bool.not_false, Bool.false_eq_true, Bool.true_eq_false, Int.not_lt, Int.not_le, ge_iff_le, gt_iff_lt, Bool.not_eq_eq_eq_not, Bool.true_or, Bool.or_true, Bool.false_or, Bool.or_false, Bool.true_and, Bool.and_true, false_or, or_false, true_and, and_true, Decidable.not_not] at hc; constructor <;> first | omega | (simp only [List.length_set, List.length_append, List.length_replicate, List.length_cons, List.length_nil, List.length_take, List.length_drop, List.length_map, List.length_singleton] at *; omega))) ?_; intro f hf) | (refine ld_int (by first | exact ReadB.mono (by assumption) hS.sub | exact Own.read (by assumption) hS | assumption) (by first | omega | (simp only [List.length_set, List.length_append, List.length_replicate, List.length_cons, List.length_nil, List.length_take, List.length_drop, List.length_map, List.length_singleton] at *; omega)) (by first | omega | (simp only [List.length_set, List.length_append, List.length_replicate, List.length_cons, List.length_nil, List.length_take, List.length_drop, List.length_map, List.length_singleton] at *; omega)) ?_; intro hlo hhi) | (refine ld_bool (by first | exact ReadB.mono (by assumption) hS.sub | exact Own.read (by assumption) hS | assumption) (by first | omega | (simp only [List.length_set, List.length_append, List.length_replicate, List.length_cons, List.length_nil, List.length_take, List.length_drop, List.length_map, List.length_singleton] at *; omega)) (by first | omega | (simp only [List.length_set, List.length_append, List.length_replicate, List.length_cons, List.length_nil, List.length_take, List.length_drop, List.length_map, List.length_singleton] at *; omega)) ?_) | (refine ld_byte (by first | exact ReadB.mono (by assumption) hS.sub | exact Own.read (by assumption) hS | assumption) (by first | omega | (simp only [List.length_set, List.length_append, List.length_replicate, List.length_cons, List.length_nil, List.length_take, List.length_drop, List.length_map, List.length_singleton] at *; omega)) (by first | omega | (simp only [List.length_set, List.length_append, List.length_replicate, List.length_cons, List.length_nil, List.length_take, List.length_drop, List.length_map, List.length_singleton] at *; omega)) ?_; intro hlo hhi) | (refine ld_intg (by first | exact ReadB.mono (by assumption) hS.sub | exact Own.read (by assumption) hS | assumption) (by (intro hc; simp only [decide_eq_true_eq, decide_eq_false_iff_not, Bool.and_eq_true, Bool.and_eq_false_iff, Bool.or_eq_true, Bool.or_eq_false_iff, Bool.not_eq_true', Bool.not_eq_false', Bool.not_true, Bool.not_false, Bool.false_eq_true, Bool.true_eq_false, Int.not_lt, Int.not_le, ge_iff_le, gt_iff_lt, Bool.not_eq_eq_eq_not, Bool.true_or, Bool.or_true, Bool.false_or, Bool.or_false, Bool.true_and, Bool.and_true, false_or, or_false, true_and, and_true, Decidable.not_not] at hc; constructor <;> first | omega | (simp only [List.length_set, List.length_append, List.length_replicate, List.length_cons, List.length_nil, List.length_take, List.length_drop, List.length_map, List.length_singleton] at *; omega))) ?_) | (refine ld_boolg (by first | exact ReadB.mono (by assumption) hS.sub | exact Own.read (by assumption) hS | assumption) (by (intro hc; simp only [decide_eq_true_eq, decide_eq_false_iff_not, Bool.and_eq_true, Bool.and_eq_false_iff, Bool.or_eq_true, Bool.or_eq_false_iff, Bool.not_eq_true', Bool.not_eq_false', Bool.not_true, Bool.not_false, Bool.false_eq_true, Bool.true_eq_false, Int.not_lt, Int.not_le, ge_iff_le, gt_iff_lt, Bool.not_eq_eq_eq_not, Bool.true_or, Bool.or_true, Bool.false_or, Bool.or_false, Bool.true_and, Bool.and_true, false_or, or_false, true_and, and_true, Decidable.not_not] at hc; constructor <;> first | omega | (simp only [List.length_set, List.length_append, List.length_replicate, List.length_cons, List.length_nil, List.length_take, List.length_drop, List.length_map, List.length_singleton] at *; omega))) ?_) | (refine ⟨_, Cel.load (by assumption) hS rfl, ?_⟩) | (refine ⟨_, fun _ => Cel.load (by assumption) hS rfl, ?_⟩) | (refine go_max ?_) | (refine go_nil ?_) | (refine Cel.store (by assumption) hS (by simp) ?_; intro w1 I1 hC hS; simp [putR] at hC) | (refine st_int (by assumption) hS (by first | omega | (simp only [List.length_set, List.length_append, List.length_replicate, List.length_cons, List.length_nil, List.length_take, List.length_drop, List.length_map, List.length_singleton] at *; omega)) (by first | omega | (simp only [List.length_set, List.length_append, List.length_replicate, List.length_cons, List.length_nil, List.length_take, List.length_drop, List.length_map, List.length_singleton] at *; omega)) (by first | assumption | (constructor <;> first | omega | (simp only [List.length_set, List.length_append, List.length_replicate, List.length_cons, List.length_nil, List.length_take, List.length_drop, List.length_map, List.length_singleton] at *; omega))) ?_; intro w1 I1 hO hS) | (refine st_bool (by assumption) hS (by first | omega | (simp only [List.length_set, List.length_append, List.length_replicate, List.length_cons, List.length_nil, List.length_take, List.length_drop, List.length_map, List.length_singleton] at *; omega)) (by first | omega | (simp only [List.length_set, List.length_append, List.length_replicate, List.length_cons, List.length_nil, List.length_take, List.length_drop, List.length_map, List.length_singleton] at *; omega)) ?_; intro w1 I1 hO hS) | (with_reducible refine And.intro rfl ?_) | (with_reducible refine And.intro (by omega) ?_) | (with_reducible refine And.intro ?_ ?_) | (with_reducible rfl) | assumption | omega | exact hS.sub
        rw [take_nth h0 (by omega)]; intro k hk
        rcases List.mem_append.1 hk with hk | hk
        · exact h2 k hk
        · rw [List.mem_singleton.1 hk]; exact hw
    · simp only [decide_eq_true_eq, decide_eq_false_iff_not, Bool.and_eq_true, Bool.and_eq_false_iff, Bool.or_eq_true, Bool.or_eq_false_iff, Bool.not_eq_true', Bool.not_eq_false', Bool.not_true, Bool.not_false, Bool.false_eq_true, Bool.true_eq_false, Int.not_lt, Int.not_le, ge_iff_le, gt_iff_lt, Bool.not_eq_eq_eq_not, Bool.true_or, Bool.or_true, Bool.false_or, Bool.or_false, Bool.true_and, Bool.and_true, false_or, or_false, true_and, and_true, Decidable.not_not] at hi
      refine ⟨_, c_inRange, ?_, hS.sub⟩
      rw [take_all (by omega)] at h2
      congr 1
      apply Bool.eq_iff_iff.2
      simp only [vcell, icell, decide_eq_true_eq, decide_eq_false_iff_not, Bool.and_eq_true, Bool.and_eq_false_iff, Bool.or_eq_true, Bool.or_eq_false_iff, Bool.not_eq_true', Bool.not_eq_false', Bool.not_true, Bool.not_false, Bool.false_eq_true, Bool.true_eq_false, Int.not_lt, Int.not_le, ge_iff_le, gt_iff_lt, Bool.not_eq_eq_eq_not, Bool.true_or, Bool.or_true, Bool.false_or, Bool.or_false, Bool.true_and, Bool.and_true, false_or, or_false, true_and, and_true, Decidable.not_not, List.all_eq_true]
      constructor
      · rintro ⟨q1, q2⟩
        exact ⟨⟨⟨⟨⟨⟨⟨by omega, by omega⟩, q1⟩, q2⟩, by omega⟩, by omega⟩, fun g hg => ⟨h2 g hg, by omega⟩⟩, by omega⟩
      · rintro ⟨⟨⟨⟨⟨⟨⟨q1, q2⟩, q3⟩, q4⟩, q5⟩, q6⟩, q7⟩, q8⟩
        exact ⟨q3, q4⟩

theorem c_refsOf (hx : Read v x h) (hf3 : ∀ c ∈ h, c.fields.length ≤ 3) : Mk Try.prog 56 #[x.val] v fun r J => ∃ y, r = y.val ∧ Own v y (refL h) J := by
  refine of56 _ _ _ ?_
  unfold vc56
  have hn := hx.n
  have hl := hx.le
  refine St.makeInts (.refl v) (by omega) (by omega) (by decide) ?_
  intro y w1 I1 hO hS hs
  refine ⟨_, rfl, ?_⟩
  refine ⟨fun i w => ∃ I, Own v y (refsW h h.length (words (h.take i.toNat))) I ∧ St v w (I ++ []) ∧ 0 ≤ i ∧ i ≤ h.length, fun i _ => (h.length - i).toNat, ⟨I1, ?_, hS, by omega, by omega⟩, ?_⟩
  · rw [hn] at hO; simpa [words, refsW_nil] using hO
  rintro i w ⟨I, hO, hS, h0, h1⟩
  dsimp only
  refine ⟨fun hi => ?_, fun hi => ?_⟩
  · simp only [decide_eq_true_eq, decide_eq_false_iff_not, Bool.and_eq_true, Bool.and_eq_false_iff, Bool.or_eq_true, Bool.or_eq_false_iff, Bool.not_eq_true', Bool.not_eq_false', Bool.not_true, Bool.not_false, Bool.false_eq_true, Bool.true_eq_false, Int.not_lt, Int.not_le, ge_iff_le, gt_iff_lt, Bool.not_eq_eq_eq_not, Bool.true_or, Bool.or_true, Bool.false_or, Bool.or_false, Bool.true_and, Bool.and_true, false_or, or_false, true_and, and_true, Decidable.not_not] at hi
    have hci := nth_mem h0 (l := h) (by omega)
    have hc3 := hf3 _ hci
    have hwl : (words (h.take i.toNat)).length ≤ 3 * h.length := by
      have := words_len (h := h.take i.toNat) (fun c hc => hf3 c (List.mem_of_mem_take hc))
      rw [List.length_take] at this; omega
    refine ⟨fun j w => ∃ I, Own v y (refsW h h.length (words (h.take i.toNat) ++ (nth h i).fields.take j.toNat)) I ∧ St v w (I ++ []) ∧ 0 ≤ j ∧ j ≤ (nth h i).fields.length, fun j _ => ((nth h i).fields.length - j).toNat, ⟨I, by simpa using hO, hS, by omega, by omega⟩, ?_⟩
    rintro j w ⟨I, hO, hS, j0, j1⟩
    dsimp only
    refine go_ix hx h0 (by omega) ?_
    refine ld_fields (hx.src hS.sub) h0 (by omega) ?_
    intro f hf
    have hfn := hf.n
    refine ⟨fun hj => ?_, fun hj => ?_⟩
    · simp only [decide_eq_true_eq, decide_eq_false_iff_not, Bool.and_eq_true, Bool.and_eq_false_iff, Bool.or_eq_true, Bool.or_eq_false_iff, Bool.not_eq_true', Bool.not_eq_false', Bool.not_true, Bool.not_false, Bool.false_eq_true, Bool.true_eq_false, Int.not_lt, Int.not_le, ge_iff_le, gt_iff_lt, Bool.not_eq_eq_eq_not, Bool.true_or, Bool.or_true, Bool.false_or, Bool.or_false, Bool.true_and, Bool.and_true, false_or, or_false, true_and, and_true, Decidable.not_not] at hj
      refine go_ix hx h0 (by omega) ?_
      refine ld_fields (hx.src hS.sub) h0 (by omega) ?_
      intro f2 hf2
      refine go_ix hf2 j0 (by omega) ?_
      refine ld_int (hf2.mono hS.sub) j0 (by omega) ?_
      intro a0 a1
      have hstep : (nth h i).fields.take (j + 1).toNat = (nth h i).fields.take j.toNat ++ [nth (nth h i).fields j] := take_nth j0 (by omega)
      refine ⟨_, c_isLive (hx.mono hS.sub) ⟨a0, a1⟩, fun hlv => ?_, fun hlv => ?_⟩
      · obtain ⟨p1, p2, p3⟩ := live_spec hlv
        refine go_ix hx h0 (by omega) ?_
        refine ld_fields (hx.src hS.sub) h0 (by omega) ?_
        intro f3 hf3'
        refine go_ix hf3' j0 (by omega) ?_
        refine ld_int (hf3'.mono hS.sub) j0 (by omega) ?_
        intro _ _
        refine go_wr (by omega) (by omega) ?_
        refine go_oix hO (by omega) (by rw [length_refsW]; omega) ?_
        refine ld_int (Own.read hO hS) (by omega) (by rw [length_refsW]; omega) ?_
        intro b0 b1
        have hc := (cnt_le h (words (h.take i.toNat) ++ (nth h i).fields.take j.toNat) (nth (nth h i).fields j - 1000).toNat)
        rw [← nth_refsW (h := h) (n := h.length) (by omega) (by omega), List.length_append, List.length_take] at hc
        refine go_wr (by omega) (by omega) ?_
        refine go_oix hO (by omega) (by rw [length_refsW]; omega) ?_
        refine st_int hO hS (by omega) (by rw [length_refsW]; omega) (by constructor <;> omega) ?_
        intro w2 I2 hO2 hS
        refine go_wr (by omega) (by omega) ?_
        refine ⟨⟨I2, ?_, hS, by omega, by omega⟩, by omega⟩
        rw [hstep, ← List.append_assoc, refsW_live hlv (Nat.le_refl _)]; exact hO2
      · refine go_wr (by omega) (by omega) ?_
        refine ⟨⟨I, ?_, hS, by omega, by omega⟩, by omega⟩
        rw [hstep, ← List.append_assoc, refsW_dead hlv]; exact hO
    · simp only [decide_eq_true_eq, decide_eq_false_iff_not, Bool.and_eq_true, Bool.and_eq_false_iff, Bool.or_eq_true, Bool.or_eq_false_iff, Bool.not_eq_true', Bool.not_eq_false', Bool.not_true, Bool.not_false, Bool.false_eq_true, Bool.true_eq_false, Int.not_lt, Int.not_le, ge_iff_le, gt_iff_lt, Bool.not_eq_eq_eq_not, Bool.true_or, Bool.or_true, Bool.false_or, Bool.or_false, Bool.true_and, Bool.and_true, false_or, or_false, true_and, and_true, Decidable.not_not] at hj
      refine go_wr (by omega) (by omega) ?_
      refine ⟨⟨I, ?_, hS, by omega, by omega⟩, by omega⟩
      rw [words_take h0 (by omega)]
      rw [take_all (l := (nth h i).fields) (by omega)] at hO; exact hO
  · simp only [decide_eq_true_eq, decide_eq_false_iff_not, Bool.and_eq_true, Bool.and_eq_false_iff, Bool.or_eq_true, Bool.or_eq_false_iff, Bool.not_eq_true', Bool.not_eq_false', Bool.not_true, Bool.not_false, Bool.false_eq_true, Bool.true_eq_false, Int.not_lt, Int.not_le, ge_iff_le, gt_iff_lt, Bool.not_eq_eq_eq_not, Bool.true_or, Bool.or_true, Bool.false_or, Bool.or_false, Bool.true_and, Bool.and_true, false_or, or_false, true_and, and_true, Decidable.not_not] at hi
    refine ⟨I, by simpa using hS, y, rfl, ?_⟩
    rw [take_all (by omega)] at hO; exact hO

theorem c_allMarked {ms : List Bool} (hx : Read v x ms) (hy : Read v y l) (hp : ∀ f ∈ l, 1000 ≤ f → f - 1000 < ms.length) : Fn Try.prog 86 #[x.val, y.val] v (.bool (@decide (allM ms l) (Classical.propDecidable _))) := by
  have vt : allM ms l → Value.bool true = .bool (@decide (allM ms l) (Classical.propDecidable _)) := fun h => by rw [@decide_eq_true _ (Classical.propDecidable _) h]
  have vf : ¬ allM ms l → Value.bool false = .bool (@decide (allM ms l) (Classical.propDecidable _)) := fun h => by rw [@decide_eq_false _ (Classical.propDecidable _) h]
  refine of86 _ _ _ _ ?_
  unfold vc86
  have hn := hy.n
  have hl := hy.le
  refine ⟨fun i w => St v w [] ∧ 0 ≤ i ∧ i ≤ l.length ∧ allM ms (l.take i.toNat), fun i _ => (l.length - i).toNat, ⟨.refl v, by omega, by omega, by intro f hf; simp at hf⟩, ?_⟩
  rintro i w ⟨hS, h0, h1, h2⟩
  dsimp only
  refine ⟨fun hi => ?_, fun hi => ?_⟩
  · simp only [decide_eq_true_eq, decide_eq_false_iff_not, Bool.and_eq_true, Bool.and_eq_false_iff, Bool.or_eq_true, Bool.or_eq_false_iff, Bool.not_eq_true', Bool.not_eq_false', Bool.not_true, Bool.not_false, Bool.false_eq_true, Bool.true_eq_false, Int.not_lt, Int.not_le, ge_iff_le, gt_iff_lt, Bool.not_eq_eq_eq_not, Bool.true_or, Bool.or_true, Bool.false_or, Bool.or_false, Bool.true_and, Bool.and_true, false_or, or_false, true_and, and_true, Decidable.not_not] at hi
    have hm := nth_mem (l := l) h0 (by omega)
    refine go_ix hy h0 (by omega) ?_
    refine ld_int (hy.mono hS.sub) h0 (by omega) ?_
    intro a0 a1
    refine ⟨_, c_isPointer, ?_⟩
    refine ⟨fun hc => hy.ix h0 (by omega), ?_⟩
    refine ld_intg (hy.mono hS.sub) (fun hc => ⟨h0, by omega⟩) ?_
    refine ⟨nth l i - 1000, fun hc => wrap_i64 (by simp only [decide_eq_true_eq, decide_eq_false_iff_not, Bool.and_eq_true, Bool.and_eq_false_iff, Bool.or_eq_true, Bool.or_eq_false_iff, Bool.not_eq_true', Bool.not_eq_false', Bool.not_true, Bool.not_false, Bool.false_eq_true, Bool.true_eq_false, Int.not_lt, Int.not_le, ge_iff_le, gt_iff_lt, Bool.not_eq_eq_eq_not, Bool.true_or, Bool.or_true, Bool.false_or, Bool.or_false, Bool.true_and, Bool.and_true, false_or, or_false, true_and, and_true, Decidable.not_not] at hc; omega) (by omega), ?_⟩
    refine ⟨fun hc => hx.ix (by simp only [decide_eq_true_eq, decide_eq_false_iff_not, Bool.and_eq_true, Bool.and_eq_false_iff, Bool.or_eq_true, Bool.or_eq_false_iff, Bool.not_eq_true', Bool.not_eq_false', Bool.not_true, Bool.not_false, Bool.false_eq_true, Bool.true_eq_false, Int.not_lt, Int.not_le, ge_iff_le, gt_iff_lt, Bool.not_eq_eq_eq_not, Bool.true_or, Bool.or_true, Bool.false_or, Bool.or_false, Bool.true_and, Bool.and_true, false_or, or_false, true_and, and_true, Decidable.not_not] at hc; omega) (hp _ hm (by simp only [decide_eq_true_eq, decide_eq_false_iff_not, Bool.and_eq_true, Bool.and_eq_false_iff, Bool.or_eq_true, Bool.or_eq_false_iff, Bool.not_eq_true', Bool.not_eq_false', Bool.not_true, Bool.not_false, Bool.false_eq_true, Bool.true_eq_false, Int.not_lt, Int.not_le, ge_iff_le, gt_iff_lt, Bool.not_eq_eq_eq_not, Bool.true_or, Bool.or_true, Bool.false_or, Bool.or_false, Bool.true_and, Bool.and_true, false_or, or_false, true_and, and_true, Decidable.not_not] at hc; omega)), ?_⟩
    refine ld_boolg (hx.mono hS.sub) (fun hc => ⟨by simp only [decide_eq_true_eq, decide_eq_false_iff_not, Bool.and_eq_true, Bool.and_eq_false_iff, Bool.or_eq_true, Bool.or_eq_false_iff, Bool.not_eq_true', Bool.not_eq_false', Bool.not_true, Bool.not_false, Bool.false_eq_true, Bool.true_eq_false, Int.not_lt, Int.not_le, ge_iff_le, gt_iff_lt, Bool.not_eq_eq_eq_not, Bool.true_or, Bool.or_true, Bool.false_or, Bool.or_false, Bool.true_and, Bool.and_true, false_or, or_false, true_and, and_true, Decidable.not_not] at hc; omega, hp _ hm (by simp only [decide_eq_true_eq, decide_eq_false_iff_not, Bool.and_eq_true, Bool.and_eq_false_iff, Bool.or_eq_true, Bool.or_eq_false_iff, Bool.not_eq_true', Bool.not_eq_false', Bool.not_true, Bool.not_false, Bool.false_eq_true, Bool.true_eq_false, Int.not_lt, Int.not_le, ge_iff_le, gt_iff_lt, Bool.not_eq_eq_eq_not, Bool.true_or, Bool.or_true, Bool.false_or, Bool.or_false, Bool.true_and, Bool.and_true, false_or, or_false, true_and, and_true, Decidable.not_not] at hc; omega)⟩) ?_
    refine ⟨fun hc => ?_, fun hc => ?_⟩
    · simp only [decide_eq_true_eq, decide_eq_false_iff_not, Bool.and_eq_true, Bool.and_eq_false_iff, Bool.or_eq_true, Bool.or_eq_false_iff, Bool.not_eq_true', Bool.not_eq_false', Bool.not_true, Bool.not_false, Bool.false_eq_true, Bool.true_eq_false, Int.not_lt, Int.not_le, ge_iff_le, gt_iff_lt, Bool.not_eq_eq_eq_not, Bool.true_or, Bool.or_true, Bool.false_or, Bool.or_false, Bool.true_and, Bool.and_true, false_or, or_false, true_and, and_true, Decidable.not_not] at hc
      refine ⟨vf fun hh => ?_, hS.sub⟩
      have := hh _ hm hc.1
      rw [hc.2] at this; cases this
    · simp only [decide_eq_true_eq, decide_eq_false_iff_not, Bool.and_eq_true, Bool.and_eq_false_iff, Bool.or_eq_true, Bool.or_eq_false_iff, Bool.not_eq_true', Bool.not_eq_false', Bool.not_true, Bool.not_false, Bool.false_eq_true, Bool.true_eq_false, Int.not_lt, Int.not_le, ge_iff_le, gt_iff_lt, Bool.not_eq_eq_eq_not, Bool.true_or, Bool.or_true, Bool.false_or, Bool.or_false, Bool.true_and, Bool.and_true, false_or, or_false, true_and, and_true, Decidable.not_not] at hc
      refine go_wr (by omega) (by omega) ?_
      refine ⟨⟨hS, by omega, by omega, ?_⟩, by omega⟩
      rw [take_nth h0 (by omega)]; intro k hk hk1
      rcases List.mem_append.1 hk with hk | hk
      · exact h2 k hk hk1
      · rw [List.mem_singleton.1 hk] at hk1 ⊢
        rcases hc with hc | hc
        · omega
        · exact hc
  · simp only [decide_eq_true_eq, decide_eq_false_iff_not, Bool.and_eq_true, Bool.and_eq_false_iff, Bool.or_eq_true, Bool.or_eq_false_iff, Bool.not_eq_true', Bool.not_eq_false', Bool.not_true, Bool.not_false, Bool.false_eq_true, Bool.true_eq_false, Int.not_lt, Int.not_le, ge_iff_le, gt_iff_lt, Bool.not_eq_eq_eq_not, Bool.true_or, Bool.or_true, Bool.false_or, Bool.or_false, Bool.true_and, Bool.and_true, false_or, or_false, true_and, and_true, Decidable.not_not] at hi
    rw [take_all (by omega)] at h2
    exact ⟨vt h2, hS.sub⟩
end
end Go.Vc

namespace Go.Vc
open Go Go.Proofs Go.RowKit
set_option linter.all false
section
variable {u v w : World} {x y : Sl} {l m : List Int} {h : List CellD} {n k : Int} {a : Addr} {I J L R : Items} {F : Items → Items}

theorem c_isAcyclic (hx : Read v x h) (hw : wordsOk h) : Fn Try.prog 82 #[x.val] v (.bool (acycB h)) := by
  refine of82 _ _ _ ?_
  unfold vc82
  have hn := hx.n
  have hl := hx.le
  refine St.makeBools (.refl v) (by omega) (by omega) (by decide) ?_
  intro y w1 I1 hO hS hs
  refine ⟨_, rfl, ?_⟩
  let Inv : List Bool → Int → Prop := fun ms many => ms.length = h.length ∧ many = (ms.count true : Nat) ∧ ∃ rk, Rk h ms rk many
  refine ⟨fun many more w => ∃ I ms, Own v y ms I ∧ St v w (I ++ []) ∧ Inv ms many ∧ (more = false → ∀ i : Int, 0 ≤ i → i < h.length → nth ms i = false → ¬ allM ms (nth h i).fields),
    fun many more _ => (2 * (h.length - many) + if more then 1 else 0).toNat, ⟨I1, _, hO, hS, ⟨by simp; omega, by simp [List.count_replicate], fun _ => 0, fun i h0 h1 hm => ?_⟩, by simp⟩, ?_⟩
  · have : nth (List.replicate (x.n : Int).toNat false) i = false := nth_of (List.getElem?_replicate_of_lt (by omega))
    rw [this] at hm; cases hm
  rintro many more w ⟨I, ms, hO, hS, ⟨hml, hmc, rk, hrk⟩, hstop⟩
  dsimp only
  have hcl : ms.count true ≤ ms.length := List.count_le_length
  refine ⟨fun hmore => ?_, fun hmore => ?_⟩
  · refine ⟨fun many' more' j w => ∃ I ms', Own v y ms' I ∧ St v w (I ++ []) ∧ Inv ms' many' ∧ 0 ≤ j ∧ j ≤ h.length ∧ many ≤ many' ∧ (more' = true → many < many') ∧
        (more' = false → ∀ i : Int, 0 ≤ i → i < j → nth ms' i = false → ¬ allM ms' (nth h i).fields),
      fun _ _ j _ => (h.length - j).toNat, ⟨I, ms, hO, hS, ⟨hml, hmc, rk, hrk⟩, by omega, by omega, by omega, by simp, fun _ i h0 h1 => by omega⟩, ?_⟩
    rintro many' more' j w' ⟨I', ms', hO', hS', ⟨hml', hmc', rk', hrk'⟩, j0, j1, hge, ht, hf⟩
    dsimp only
    have hS := hS'
    have hcl' : ms'.count true ≤ ms'.length := List.count_le_length
    refine ⟨fun hj => ?_, fun hj => ?_⟩
    · simp only [decide_eq_true_eq, decide_eq_false_iff_not, Bool.and_eq_true, Bool.and_eq_false_iff, Bool.or_eq_true, Bool.or_eq_false_iff, Bool.not_eq_true', Bool.not_eq_false', Bool.not_true, Bool.not_false, Bool.false_eq_true, Bool.true_eq_false, Int.not_lt, Int.not_le, ge_iff_le, gt_iff_lt, Bool.not_eq_eq_eq_not, Bool.true_or, Bool.or_true, Bool.false_or, Bool.or_false, Bool.true_and, Bool.and_true, false_or, or_false, true_and, and_true, Decidable.not_not] at hj
      refine go_oix hO' j0 (by omega) ?_
      refine ld_bool (Own.read hO' hS) j0 (by omega) ?_
      refine ⟨fun _ => hx.ix j0 (by omega), ?_⟩
      refine ld_fieldsg (hx.src hS.sub) (fun _ => ⟨j0, by omega⟩) ?_
      intro f hfl
      refine ⟨_, fun hc => c_allMarked (Own.read hO' hS) ((hfl hc).mono hS.sub) (fun g hg hp => by rw [hml']; exact (live_spec (hw.ptr j0 (by omega) g hg hp)).2.1), ?_⟩
      refine ⟨fun hc => ?_, fun hc => ?_⟩
      · simp only [Bool.and_eq_true, Bool.not_eq_true'] at hc
        have ha := @of_decide_eq_true _ (Classical.propDecidable _) hc.2
        refine go_oix hO' j0 (by omega) ?_
        refine st_bool hO' hS j0 (by omega) ?_
        intro w2 I2 hO2 hS
        have hcnt := count_set_true (m := ms') j0 (by omega) hc.1
        refine go_wr (by omega) (by omega) ?_
        refine go_wr (by omega) (by omega) ?_
        exact ⟨⟨I2, _, hO2, hS, ⟨by simpa using hml', by rw [hcnt]; omega, _, hrk'.grow hml' (by omega) j0 (by omega) hc.1 ha hw⟩, by omega, by omega, by omega, fun _ => by omega, fun h => by cases h⟩, by omega⟩
      · refine go_wr (by omega) (by omega) ?_
        refine ⟨⟨I', ms', hO', hS, ⟨hml', hmc', rk', hrk'⟩, by omega, by omega, hge, ht, fun hm i h0 h1 hu => ?_⟩, by omega⟩
        rcases Int.lt_or_le i j with hlt | hge
        · exact hf hm i h0 hlt hu
        · have : i = j := by omega
          subst this
          intro ha
          rw [hu, @decide_eq_true _ (Classical.propDecidable _) ha] at hc
          cases hc
    · simp only [decide_eq_true_eq, decide_eq_false_iff_not, Bool.and_eq_true, Bool.and_eq_false_iff, Bool.or_eq_true, Bool.or_eq_false_iff, Bool.not_eq_true', Bool.not_eq_false', Bool.not_true, Bool.not_false, Bool.false_eq_true, Bool.true_eq_false, Int.not_lt, Int.not_le, ge_iff_le, gt_iff_lt, Bool.not_eq_eq_eq_not, Bool.true_or, Bool.or_true, Bool.false_or, Bool.or_false, Bool.true_and, Bool.and_true, false_or, or_false, true_and, and_true, Decidable.not_not] at hj
      refine ⟨⟨I', ms', hO', hS, ⟨hml', hmc', rk', hrk'⟩, fun hm i h0 h1 hu => hf hm i h0 (by omega) hu⟩, ?_⟩
      rw [hmore]
      cases hm : more' with
      | true => have := ht hm; simp; omega
      | false => simp; omega
  · refine ⟨?_, hS.sub⟩
    have := acyc_of_marks hrk hml hw hmc (hstop hmore)
    congr 1
    apply Bool.eq_iff_iff.2
    rw [acycB_iff, ← this, decide_eq_true_eq, hn]

theorem mem_nth {h : List CellD} {c : CellD} (hc : c ∈ h) : ∃ i : Int, 0 ≤ i ∧ i < h.length ∧ nth h i = c := by
  obtain ⟨i, hi, rfl⟩ := List.getElem_of_mem hc
  exact ⟨i, by omega, by omega, nth_nat hi⟩

theorem vcell_word {h : List CellD} {c : CellD} (hc : vcell h c = true) : ∀ f ∈ c.fields, word h f = true := by
  intro f hf
  have := vcell_i hc
  simp only [icell, Bool.and_eq_true, List.all_eq_true] at this
  exact (this.2 f hf).1

theorem c_validHeap (hx : Read v x h) : Fn Try.prog 68 #[x.val] v (.bool (vheapB h)) := by
  have vf : ¬ vheap h → Value.bool false = .bool (vheapB h) := fun hh => by rw [Bool.eq_false_iff.2 (fun e => hh (vheapB_iff.1 e))]
  refine of68 _ _ _ ?_
  unfold vc68
  have hn := hx.n
  have hl := hx.le
  have hS := St.refl v
  refine ⟨(x.n : Int) - 1, fun hc => wrap_i64 (by omega) (by omega), fun hc => hx.ix (by simp only [decide_eq_true_eq, decide_eq_false_iff_not, Bool.and_eq_true, Bool.and_eq_false_iff, Bool.or_eq_true, Bool.or_eq_false_iff, Bool.not_eq_true', Bool.not_eq_false', Bool.not_true, Bool.not_false, Bool.false_eq_true, Bool.true_eq_false, Int.not_lt, Int.not_le, ge_iff_le, gt_iff_lt, Bool.not_eq_eq_eq_not, Bool.true_or, Bool.or_true, Bool.false_or, Bool.or_false, Bool.true_and, Bool.and_true, false_or, or_false, true_and, and_true, Decidable.not_not] at hc; omega) (by omega), ?_⟩
  refine ld_countg (hx.src hS.sub) (fun hc => ⟨by simp only [decide_eq_true_eq, decide_eq_false_iff_not, Bool.and_eq_true, Bool.and_eq_false_iff, Bool.or_eq_true, Bool.or_eq_false_iff, Bool.not_eq_true', Bool.not_eq_false', Bool.not_true, Bool.not_false, Bool.false_eq_true, Bool.true_eq_false, Int.not_lt, Int.not_le, ge_iff_le, gt_iff_lt, Bool.not_eq_eq_eq_not, Bool.true_or, Bool.or_true, Bool.false_or, Bool.or_false, Bool.true_and, Bool.and_true, false_or, or_false, true_and, and_true, Decidable.not_not] at hc; omega, by omega⟩) ?_
  refine ⟨fun hc => ?_, fun hc => ?_⟩
  · simp only [decide_eq_true_eq, decide_eq_false_iff_not, Bool.and_eq_true, Bool.and_eq_false_iff, Bool.or_eq_true, Bool.or_eq_false_iff, Bool.not_eq_true', Bool.not_eq_false', Bool.not_true, Bool.not_false, Bool.false_eq_true, Bool.true_eq_false, Int.not_lt, Int.not_le, ge_iff_le, gt_iff_lt, Bool.not_eq_eq_eq_not, Bool.true_or, Bool.or_true, Bool.false_or, Bool.or_false, Bool.true_and, Bool.and_true, false_or, or_false, true_and, and_true, Decidable.not_not] at hc
    refine ⟨vf fun hh => hh.1 (by omega) ?_, .refl v⟩
    rw [← hn]; exact hc.2
  · simp only [decide_eq_true_eq, decide_eq_false_iff_not, Bool.and_eq_true, Bool.and_eq_false_iff, Bool.or_eq_true, Bool.or_eq_false_iff, Bool.not_eq_true', Bool.not_eq_false', Bool.not_true, Bool.not_false, Bool.false_eq_true, Bool.true_eq_false, Int.not_lt, Int.not_le, ge_iff_le, gt_iff_lt, Bool.not_eq_eq_eq_not, Bool.true_or, Bool.or_true, Bool.false_or, Bool.or_false, Bool.true_and, Bool.and_true, false_or, or_false, true_and, and_true, Decidable.not_not] at hc
    have hlast : lastOk h := fun hp => by rw [← hn]; rcases hc with hc | hc; omega; exact hc
    refine ⟨fun i w => St v w [] ∧ 0 ≤ i ∧ i ≤ h.length ∧ ∀ c ∈ h.take i.toNat, vcell h c = true, fun i _ => (h.length - i).toNat, ⟨.refl v, by omega, by omega, by simp⟩, ?_⟩
    rintro i w ⟨hS, h0, h1, h2⟩
    dsimp only
    refine ⟨fun hi => ?_, fun hi => ?_⟩
    · simp only [decide_eq_true_eq, decide_eq_false_iff_not, Bool.and_eq_true, Bool.and_eq_false_iff, Bool.or_eq_true, Bool.or_eq_false_iff, Bool.not_eq_true', Bool.not_eq_false', Bool.not_true, Bool.not_false, Bool.false_eq_true, Bool.true_eq_false, Int.not_lt, Int.not_le, ge_iff_le, gt_iff_lt, Bool.not_eq_eq_eq_not, Bool.true_or, Bool.or_true, Bool.false_or, Bool.or_false, Bool.true_and, Bool.and_true, false_or, or_false, true_and, and_true, Decidable.not_not] at hi
      have hm := nth_mem (l := h) h0 (by omega)
      refine go_ix hx h0 (by omega) ?_
      refine ld_cell (hx.src hS.sub) h0 (by omega) ?_
      intro f hf hcI htI
      refine ⟨_, c_validCell (hx.mono hS.sub) (hf.mono hS.sub) hcI htI, fun hv => ?_, fun hv => ?_⟩
      · simp only [decide_eq_true_eq, decide_eq_false_iff_not, Bool.and_eq_true, Bool.and_eq_false_iff, Bool.or_eq_true, Bool.or_eq_false_iff, Bool.not_eq_true', Bool.not_eq_false', Bool.not_true, Bool.not_false, Bool.false_eq_true, Bool.true_eq_false, Int.not_lt, Int.not_le, ge_iff_le, gt_iff_lt, Bool.not_eq_eq_eq_not, Bool.true_or, Bool.or_true, Bool.false_or, Bool.or_false, Bool.true_and, Bool.and_true, false_or, or_false, true_and, and_true, Decidable.not_not] at hv
        exact ⟨vf fun hh => (by have := hh.2.1 _ hm; rw [hv] at this; exact Bool.noConfusion this), hS.sub⟩
      · simp only [decide_eq_true_eq, decide_eq_false_iff_not, Bool.and_eq_true, Bool.and_eq_false_iff, Bool.or_eq_true, Bool.or_eq_false_iff, Bool.not_eq_true', Bool.not_eq_false', Bool.not_true, Bool.not_false, Bool.false_eq_true, Bool.true_eq_false, Int.not_lt, Int.not_le, ge_iff_le, gt_iff_lt, Bool.not_eq_eq_eq_not, Bool.true_or, Bool.or_true, Bool.false_or, Bool.or_false, Bool.true_and, Bool.and_true, false_or, or_false, true_and, and_true, Decidable.not_not] at hv
        refine go_wr (by omega) (by omega) ?_
        refine ⟨⟨hS, by omega, by omega, ?_⟩, by omega⟩
        rw [take_nth h0 (by omega)]; intro k hk
        rcases List.mem_append.1 hk with hk | hk
        · exact h2 k hk
        · rw [List.mem_singleton.1 hk]; exact hv
    · simp only [decide_eq_true_eq, decide_eq_false_iff_not, Bool.and_eq_true, Bool.and_eq_false_iff, Bool.or_eq_true, Bool.or_eq_false_iff, Bool.not_eq_true', Bool.not_eq_false', Bool.not_true, Bool.not_false, Bool.false_eq_true, Bool.true_eq_false, Int.not_lt, Int.not_le, ge_iff_le, gt_iff_lt, Bool.not_eq_eq_eq_not, Bool.true_or, Bool.or_true, Bool.false_or, Bool.or_false, Bool.true_and, Bool.and_true, false_or, or_false, true_and, and_true, Decidable.not_not] at hi
      rw [take_all (by omega)] at h2
      have hf3 : ∀ c ∈ h, c.fields.length ≤ 3 := fun c hc => icell_len (vcell_i (h2 c hc))
      refine Mk.use (c_refsOf hx hf3) hS ?_
      rintro _ w2 J ⟨y, rfl, hO⟩ hS hsub
      refine ⟨_, rfl, ?_⟩
      have hrl := length_refs h
      refine ⟨fun i w => St v w (J ++ []) ∧ 0 ≤ i ∧ i ≤ h.length ∧ ∀ k : Nat, k < i → 0 < (nth h k).count → nth (refL h) k ≤ (nth h k).count, fun i _ => (h.length - i).toNat, ⟨hS, by omega, by omega, by omega⟩, ?_⟩
      rintro i w ⟨hS, h0, h1, h3⟩
      dsimp only
      refine ⟨fun hi => ?_, fun hi => ?_⟩
      · simp only [decide_eq_true_eq, decide_eq_false_iff_not, Bool.and_eq_true, Bool.and_eq_false_iff, Bool.or_eq_true, Bool.or_eq_false_iff, Bool.not_eq_true', Bool.not_eq_false', Bool.not_true, Bool.not_false, Bool.false_eq_true, Bool.true_eq_false, Int.not_lt, Int.not_le, ge_iff_le, gt_iff_lt, Bool.not_eq_eq_eq_not, Bool.true_or, Bool.or_true, Bool.false_or, Bool.or_false, Bool.true_and, Bool.and_true, false_or, or_false, true_and, and_true, Decidable.not_not] at hi
        refine go_ix hx h0 (by omega) ?_
        refine ld_count (hx.src hS.sub) h0 (by omega) ?_
        intro b0 b1
        refine ⟨fun _ => hx.ix h0 (by omega), ?_⟩
        refine ld_countg (hx.src hS.sub) (fun hc => ⟨h0, by omega⟩) ?_
        refine ⟨fun _ => hO.ix h0 (by omega), ?_⟩
        refine ld_intg (Own.read hO hS) (fun hc => ⟨h0, by omega⟩) ?_
        refine ⟨fun hc => ?_, fun hc => ?_⟩
        · simp only [decide_eq_true_eq, decide_eq_false_iff_not, Bool.and_eq_true, Bool.and_eq_false_iff, Bool.or_eq_true, Bool.or_eq_false_iff, Bool.not_eq_true', Bool.not_eq_false', Bool.not_true, Bool.not_false, Bool.false_eq_true, Bool.true_eq_false, Int.not_lt, Int.not_le, ge_iff_le, gt_iff_lt, Bool.not_eq_eq_eq_not, Bool.true_or, Bool.or_true, Bool.false_or, Bool.or_false, Bool.true_and, Bool.and_true, false_or, or_false, true_and, and_true, Decidable.not_not] at hc
          refine ⟨vf fun hh => ?_, hS.sub⟩
          have := hh.2.2.1 i.toNat (by omega) (by rw [Int.toNat_of_nonneg h0]; omega)
          rw [Int.toNat_of_nonneg h0] at this
          omega
        · simp only [decide_eq_true_eq, decide_eq_false_iff_not, Bool.and_eq_true, Bool.and_eq_false_iff, Bool.or_eq_true, Bool.or_eq_false_iff, Bool.not_eq_true', Bool.not_eq_false', Bool.not_true, Bool.not_false, Bool.false_eq_true, Bool.true_eq_false, Int.not_lt, Int.not_le, ge_iff_le, gt_iff_lt, Bool.not_eq_eq_eq_not, Bool.true_or, Bool.or_true, Bool.false_or, Bool.or_false, Bool.true_and, Bool.and_true, false_or, or_false, true_and, and_true, Decidable.not_not] at hc
          refine go_wr (by omega) (by omega) ?_
          refine ⟨⟨hS, by omega, by omega, fun k hk hp => ?_⟩, by omega⟩
          by_cases e : (k : Int) < i
          · exact h3 k e hp
          · have : (k : Int) = i := by omega
            rw [this] at hp ⊢; omega
      · simp only [decide_eq_true_eq, decide_eq_false_iff_not, Bool.and_eq_true, Bool.and_eq_false_iff, Bool.or_eq_true, Bool.or_eq_false_iff, Bool.not_eq_true', Bool.not_eq_false', Bool.not_true, Bool.not_false, Bool.false_eq_true, Bool.true_eq_false, Int.not_lt, Int.not_le, ge_iff_le, gt_iff_lt, Bool.not_eq_eq_eq_not, Bool.true_or, Bool.or_true, Bool.false_or, Bool.or_false, Bool.true_and, Bool.and_true, false_or, or_false, true_and, and_true, Decidable.not_not] at hi
        refine ⟨_, c_isAcyclic (hx.mono hS.sub) (fun c hc => vcell_word (h2 c hc)), ?_, hS.sub⟩
        congr 1
        apply Bool.eq_iff_iff.2
        rw [acycB_iff, vheapB_iff]
        exact ⟨fun ha => ⟨hlast, h2, fun k hk hp => h3 k (by omega) hp, ha⟩, fun hh => hh.2.2.2⟩

end
end Go.Vc

namespace Go.Vc
open Go Go.Proofs Go.RowKit
set_option linter.all false
section
variable {u v w : World} {x y : Sl} {l m : List Int} {h : List CellD} {n k : Int} {a : Addr} {I J L R : Items} {F : Items → Items}

theorem c_liveAt (hx : Read v x h) (hn : InI n) : Fn Try.prog 52 #[x.val, .int .i64 n] v (.tuple #[.int .i64 (atI n), .bool (live h n)]) := by
  refine of52 _ _ _ _ ?_
  unfold vc52
  have hxn := hx.n
  have hl := hx.le
  have hS := St.refl v
  refine go_at ?_
  have key : (decide (n ≥ 1000) && decide (atI n < (x.n : Int))) = true → atI n = n - 1000 ∧ 0 ≤ atI n ∧ atI n < h.length := by
    intro hc
    simp only [decide_eq_true_eq, decide_eq_false_iff_not, Bool.and_eq_true, Bool.and_eq_false_iff, Bool.or_eq_true, Bool.or_eq_false_iff, Bool.not_eq_true', Bool.not_eq_false', Bool.not_true, Bool.not_false, Bool.false_eq_true, Bool.true_eq_false, Int.not_lt, Int.not_le, ge_iff_le, gt_iff_lt, Bool.not_eq_eq_eq_not, Bool.true_or, Bool.or_true, Bool.false_or, Bool.or_false, Bool.true_and, Bool.and_true, false_or, or_false, true_and, and_true, Decidable.not_not] at hc
    have := atI_of hc.1 hn.2
    omega
  refine ⟨fun hc => hx.ix (key hc).2.1 (key hc).2.2, ?_⟩
  refine ld_countg (hx.src hS.sub) (fun hc => (key hc).2) ?_
  refine ⟨?_, hS.sub⟩
  have : (decide (n ≥ 1000) && decide (atI n < (x.n : Int)) && decide ((nth h (atI n)).count > 0)) = live h n := by
    apply Bool.eq_iff_iff.2
    simp only [live, decide_eq_true_eq, decide_eq_false_iff_not, Bool.and_eq_true, Bool.and_eq_false_iff, Bool.or_eq_true, Bool.or_eq_false_iff, Bool.not_eq_true', Bool.not_eq_false', Bool.not_true, Bool.not_false, Bool.false_eq_true, Bool.true_eq_false, Int.not_lt, Int.not_le, ge_iff_le, gt_iff_lt, Bool.not_eq_eq_eq_not, Bool.true_or, Bool.or_true, Bool.false_or, Bool.or_false, Bool.true_and, Bool.and_true, false_or, or_false, true_and, and_true, Decidable.not_not]
    constructor
    · rintro ⟨⟨h1, h2⟩, h3⟩
      have := atI_of h1 hn.2
      rw [this] at h2 h3
      exact ⟨⟨h1, by omega⟩, h3⟩
    · rintro ⟨⟨h1, h2⟩, h3⟩
      have := atI_of h1 hn.2
      rw [this]
      exact ⟨⟨h1, by omega⟩, h3⟩
  rw [this]

theorem live_at {n : Int} (hl : live h n = true) (hn : n ≤ 9223372036854775807) : atI n = n - 1000 := atI_of (live_spec hl).1 hn

theorem c_wordValid (hx : Read v x h) (hn : InI n) : Fn Try.prog 50 #[x.val, .int .i64 n] v (.bool (word h n)) := by
  refine of50 _ _ _ _ ?_
  unfold vc50
  refine ⟨_, _, c_liveAt hx hn, _, fun _ => c_isInt, ?_, .refl v⟩
  rw [word, Bool.or_comm]

theorem c_cellValid {c : CellD} {f : Sl} (hx : Read v x h) (hf : Read v f c.fields) (hc : InI c.count) (ht : InI c.tag) : Fn Try.prog 77 #[x.val, .agg #[.int .i64 c.count, .int .i64 c.tag, f.val]] v (.bool (icell h c)) := by
  refine of77 _ _ _ _ _ _ ?_
  unfold vc77
  have hfn := hf.n
  have hl := hf.le
  have vf : ¬ icell h c = true → Value.bool false = .bool (icell h c) := fun hh => by rw [Bool.eq_false_iff.2 hh]
  have vt : icell h c = true → Value.bool true = .bool (icell h c) := fun hh => by rw [hh]
  refine ⟨fun hc => ?_, fun hc => ⟨fun hc1 => ?_, fun hc1 => ?_⟩⟩
  · simp only [decide_eq_true_eq, decide_eq_false_iff_not, Bool.and_eq_true, Bool.and_eq_false_iff, Bool.or_eq_true, Bool.or_eq_false_iff, Bool.not_eq_true', Bool.not_eq_false', Bool.not_true, Bool.not_false, Bool.false_eq_true, Bool.true_eq_false, Int.not_lt, Int.not_le, ge_iff_le, gt_iff_lt, Bool.not_eq_eq_eq_not, Bool.true_or, Bool.or_true, Bool.false_or, Bool.or_false, Bool.true_and, Bool.and_true, false_or, or_false, true_and, and_true, Decidable.not_not] at hc
    refine ⟨vf ?_, .refl v⟩
    simp only [icell, decide_eq_true_eq, decide_eq_false_iff_not, Bool.and_eq_true, Bool.and_eq_false_iff, Bool.or_eq_true, Bool.or_eq_false_iff, Bool.not_eq_true', Bool.not_eq_false', Bool.not_true, Bool.not_false, Bool.false_eq_true, Bool.true_eq_false, Int.not_lt, Int.not_le, ge_iff_le, gt_iff_lt, Bool.not_eq_eq_eq_not, Bool.true_or, Bool.or_true, Bool.false_or, Bool.or_false, Bool.true_and, Bool.and_true, false_or, or_false, true_and, and_true, Decidable.not_not]; omega
  · simp only [decide_eq_true_eq, decide_eq_false_iff_not, Bool.and_eq_true, Bool.and_eq_false_iff, Bool.or_eq_true, Bool.or_eq_false_iff, Bool.not_eq_true', Bool.not_eq_false', Bool.not_true, Bool.not_false, Bool.false_eq_true, Bool.true_eq_false, Int.not_lt, Int.not_le, ge_iff_le, gt_iff_lt, Bool.not_eq_eq_eq_not, Bool.true_or, Bool.or_true, Bool.false_or, Bool.or_false, Bool.true_and, Bool.and_true, false_or, or_false, true_and, and_true, Decidable.not_not] at hc hc1
    refine ⟨vf ?_, .refl v⟩
    simp only [icell, decide_eq_true_eq, decide_eq_false_iff_not, Bool.and_eq_true, Bool.and_eq_false_iff, Bool.or_eq_true, Bool.or_eq_false_iff, Bool.not_eq_true', Bool.not_eq_false', Bool.not_true, Bool.not_false, Bool.false_eq_true, Bool.true_eq_false, Int.not_lt, Int.not_le, ge_iff_le, gt_iff_lt, Bool.not_eq_eq_eq_not, Bool.true_or, Bool.or_true, Bool.false_or, Bool.or_false, Bool.true_and, Bool.and_true, false_or, or_false, true_and, and_true, Decidable.not_not]
    rintro ⟨⟨⟨⟨⟨⟨h1, h2⟩, h3⟩, h4⟩, h5⟩, h6⟩, h7⟩
    rcases hc1 with hc1 | hc1
    · exact hc1.2 (h5 hc1.1)
    · have := h6 hc1.1
      rw [this] at hfn
      simp at hfn
      omega
  · simp only [decide_eq_true_eq, decide_eq_false_iff_not, Bool.and_eq_true, Bool.and_eq_false_iff, Bool.or_eq_true, Bool.or_eq_false_iff, Bool.not_eq_true', Bool.not_eq_false', Bool.not_true, Bool.not_false, Bool.false_eq_true, Bool.true_eq_false, Int.not_lt, Int.not_le, ge_iff_le, gt_iff_lt, Bool.not_eq_eq_eq_not, Bool.true_or, Bool.or_true, Bool.false_or, Bool.or_false, Bool.true_and, Bool.and_true, false_or, or_false, true_and, and_true, Decidable.not_not] at hc hc1
    refine ⟨fun i w => St v w [] ∧ 0 ≤ i ∧ i ≤ c.fields.length ∧ ∀ g ∈ c.fields.take i.toNat, word h g = true ∧ (c.count < 0 → g = 0), fun i _ => (c.fields.length - i).toNat, ⟨.refl v, by omega, by omega, by simp⟩, ?_⟩
    rintro i w ⟨hS, h0, h1, h2⟩
    dsimp only
    refine ⟨fun hi => ?_, fun hi => ?_⟩
    · simp only [decide_eq_true_eq, decide_eq_false_iff_not, Bool.and_eq_true, Bool.and_eq_false_iff, Bool.or_eq_true, Bool.or_eq_false_iff, Bool.not_eq_true', Bool.not_eq_false', Bool.not_true, Bool.not_false, Bool.false_eq_true, Bool.true_eq_false, Int.not_lt, Int.not_le, ge_iff_le, gt_iff_lt, Bool.not_eq_eq_eq_not, Bool.true_or, Bool.or_true, Bool.false_or, Bool.or_false, Bool.true_and, Bool.and_true, false_or, or_false, true_and, and_true, Decidable.not_not] at hi
      refine go_ix hf h0 (by omega) ?_
      refine ld_int (hf.mono hS.sub) h0 (by omega) ?_
      intro a0 a1
      refine ⟨_, c_wordValid (hx.mono hS.sub) ⟨a0, a1⟩, fun hw => ?_, fun hw => ?_⟩
      · refine ⟨vf ?_, hS.sub⟩
        simp only [decide_eq_true_eq, decide_eq_false_iff_not, Bool.and_eq_true, Bool.and_eq_false_iff, Bool.or_eq_true, Bool.or_eq_false_iff, Bool.not_eq_true', Bool.not_eq_false', Bool.not_true, Bool.not_false, Bool.false_eq_true, Bool.true_eq_false, Int.not_lt, Int.not_le, ge_iff_le, gt_iff_lt, Bool.not_eq_eq_eq_not, Bool.true_or, Bool.or_true, Bool.false_or, Bool.or_false, Bool.true_and, Bool.and_true, false_or, or_false, true_and, and_true, Decidable.not_not] at hw
        simp only [icell, decide_eq_true_eq, decide_eq_false_iff_not, Bool.and_eq_true, Bool.and_eq_false_iff, Bool.or_eq_true, Bool.or_eq_false_iff, Bool.not_eq_true', Bool.not_eq_false', Bool.not_true, Bool.not_false, Bool.false_eq_true, Bool.true_eq_false, Int.not_lt, Int.not_le, ge_iff_le, gt_iff_lt, Bool.not_eq_eq_eq_not, Bool.true_or, Bool.or_true, Bool.false_or, Bool.or_false, Bool.true_and, Bool.and_true, false_or, or_false, true_and, and_true, Decidable.not_not, List.all_eq_true]
        intro hh
        have := hh.2 _ (nth_mem h0 (by omega))
        rcases hw with hw | hw
        · rw [hw] at this; exact Bool.noConfusion this.1
        · exact hw.2 (this.2 hw.1)
      · simp only [decide_eq_true_eq, decide_eq_false_iff_not, Bool.and_eq_true, Bool.and_eq_false_iff, Bool.or_eq_true, Bool.or_eq_false_iff, Bool.not_eq_true', Bool.not_eq_false', Bool.not_true, Bool.not_false, Bool.false_eq_true, Bool.true_eq_false, Int.not_lt, Int.not_le, ge_iff_le, gt_iff_lt, Bool.not_eq_eq_eq_not, Bool.true_or, Bool.or_true, Bool.false_or, Bool.or_false, Bool.true_and, Bool.and_true, false_or, or_false, true_and, and_true, Decidable.not_not] at hw
        refine go_wr (by omega) (by omega) ?_
        refine ⟨rfl, rfl, rfl, ⟨hS, by omega, by omega, ?_⟩, by omega⟩
        rw [take_nth h0 (by omega)]; intro k hk
        rcases List.mem_append.1 hk with hk | hk
        · exact h2 k hk
        · rw [List.mem_singleton.1 hk]; exact ⟨hw.1, fun hlt => by rcases hw.2 with h | h; omega; exact h⟩
    · simp only [decide_eq_true_eq, decide_eq_false_iff_not, Bool.and_eq_true, Bool.and_eq_false_iff, Bool.or_eq_true, Bool.or_eq_false_iff, Bool.not_eq_true', Bool.not_eq_false', Bool.not_true, Bool.not_false, Bool.false_eq_true, Bool.true_eq_false, Int.not_lt, Int.not_le, ge_iff_le, gt_iff_lt, Bool.not_eq_eq_eq_not, Bool.true_or, Bool.or_true, Bool.false_or, Bool.or_false, Bool.true_and, Bool.and_true, false_or, or_false, true_and, and_true, Decidable.not_not] at hi
      rw [take_all (by omega)] at h2
      refine ⟨vt ?_, hS.sub⟩
      simp only [icell, decide_eq_true_eq, decide_eq_false_iff_not, Bool.and_eq_true, Bool.and_eq_false_iff, Bool.or_eq_true, Bool.or_eq_false_iff, Bool.not_eq_true', Bool.not_eq_false', Bool.not_true, Bool.not_false, Bool.false_eq_true, Bool.true_eq_false, Int.not_lt, Int.not_le, ge_iff_le, gt_iff_lt, Bool.not_eq_eq_eq_not, Bool.true_or, Bool.or_true, Bool.false_or, Bool.or_false, Bool.true_and, Bool.and_true, false_or, or_false, true_and, and_true, Decidable.not_not, List.all_eq_true]
      refine ⟨⟨⟨⟨⟨⟨by omega, by omega⟩, by omega⟩, by omega⟩, fun hlt => ?_⟩, fun he => ?_⟩, h2⟩
      · rcases hc1.1 with h | h
        · omega
        · exact h
      · rcases hc1.2 with h | h
        · omega
        · exact List.eq_nil_of_length_eq_zero (by omega)

theorem c_checkedHeap (hx : Read v x h) : Mk Try.prog 59 #[x.val] v fun r J => ∃ y : Sl, r = .tuple #[y.val, .bool (vheapB h)] ∧ (vheapB h = true → Own v y (refL h) J) := by
  have vf : ¬ vheap h → vheapB h = false := fun hh => Bool.eq_false_iff.2 (fun e => hh (vheapB_iff.1 e))
  have bad : ∀ w I, St v w (I ++ []) → ¬ vheap h → ∃ J, St v w J ∧ ∃ y : Sl, Value.tuple #[.slice none 0 0, .bool false] = .tuple #[y.val, .bool (vheapB h)] ∧ (vheapB h = true → Own v y (refL h) J) :=
    fun w I hS hh => ⟨I, by simpa using hS, ⟨none, 0, 0⟩, by rw [vf hh]; rfl, fun e => by rw [vf hh] at e; cases e⟩
  refine of59 _ _ _ ?_
  unfold vc59
  have hn := hx.n
  have hl := hx.le
  refine St.makeInts (.refl v) (by omega) (by omega) (by decide) ?_
  intro y w1 I1 hO hS hs
  refine ⟨_, rfl, ?_⟩
  refine ⟨fun i w => ∃ I, Own v y (refsW h h.length (words (h.take i.toNat))) I ∧ St v w (I ++ []) ∧ 0 ≤ i ∧ i ≤ h.length ∧ ∀ c ∈ h.take i.toNat, icell h c = true, fun i _ => (h.length - i).toNat, ⟨I1, ?_, hS, by omega, by omega, by simp⟩, ?_⟩
  · rw [hn] at hO; simpa [words, refsW_nil] using hO
  rintro i w ⟨I, hO, hS, h0, h1, hic⟩
  dsimp only
  refine ⟨fun hi => ?_, fun hi => ?_⟩
  · simp only [decide_eq_true_eq, decide_eq_false_iff_not, Bool.and_eq_true, Bool.and_eq_false_iff, Bool.or_eq_true, Bool.or_eq_false_iff, Bool.not_eq_true', Bool.not_eq_false', Bool.not_true, Bool.not_false, Bool.false_eq_true, Bool.true_eq_false, Int.not_lt, Int.not_le, ge_iff_le, gt_iff_lt, Bool.not_eq_eq_eq_not, Bool.true_or, Bool.or_true, Bool.false_or, Bool.or_false, Bool.true_and, Bool.and_true, false_or, or_false, true_and, and_true, Decidable.not_not] at hi
    have hm := nth_mem h0 (l := h) (by omega)
    refine go_ix hx h0 (by omega) ?_
    refine ld_cell (hx.src hS.sub) h0 (by omega) ?_
    intro f hf hcI htI
    have hfn := hf.n
    refine ⟨_, c_cellValid (hx.mono hS.sub) (hf.mono hS.sub) hcI htI, fun hv => ?_, fun hv => ?_⟩
    · simp only [decide_eq_true_eq, decide_eq_false_iff_not, Bool.and_eq_true, Bool.and_eq_false_iff, Bool.or_eq_true, Bool.or_eq_false_iff, Bool.not_eq_true', Bool.not_eq_false', Bool.not_true, Bool.not_false, Bool.false_eq_true, Bool.true_eq_false, Int.not_lt, Int.not_le, ge_iff_le, gt_iff_lt, Bool.not_eq_eq_eq_not, Bool.true_or, Bool.or_true, Bool.false_or, Bool.or_false, Bool.true_and, Bool.and_true, false_or, or_false, true_and, and_true, Decidable.not_not] at hv
      exact bad _ _ hS fun hh => by have := vcell_i (hh.2.1 _ hm); rw [hv] at this; cases this
    · simp only [decide_eq_true_eq, decide_eq_false_iff_not, Bool.and_eq_true, Bool.and_eq_false_iff, Bool.or_eq_true, Bool.or_eq_false_iff, Bool.not_eq_true', Bool.not_eq_false', Bool.not_true, Bool.not_false, Bool.false_eq_true, Bool.true_eq_false, Int.not_lt, Int.not_le, ge_iff_le, gt_iff_lt, Bool.not_eq_eq_eq_not, Bool.true_or, Bool.or_true, Bool.false_or, Bool.or_false, Bool.true_and, Bool.and_true, false_or, or_false, true_and, and_true, Decidable.not_not] at hv
      have hc3 := icell_len hv
      have hwl : (words (h.take i.toNat)).length ≤ 3 * h.length := by
        have := words_len (h := h.take i.toNat) (fun c hc => icell_len (hic c hc))
        rw [List.length_take] at this; omega
      refine ⟨fun j w => ∃ I, Own v y (refsW h h.length (words (h.take i.toNat) ++ (nth h i).fields.take j.toNat)) I ∧ St v w (I ++ []) ∧ 0 ≤ j ∧ j ≤ (nth h i).fields.length, fun j _ => ((nth h i).fields.length - j).toNat, ⟨I, by simpa using hO, hS, by omega, by omega⟩, ?_⟩
      rintro j w ⟨I, hO, hS, j0, j1⟩
      dsimp only
      refine ⟨fun hj => ?_, fun hj => ?_⟩
      · simp only [decide_eq_true_eq, decide_eq_false_iff_not, Bool.and_eq_true, Bool.and_eq_false_iff, Bool.or_eq_true, Bool.or_eq_false_iff, Bool.not_eq_true', Bool.not_eq_false', Bool.not_true, Bool.not_false, Bool.false_eq_true, Bool.true_eq_false, Int.not_lt, Int.not_le, ge_iff_le, gt_iff_lt, Bool.not_eq_eq_eq_not, Bool.true_or, Bool.or_true, Bool.false_or, Bool.or_false, Bool.true_and, Bool.and_true, false_or, or_false, true_and, and_true, Decidable.not_not] at hj
        refine go_ix hf j0 (by omega) ?_
        refine ld_int (hf.mono hS.sub) j0 (by omega) ?_
        intro a0 a1
        have hstep : (nth h i).fields.take (j + 1).toNat = (nth h i).fields.take j.toNat ++ [nth (nth h i).fields j] := take_nth j0 (by omega)
        refine ⟨_, _, c_liveAt (hx.mono hS.sub) ⟨a0, a1⟩, fun hlv => ?_, fun hlv => ?_⟩
        · obtain ⟨p1, p2, p3⟩ := live_spec hlv
          rw [live_at hlv a1]
          refine go_oix hO (by omega) (by rw [length_refsW]; omega) ?_
          refine ld_int (Own.read hO hS) (by omega) (by rw [length_refsW]; omega) ?_
          intro b0 b1
          have hc := (cnt_le h (words (h.take i.toNat) ++ (nth h i).fields.take j.toNat) (nth (nth h i).fields j - 1000).toNat)
          rw [← nth_refsW (h := h) (n := h.length) (by omega) (by omega), List.length_append, List.length_take] at hc
          refine go_wr (by omega) (by omega) ?_
          refine go_oix hO (by omega) (by rw [length_refsW]; omega) ?_
          refine st_int hO hS (by omega) (by rw [length_refsW]; omega) (by constructor <;> omega) ?_
          intro w2 I2 hO2 hS
          refine go_wr (by omega) (by omega) ?_
          refine ⟨rfl, rfl, rfl, ⟨I2, ?_, hS, by omega, by omega⟩, by omega⟩
          rw [hstep, ← List.append_assoc, refsW_live hlv (Nat.le_refl _)]; exact hO2
        · refine go_wr (by omega) (by omega) ?_
          refine ⟨rfl, rfl, rfl, ⟨I, ?_, hS, by omega, by omega⟩, by omega⟩
          rw [hstep, ← List.append_assoc, refsW_dead hlv]; exact hO
      · simp only [decide_eq_true_eq, decide_eq_false_iff_not, Bool.and_eq_true, Bool.and_eq_false_iff, Bool.or_eq_true, Bool.or_eq_false_iff, Bool.not_eq_true', Bool.not_eq_false', Bool.not_true, Bool.not_false, Bool.false_eq_true, Bool.true_eq_false, Int.not_lt, Int.not_le, ge_iff_le, gt_iff_lt, Bool.not_eq_eq_eq_not, Bool.true_or, Bool.or_true, Bool.false_or, Bool.or_false, Bool.true_and, Bool.and_true, false_or, or_false, true_and, and_true, Decidable.not_not] at hj
        refine go_wr (by omega) (by omega) ?_
        refine ⟨⟨I, ?_, hS, by omega, by omega, ?_⟩, by omega⟩
        · rw [words_take h0 (by omega)]
          rw [take_all (l := (nth h i).fields) (by omega)] at hO; exact hO
        · rw [take_nth h0 (by omega)]; intro k hk
          rcases List.mem_append.1 hk with hk | hk
          · exact hic k hk
          · rw [List.mem_singleton.1 hk]; exact hv
  · simp only [decide_eq_true_eq, decide_eq_false_iff_not, Bool.and_eq_true, Bool.and_eq_false_iff, Bool.or_eq_true, Bool.or_eq_false_iff, Bool.not_eq_true', Bool.not_eq_false', Bool.not_true, Bool.not_false, Bool.false_eq_true, Bool.true_eq_false, Int.not_lt, Int.not_le, ge_iff_le, gt_iff_lt, Bool.not_eq_eq_eq_not, Bool.true_or, Bool.or_true, Bool.false_or, Bool.or_false, Bool.true_and, Bool.and_true, false_or, or_false, true_and, and_true, Decidable.not_not] at hi
    rw [take_all (by omega)] at hO hic
    refine ⟨(x.n : Int) - 1, fun hc => wrap_i64 (by omega) (by omega), fun hc => hx.ix (by simp only [decide_eq_true_eq, decide_eq_false_iff_not, Bool.and_eq_true, Bool.and_eq_false_iff, Bool.or_eq_true, Bool.or_eq_false_iff, Bool.not_eq_true', Bool.not_eq_false', Bool.not_true, Bool.not_false, Bool.false_eq_true, Bool.true_eq_false, Int.not_lt, Int.not_le, ge_iff_le, gt_iff_lt, Bool.not_eq_eq_eq_not, Bool.true_or, Bool.or_true, Bool.false_or, Bool.or_false, Bool.true_and, Bool.and_true, false_or, or_false, true_and, and_true, Decidable.not_not] at hc; omega) (by omega), ?_⟩
    refine ld_countg (hx.src hS.sub) (fun hc => ⟨by simp only [decide_eq_true_eq, decide_eq_false_iff_not, Bool.and_eq_true, Bool.and_eq_false_iff, Bool.or_eq_true, Bool.or_eq_false_iff, Bool.not_eq_true', Bool.not_eq_false', Bool.not_true, Bool.not_false, Bool.false_eq_true, Bool.true_eq_false, Int.not_lt, Int.not_le, ge_iff_le, gt_iff_lt, Bool.not_eq_eq_eq_not, Bool.true_or, Bool.or_true, Bool.false_or, Bool.or_false, Bool.true_and, Bool.and_true, false_or, or_false, true_and, and_true, Decidable.not_not] at hc; omega, by omega⟩) ?_
    refine ⟨fun hc => ?_, fun hc => ?_⟩
    · simp only [decide_eq_true_eq, decide_eq_false_iff_not, Bool.and_eq_true, Bool.and_eq_false_iff, Bool.or_eq_true, Bool.or_eq_false_iff, Bool.not_eq_true', Bool.not_eq_false', Bool.not_true, Bool.not_false, Bool.false_eq_true, Bool.true_eq_false, Int.not_lt, Int.not_le, ge_iff_le, gt_iff_lt, Bool.not_eq_eq_eq_not, Bool.true_or, Bool.or_true, Bool.false_or, Bool.or_false, Bool.true_and, Bool.and_true, false_or, or_false, true_and, and_true, Decidable.not_not] at hc
      refine bad _ _ hS fun hh => hh.1 (by omega) ?_
      rw [← hn]; exact hc.2
    simp only [decide_eq_true_eq, decide_eq_false_iff_not, Bool.and_eq_true, Bool.and_eq_false_iff, Bool.or_eq_true, Bool.or_eq_false_iff, Bool.not_eq_true', Bool.not_eq_false', Bool.not_true, Bool.not_false, Bool.false_eq_true, Bool.true_eq_false, Int.not_lt, Int.not_le, ge_iff_le, gt_iff_lt, Bool.not_eq_eq_eq_not, Bool.true_or, Bool.or_true, Bool.false_or, Bool.or_false, Bool.true_and, Bool.and_true, false_or, or_false, true_and, and_true, Decidable.not_not] at hc
    have hlast : lastOk h := fun hp => by rw [← hn]; rcases hc with hc | hc; omega; exact hc
    refine Mk.usew (c_cloneInts (Own.read hO hS)) hS ?_
    rintro _ w2 J2 ⟨z, rfl, hZ⟩ hS hsub
    replace hZ : Own v z (refL h) J2 := hZ.ofInts
    have hrl := length_refs h
    refine ⟨_, rfl, ?_⟩
    refine ⟨fun ws i w => ∃ I3 work, Own v ws work I3 ∧ St v w (I3 ++ (J2 ++ (I ++ []))) ∧ 0 ≤ i ∧ i ≤ h.length ∧ work.Nodup ∧ (∀ k ∈ work, 0 ≤ k ∧ k < i) ∧ (∀ k : Int, 0 ≤ k → k < i → (k ∈ work ↔ nth (refL h) k = 0)) ∧
        (∀ k : Int, 0 ≤ k → k < i → 0 < (nth h k).count → nth (refL h) k ≤ (nth h k).count ∧ (nth h k).count ≤ 999999) ∧ work.length ≤ i,
      fun _ i _ => (h.length - i).toNat, ⟨[], [], Own.nil v, hS, by omega, by omega, by simp, by simp, by omega, by omega, by simp⟩, ?_⟩
    rintro ws i w ⟨I3, work, hW, hS, h0, h1, hnd, hwk, hmem, hcnt, hwl⟩
    dsimp only
    refine ⟨fun hi => ?_, fun hi => ?_⟩
    · simp only [decide_eq_true_eq, decide_eq_false_iff_not, Bool.and_eq_true, Bool.and_eq_false_iff, Bool.or_eq_true, Bool.or_eq_false_iff, Bool.not_eq_true', Bool.not_eq_false', Bool.not_true, Bool.not_false, Bool.false_eq_true, Bool.true_eq_false, Int.not_lt, Int.not_le, ge_iff_le, gt_iff_lt, Bool.not_eq_eq_eq_not, Bool.true_or, Bool.or_true, Bool.false_or, Bool.or_false, Bool.true_and, Bool.and_true, false_or, or_false, true_and, and_true, Decidable.not_not] at hi
      refine go_ix hx h0 (by omega) ?_
      refine ld_cell (hx.src hS.sub) h0 (by omega) ?_
      intro f hf hcI htI
      refine ⟨fun _ => hO.ix h0 (by rw [length_refsW]; omega), ?_⟩
      refine ld_intg (Own.read hO hS) (fun hc => ⟨h0, by rw [length_refsW]; omega⟩) ?_
      change (_ → _) ∧ (_ → _)
      refine ⟨fun hc => ?_, fun hc => ?_⟩
      · simp only [decide_eq_true_eq, decide_eq_false_iff_not, Bool.and_eq_true, Bool.and_eq_false_iff, Bool.or_eq_true, Bool.or_eq_false_iff, Bool.not_eq_true', Bool.not_eq_false', Bool.not_true, Bool.not_false, Bool.false_eq_true, Bool.true_eq_false, Int.not_lt, Int.not_le, ge_iff_le, gt_iff_lt, Bool.not_eq_eq_eq_not, Bool.true_or, Bool.or_true, Bool.false_or, Bool.or_false, Bool.true_and, Bool.and_true, false_or, or_false, true_and, and_true, Decidable.not_not] at hc
        refine bad w (I3 ++ (J2 ++ I)) (by simpa using hS) fun hh => ?_
        have h1 := hh.2.1 _ (nth_mem h0 (l := h) (by omega))
        have h2 := hh.2.2.1 i.toNat (by omega) (by rw [Int.toNat_of_nonneg h0]; omega)
        rw [Int.toNat_of_nonneg h0] at h2
        simp only [vcell, decide_eq_true_eq, decide_eq_false_iff_not, Bool.and_eq_true, Bool.and_eq_false_iff, Bool.or_eq_true, Bool.or_eq_false_iff, Bool.not_eq_true', Bool.not_eq_false', Bool.not_true, Bool.not_false, Bool.false_eq_true, Bool.true_eq_false, Int.not_lt, Int.not_le, ge_iff_le, gt_iff_lt, Bool.not_eq_eq_eq_not, Bool.true_or, Bool.or_true, Bool.false_or, Bool.or_false, Bool.true_and, Bool.and_true, false_or, or_false, true_and, and_true, Decidable.not_not] at h1
        unfold refL at h2
        omega
      simp only [decide_eq_true_eq, decide_eq_false_iff_not, Bool.and_eq_true, Bool.and_eq_false_iff, Bool.or_eq_true, Bool.or_eq_false_iff, Bool.not_eq_true', Bool.not_eq_false', Bool.not_true, Bool.not_false, Bool.false_eq_true, Bool.true_eq_false, Int.not_lt, Int.not_le, ge_iff_le, gt_iff_lt, Bool.not_eq_eq_eq_not, Bool.true_or, Bool.or_true, Bool.false_or, Bool.or_false, Bool.true_and, Bool.and_true, false_or, or_false, true_and, and_true, Decidable.not_not] at hc
      have hcnt' : ∀ k : Int, 0 ≤ k → k < i + 1 → 0 < (nth h k).count → nth (refL h) k ≤ (nth h k).count ∧ (nth h k).count ≤ 999999 := fun k k0 k1 hp => by
        rcases Int.lt_or_le k i with hlt | hge
        · exact hcnt k k0 hlt hp
        · have : k = i := by omega
          subst this
          unfold refL
          omega
      refine go_oix hO h0 (by rw [length_refsW]; omega) ?_
      refine ld_int (Own.read hO hS) h0 (by rw [length_refsW]; omega) ?_
      intro b0 b1
      refine ⟨fun hz => ?_, fun hz => ?_⟩
      · simp only [decide_eq_true_eq, decide_eq_false_iff_not, Bool.and_eq_true, Bool.and_eq_false_iff, Bool.or_eq_true, Bool.or_eq_false_iff, Bool.not_eq_true', Bool.not_eq_false', Bool.not_true, Bool.not_false, Bool.false_eq_true, Bool.true_eq_false, Int.not_lt, Int.not_le, ge_iff_le, gt_iff_lt, Bool.not_eq_eq_eq_not, Bool.true_or, Bool.or_true, Bool.false_or, Bool.or_false, Bool.true_and, Bool.and_true, false_or, or_false, true_and, and_true, Decidable.not_not] at hz
        refine St.build (α := Int) hS (by (repeat' (first | exact VsOf.nil | apply VsOf.cons | (apply VOf.int; first | assumption | (constructor <;> first | omega | (simp only [List.length_set, List.length_append, List.length_replicate, List.length_cons, List.length_nil, List.length_take, List.length_drop, List.length_map, List.length_singleton] at *; omega))) | exact VOf.bool | exact VOf.str))) rfl (by decide) ?_
        intro x4 w4 I4 hO4 hS hs
        refine ⟨_, rfl, ?_⟩
        refine Own.append hW hS (hO4.src hS) (by simp; omega) (by decide) ?_
        intro x5 w5 I5 hO5 hS
        refine ⟨_, rfl, ?_⟩
        refine go_wr (by omega) (by omega) ?_
        refine ⟨⟨I5, _, hO5, hS.to, by omega, by omega, ?_, ?_, ?_, hcnt', by simp; omega⟩, by omega⟩
        · exact List.nodup_append.2 ⟨hnd, by simp, fun a ha b hb e => by rw [List.mem_singleton.1 hb] at e; subst e; have := hwk _ ha; omega⟩
        · intro k hk
          rcases List.mem_append.1 hk with hk | hk
          · have := hwk k hk; omega
          · rw [List.mem_singleton.1 hk]; omega
        · intro k k0 k1
          rcases Int.lt_or_le k i with hlt | hge
          · rw [← hmem k k0 hlt]; simp; omega
          · have : k = i := by omega
            subst this
            simp; exact hz
      · simp only [decide_eq_true_eq, decide_eq_false_iff_not, Bool.and_eq_true, Bool.and_eq_false_iff, Bool.or_eq_true, Bool.or_eq_false_iff, Bool.not_eq_true', Bool.not_eq_false', Bool.not_true, Bool.not_false, Bool.false_eq_true, Bool.true_eq_false, Int.not_lt, Int.not_le, ge_iff_le, gt_iff_lt, Bool.not_eq_eq_eq_not, Bool.true_or, Bool.or_true, Bool.false_or, Bool.or_false, Bool.true_and, Bool.and_true, false_or, or_false, true_and, and_true, Decidable.not_not] at hz
        refine go_wr (by omega) (by omega) ?_
        refine ⟨⟨I3, _, hW, hS, by omega, by omega, hnd, fun k hk => by have := hwk k hk; omega, fun k k0 k1 => ?_, hcnt', by omega⟩, by omega⟩
        rcases Int.lt_or_le k i with hlt | hge
        · exact hmem k k0 hlt
        · have : k = i := by omega
          subst this
          constructor
          · intro hk; have := hwk _ hk; omega
          · intro he; exact absurd he hz
    · simp only [decide_eq_true_eq, decide_eq_false_iff_not, Bool.and_eq_true, Bool.and_eq_false_iff, Bool.or_eq_true, Bool.or_eq_false_iff, Bool.not_eq_true', Bool.not_eq_false', Bool.not_true, Bool.not_false, Bool.false_eq_true, Bool.true_eq_false, Int.not_lt, Int.not_le, ge_iff_le, gt_iff_lt, Bool.not_eq_eq_eq_not, Bool.true_or, Bool.or_true, Bool.false_or, Bool.or_false, Bool.true_and, Bool.and_true, false_or, or_false, true_and, and_true, Decidable.not_not] at hi
      have hie : i = h.length := by omega
      subst hie
      have K0 : Kahn h (refL h) work (List.replicate h.length false) [] 0 := Kahn.start rfl hwk hnd hmem
      refine ⟨fun ws many w => ∃ I3 J3 work left gone, Own v ws work I3 ∧ Own v z left J3 ∧ St v w (I3 ++ (J3 ++ (I ++ []))) ∧ Kahn h left work gone [] many, fun _ many _ => (h.length - many).toNat, ⟨I3, J2, work, _, _, hW, hZ, hS, K0⟩, ?_⟩
      rintro ws many w ⟨I3, J3, work, left, gone, hW, hZ, hS, K⟩
      dsimp only
      have hwn := hW.n
      have hwle := hW.le
      refine ⟨fun hi => ?_, fun hi => ?_⟩
      · simp only [decide_eq_true_eq, decide_eq_false_iff_not, Bool.and_eq_true, Bool.and_eq_false_iff, Bool.or_eq_true, Bool.or_eq_false_iff, Bool.not_eq_true', Bool.not_eq_false', Bool.not_true, Bool.not_false, Bool.false_eq_true, Bool.true_eq_false, Int.not_lt, Int.not_le, ge_iff_le, gt_iff_lt, Bool.not_eq_eq_eq_not, Bool.true_or, Bool.or_true, Bool.false_or, Bool.or_false, Bool.true_and, Bool.and_true, false_or, or_false, true_and, and_true, Decidable.not_not] at hi
        refine go_wr (by omega) (by omega) ?_
        refine go_oix hW (by omega) (by omega) ?_
        refine ld_int (Own.read hW hS) (by omega) (by omega) ?_
        intro b0 b1
        obtain ⟨ws0, at_, rfl⟩ : ∃ ws0 at_, work = ws0 ++ [at_] := by
          have hne : work ≠ [] := fun e => by rw [e] at hwn; simp at hwn; omega
          exact ⟨_, _, (List.dropLast_concat_getLast hne).symm⟩
        have hnth : nth (ws0 ++ [at_]) ((ws.n : Int) - 1) = at_ := by
          refine nth_of ?_
          rw [hwn]; simp
        rw [hnth]
        obtain ⟨a0, a1, K⟩ := K.pop
        have hbd := K.bound
        have hmz := K.many_
        refine go_ix hx a0 (by omega) ?_
        refine ld_cell (hx.src hS.sub) a0 (by omega) ?_
        intro f hf hcI htI
        have hfn := hf.n
        have hfl := icell_len (hic _ (nth_mem (l := h) a0 a1))
        refine go_wr (by omega) (by omega) ?_
        refine ⟨⟨by omega, by omega, ?_⟩, ?_⟩
        · obtain ⟨_, hr, _⟩ := Own.read hW hS; have := hr.2.1; omega
        have hcut := hW.cut (lo := 0) (hi := (ws.n : Int) - 1) (by omega) (by omega) (by omega)
        have hct : ((ws0 ++ [at_]).take ((ws.n : Int) - 1).toNat).drop (0 : Int).toNat = ws0 := by
          rw [hwn]; simp
        rw [hct] at hcut
        refine ⟨fun ws j w => ∃ I3 J3 work left, Own v ws work I3 ∧ Own v z left J3 ∧ St v w (I3 ++ (J3 ++ (I ++ []))) ∧ Kahn h left work (gone.set at_.toNat true) ((nth h at_).fields.drop j.toNat) (many + 1) ∧ 0 ≤ j ∧ j ≤ (nth h at_).fields.length,
          fun _ j _ => ((nth h at_).fields.length - j).toNat, ⟨I3, J3, _, _, hcut, hZ, hS, K, by omega, by omega⟩, ?_⟩
        clear hcut hct hW hZ hS K hwn hwle b0 b1 hi hnth
        rintro ws j w ⟨I3, J3, work, left, hW, hZ, hS, K, j0, j1⟩
        dsimp only
        refine ⟨fun hj => ?_, fun hj => ?_⟩
        · simp only [decide_eq_true_eq, decide_eq_false_iff_not, Bool.and_eq_true, Bool.and_eq_false_iff, Bool.or_eq_true, Bool.or_eq_false_iff, Bool.not_eq_true', Bool.not_eq_false', Bool.not_true, Bool.not_false, Bool.false_eq_true, Bool.true_eq_false, Int.not_lt, Int.not_le, ge_iff_le, gt_iff_lt, Bool.not_eq_eq_eq_not, Bool.true_or, Bool.or_true, Bool.false_or, Bool.or_false, Bool.true_and, Bool.and_true, false_or, or_false, true_and, and_true, Decidable.not_not] at hj
          have hdrop : (nth h at_).fields.drop j.toNat = nth (nth h at_).fields j :: (nth h at_).fields.drop (j + 1).toNat := by
            rw [show (j + 1).toNat = j.toNat + 1 from by omega]
            have hlt : j.toNat < (nth h at_).fields.length := by omega
            rw [List.drop_eq_getElem_cons hlt]
            congr 1
            exact (nth_of (i := j) (by simp [hlt])).symm
          rw [hdrop] at K
          have hll := K.ll
          refine go_ix hf j0 (by omega) ?_
          refine ld_int (hf.mono hS.sub) j0 (by omega) ?_
          intro a2 a3
          refine ⟨_, _, c_liveAt (hx.mono hS.sub) ⟨a2, a3⟩, fun hlv => ?_, fun hlv => ?_⟩
          · obtain ⟨p1, p2, p3⟩ := live_spec hlv
            rw [live_at hlv a3]
            obtain ⟨k1, k2, k3⟩ := K.dec hlv
            refine go_oix hZ (by omega) (by omega) ?_
            refine ld_int (Own.read hZ hS) (by omega) (by omega) ?_
            intro b0 b1
            refine go_wr (by omega) (by omega) ?_
            refine go_oix hZ (by omega) (by omega) ?_
            refine st_int hZ hS (by omega) (by omega) (by constructor <;> omega) ?_
            intro w5 J5 hZ5 hS
            refine go_oix hZ5 (by omega) (by simp; omega) ?_
            refine ld_int (Own.read hZ5 hS) (by omega) (by simp; omega) ?_
            intro b2 b3
            rw [nth_set _ _ _ _ (by omega) (by omega) (by omega), if_pos rfl] at *
            refine ⟨fun hz => ?_, fun hz => ?_⟩
            · simp only [decide_eq_true_eq, decide_eq_false_iff_not, Bool.and_eq_true, Bool.and_eq_false_iff, Bool.or_eq_true, Bool.or_eq_false_iff, Bool.not_eq_true', Bool.not_eq_false', Bool.not_true, Bool.not_false, Bool.false_eq_true, Bool.true_eq_false, Int.not_lt, Int.not_le, ge_iff_le, gt_iff_lt, Bool.not_eq_eq_eq_not, Bool.true_or, Bool.or_true, Bool.false_or, Bool.or_false, Bool.true_and, Bool.and_true, false_or, or_false, true_and, and_true, Decidable.not_not] at hz
              have K := k2 hz
              have hwl : work.length + 1 ≤ h.length := by
                have h2 := (K.nd)
                have h3 : (work ++ [nth (nth h at_).fields j - 1000]).length ≤ h.length := by
                  have := List.Nodup.length_le_of_subset (l₁ := (work ++ [nth (nth h at_).fields j - 1000])) (l₂ := (List.range h.length).map (fun (k : Nat) => (k : Int))) h2 (fun k hk => by
                    have := K.wk k hk
                    exact List.mem_map.2 ⟨k.toNat, by simp; omega, by omega⟩)
                  simpa using this
                simp at h3; omega
              refine St.build (α := Int) hS (by (repeat' (first | exact VsOf.nil | apply VsOf.cons | (apply VOf.int; first | assumption | (constructor <;> first | omega | (simp only [List.length_set, List.length_append, List.length_replicate, List.length_cons, List.length_nil, List.length_take, List.length_drop, List.length_map, List.length_singleton] at *; omega))) | exact VOf.bool | exact VOf.str))) rfl (by decide) ?_
              intro x6 w6 I6 hO6 hS hs
              refine ⟨_, rfl, ?_⟩
              refine Own.append hW hS (hO6.src hS) (by simp; omega) (by decide) ?_
              intro x7 w7 I7 hO7 hS
              refine ⟨_, rfl, ?_⟩
              refine go_wr (by omega) (by omega) ?_
              exact ⟨rfl, rfl, rfl, ⟨I7, J5, _, _, hO7, hZ5, hS.to, K, by omega, by omega⟩, by omega⟩
            · simp only [decide_eq_true_eq, decide_eq_false_iff_not, Bool.and_eq_true, Bool.and_eq_false_iff, Bool.or_eq_true, Bool.or_eq_false_iff, Bool.not_eq_true', Bool.not_eq_false', Bool.not_true, Bool.not_false, Bool.false_eq_true, Bool.true_eq_false, Int.not_lt, Int.not_le, ge_iff_le, gt_iff_lt, Bool.not_eq_eq_eq_not, Bool.true_or, Bool.or_true, Bool.false_or, Bool.or_false, Bool.true_and, Bool.and_true, false_or, or_false, true_and, and_true, Decidable.not_not] at hz
              refine go_wr (by omega) (by omega) ?_
              exact ⟨rfl, rfl, rfl, ⟨I3, J5, _, _, hW, hZ5, hS, k3 hz, by omega, by omega⟩, by omega⟩
          · refine go_wr (by omega) (by omega) ?_
            exact ⟨rfl, rfl, rfl, ⟨I3, J3, _, _, hW, hZ, hS, K.skip hlv, by omega, by omega⟩, by omega⟩
        · simp only [decide_eq_true_eq, decide_eq_false_iff_not, Bool.and_eq_true, Bool.and_eq_false_iff, Bool.or_eq_true, Bool.or_eq_false_iff, Bool.not_eq_true', Bool.not_eq_false', Bool.not_true, Bool.not_false, Bool.false_eq_true, Bool.true_eq_false, Int.not_lt, Int.not_le, ge_iff_le, gt_iff_lt, Bool.not_eq_eq_eq_not, Bool.true_or, Bool.or_true, Bool.false_or, Bool.or_false, Bool.true_and, Bool.and_true, false_or, or_false, true_and, and_true, Decidable.not_not] at hj
          refine go_wr (by omega) (by omega) ?_
          rw [List.drop_eq_nil_of_le (by omega)] at K
          exact ⟨⟨I3, J3, work, left, _, hW, hZ, hS, K⟩, by omega⟩
      · simp only [decide_eq_true_eq, decide_eq_false_iff_not, Bool.and_eq_true, Bool.and_eq_false_iff, Bool.or_eq_true, Bool.or_eq_false_iff, Bool.not_eq_true', Bool.not_eq_false', Bool.not_true, Bool.not_false, Bool.false_eq_true, Bool.true_eq_false, Int.not_lt, Int.not_le, ge_iff_le, gt_iff_lt, Bool.not_eq_eq_eq_not, Bool.true_or, Bool.or_true, Bool.false_or, Bool.or_false, Bool.true_and, Bool.and_true, false_or, or_false, true_and, and_true, Decidable.not_not] at hi
        have hnil : work = [] := List.eq_nil_of_length_eq_zero (by omega)
        subst hnil
        refine ⟨I, hS.right.right.left, y, ?_, fun _ => hO⟩
        have : decide (many = (x.n : Int)) = vheapB h := by
          apply Bool.eq_iff_iff.2
          rw [vheapB_iff, decide_eq_true_eq, hn, K.end_]
          constructor
          · intro ha
            refine ⟨hlast, fun c hc => ?_, fun k hk hp => (hcnt k (by omega) (by omega) hp).1, ha⟩
            obtain ⟨i, i0, i1, rfl⟩ := mem_nth hc
            simp only [vcell, decide_eq_true_eq, decide_eq_false_iff_not, Bool.and_eq_true, Bool.and_eq_false_iff, Bool.or_eq_true, Bool.or_eq_false_iff, Bool.not_eq_true', Bool.not_eq_false', Bool.not_true, Bool.not_false, Bool.false_eq_true, Bool.true_eq_false, Int.not_lt, Int.not_le, ge_iff_le, gt_iff_lt, Bool.not_eq_eq_eq_not, Bool.true_or, Bool.or_true, Bool.false_or, Bool.or_false, Bool.true_and, Bool.and_true, false_or, or_false, true_and, and_true, Decidable.not_not]
            refine ⟨hic _ hc, ?_⟩
            rcases Int.lt_or_le 0 (nth h i).count with hp | hp
            · exact (hcnt i i0 i1 hp).2
            · omega
          · exact fun hh => hh.2.2.2
        rw [this]

theorem c_implValidHeap (hx : Read v x h) : Fn Try.prog 42 #[x.val] v (.bool (vheapB h)) := by
  refine of42 _ _ _ ?_
  unfold vc42
  refine Mk.use (c_checkedHeap hx) (.refl v) ?_
  rintro _ w J ⟨y, rfl, _⟩ hS hsub
  exact ⟨_, _, rfl, rfl, hS.sub⟩
end
end Go.Vc

namespace Go.Vc
open Go Go.Proofs Go.RowKit
set_option linter.all false

instance : DatO CellD where
  own cs c K := ∃ f : Sl, cs = [intV c.count, intV c.tag, f.val] ∧ InI c.count ∧ InI c.tag ∧ ∀ u, Own u f c.fields K
  read := fun ⟨f, h1, h2, h3, h4⟩ hA => ⟨f, h1, h2, h3, let ⟨rows, k1, k2, k3⟩ := h4 _; ⟨rows, k1.rd hA, k2, k3⟩⟩

theorem Own.toAll {u : World} {x : Sl} {l : List Int} {I : Items} (h : Own u x l I) : ∀ u, Own u x l I := fun _ => h.ofInts

/-- without the free cells at the end -/
def trimL (h : List CellD) : List CellD := (h.reverse.dropWhile fun c => c.count == 0).reverse

theorem trimL_take {h : List CellD} {k : Nat} (hk : k ≤ h.length) (hz : ∀ i : Int, k ≤ i → i < h.length → (nth h i).count = 0) (hl : 0 < k → (nth h ((k : Int) - 1)).count ≠ 0) : trimL h = h.take k := by
  unfold trimL
  have e : h = h.take k ++ h.drop k := (List.take_append_drop k h).symm
  have h1 : ∀ c ∈ h.drop k, (c.count == 0) = true := by
    intro c hc
    obtain ⟨i, hi, rfl⟩ := List.getElem_of_mem hc
    simp only [List.length_drop] at hi
    have := hz ((k + i : Nat) : Int) (by omega) (by omega)
    rw [nth_nat (l := h) (by omega)] at this
    simpa [List.getElem_drop] using this
  conv => lhs; rw [e]
  rw [List.reverse_append, List.dropWhile_append_of_pos (fun c hc => h1 c (List.mem_reverse.1 hc))]
  rcases Nat.eq_zero_or_pos k with h0 | hp
  · subst h0; simp
  · have h2 := hl hp
    have hlt : k - 1 < h.length := by omega
    have e2 : h.take k = h.take (k - 1) ++ [h[k-1]] := by
      conv => lhs; rw [show k = k - 1 + 1 from by omega, List.take_add_one, List.getElem?_eq_getElem hlt]
      rfl
    rw [show ((k : Int) - 1) = ((k - 1 : Nat) : Int) from by omega, nth_nat (l := h) hlt] at h2
    rw [e2, List.reverse_append, List.reverse_singleton, List.singleton_append, List.dropWhile_cons_of_neg (by simpa using h2)]
    simp

section
variable {u v w : World} {x y xf : Sl} {l m fs : List Int} {h : List CellD} {n k : Int} {a : Addr} {I J L R : Items} {F : Items → Items}

theorem c_trim (hO : OwnD x h I) (hS : St u w L) [p : Pos I L R F] : Trip Try.prog 69 #[x.val] w fun r w' => ∃ y, r = y.val ∧ OwnD y (trimL h) I ∧ St u w' L := by
  have hn := hO.n
  have hl := hO.le
  refine of69 _ _ _ ?_
  unfold vc69
  refine ⟨fun i w' => St u w' L ∧ 0 ≤ i ∧ i ≤ h.length ∧ ∀ j : Int, i ≤ j → j < h.length → (nth h j).count = 0, fun i _ => i.toNat, ⟨hS, by omega, by omega, fun j h1 h2 => by omega⟩, ?_⟩
  rintro i w' ⟨hS, h0, h1, h2⟩
  dsimp only
  refine ⟨i - 1, fun hc => wrap_i64 (by omega) (by omega), fun hc => hO.ix (by simp only [decide_eq_true_eq, decide_eq_false_iff_not, Bool.and_eq_true, Bool.and_eq_false_iff, Bool.or_eq_true, Bool.or_eq_false_iff, Bool.not_eq_true', Bool.not_eq_false', Bool.not_true, Bool.not_false, Bool.false_eq_true, Bool.true_eq_false, Int.not_lt, Int.not_le, ge_iff_le, gt_iff_lt, Bool.not_eq_eq_eq_not, Bool.true_or, Bool.or_true, Bool.false_or, Bool.or_false, Bool.true_and, Bool.and_true, false_or, or_false, true_and, and_true, Decidable.not_not] at hc; omega) (by omega), ?_⟩
  refine ld_countg (hO.src hS) (fun hc => ⟨by simp only [decide_eq_true_eq, decide_eq_false_iff_not, Bool.and_eq_true, Bool.and_eq_false_iff, Bool.or_eq_true, Bool.or_eq_false_iff, Bool.not_eq_true', Bool.not_eq_false', Bool.not_true, Bool.not_false, Bool.false_eq_true, Bool.true_eq_false, Int.not_lt, Int.not_le, ge_iff_le, gt_iff_lt, Bool.not_eq_eq_eq_not, Bool.true_or, Bool.or_true, Bool.false_or, Bool.or_false, Bool.true_and, Bool.and_true, false_or, or_false, true_and, and_true, Decidable.not_not] at hc; omega, by omega⟩) ?_
  refine ⟨fun hc => ?_, fun hc => ?_⟩
  · simp only [decide_eq_true_eq, decide_eq_false_iff_not, Bool.and_eq_true, Bool.and_eq_false_iff, Bool.or_eq_true, Bool.or_eq_false_iff, Bool.not_eq_true', Bool.not_eq_false', Bool.not_true, Bool.not_false, Bool.false_eq_true, Bool.true_eq_false, Int.not_lt, Int.not_le, ge_iff_le, gt_iff_lt, Bool.not_eq_eq_eq_not, Bool.true_or, Bool.or_true, Bool.false_or, Bool.or_false, Bool.true_and, Bool.and_true, false_or, or_false, true_and, and_true, Decidable.not_not] at hc
    refine go_wr (by omega) (by omega) ?_
    refine ⟨⟨hS, by omega, by omega, fun j j0 j1 => ?_⟩, by omega⟩
    by_cases e : j = i - 1
    · rw [e]; exact hc.2
    · exact h2 j (by omega) j1
  · simp only [decide_eq_true_eq, decide_eq_false_iff_not, Bool.and_eq_true, Bool.and_eq_false_iff, Bool.or_eq_true, Bool.or_eq_false_iff, Bool.not_eq_true', Bool.not_eq_false', Bool.not_true, Bool.not_false, Bool.false_eq_true, Bool.true_eq_false, Int.not_lt, Int.not_le, ge_iff_le, gt_iff_lt, Bool.not_eq_eq_eq_not, Bool.true_or, Bool.or_true, Bool.false_or, Bool.or_false, Bool.true_and, Bool.and_true, false_or, or_false, true_and, and_true, Decidable.not_not] at hc
    refine ⟨⟨by omega, by omega, ?_⟩, _, rfl, ?_, hS⟩
    · obtain ⟨_, hr, _⟩ := OwnD.read hO hS; have := hr.2.1; omega
    · rw [trimL_take (k := i.toNat) (by omega) (fun j j0 j1 => h2 j (by omega) j1) (fun hp => by rw [Int.toNat_of_nonneg h0]; rcases hc with hc | hc; omega; exact hc)]
      exact hO.cut h0 h1
end
end Go.Vc

namespace Go.Vc
open Go Go.Proofs Go.RowKit
set_option linter.all false

theorem mem_set_of {α : Type} {l : List α} {i : Nat} {a b : α} (h : b ∈ l.set i a) : b ∈ l ∨ b = a := List.mem_or_eq_of_mem_set h

section
variable {u v w : World} {x y xf : Sl} {l m fs : List Int} {h : List CellD} {n k : Int} {a : Addr} {I J L R : Items} {F : Items → Items}

end
end Go.Vc

namespace Go.Vc
open Go Go.Proofs Go.RowKit
set_option linter.all false
section
variable {u v w : World} {x y xf : Sl} {l m fs : List Int} {h : List CellD} {n k : Int} {a : Addr} {I J L R : Items} {F : Items → Items}

theorem vheap_len {h : List CellD} (hv : vheap h) : ∀ c ∈ h, c.fields.length ≤ 3 := fun c hc => icell_len (vcell_i (hv.2.1 c hc))
end
end Go.Vc

namespace Go.Vc
open Go Go.Proofs Go.RowKit
set_option linter.all false
def GH (h : List CellD) (len cnt : Int) : Prop := h.length ≤ len ∧ ∀ c ∈ h, c.fields.length ≤ 3 ∧ c.count ≤ cnt
theorem GH.le {h : List CellD} {a b a' b' : Int} (hg : GH h a b) (h1 : a ≤ a') (h2 : b ≤ b') : GH h a' b' := ⟨by have := hg.1; omega, fun c hc => by have := hg.2 c hc; omega⟩
theorem zero_in : InI 0 := ⟨by omega, by omega⟩
section
variable {u v w : World} {x y xf : Sl} {l fs : List Int} {h : List CellD} {m n k : Int} {a : Addr} {I J L R : Items} {F : Items → Items}

end
end Go.Vc
