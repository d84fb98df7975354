/- Part of the proofs about the heaps: a law is joined in the text whose name ends in W and the law. -/
import Derived.Test.YtmmkfmmcmjpcgaaBHp2
import Derived.Test.YtmmkfmmcmjpcgaaBC2
namespace Go.Vc
open Go Go.Proofs Go.RowKit
set_option linter.all false

def atI (n : Int) : Int := IntKind.wrap .i64 (n - 1000)
theorem atI_of {n : Int} (h : 1000 ≤ n) (h1 : n ≤ 9223372036854775807) : atI n = n - 1000 := wrap_i64 (by omega) (by omega)
theorem atI_neg {n : Int} (h : n < 1000) (h1 : -9223372036854775808 ≤ n) : atI n < 0 ∨ atI n ≥ 9223372036854774808 := by
  unfold atI
  rcases Int.lt_or_le (n - 1000) (-9223372036854775808) with hlt | hge
  · right
    have e : IntKind.wrap .i64 (n - 1000) = n - 1000 + 18446744073709551616 := by
      simp [IntKind.wrap, IntKind.signed, IntKind.bits]; split <;> omega
    rw [e]; omega
  · left; rw [wrap_i64 hge (by omega)]; omega

section
variable {u v w : World} {x y : Sl} {l m : List Int} {h : List CellD} {n k : Int} {a : Addr} {I J L R : Items} {F : Items → Items}

theorem go_at {K : Int → Prop} (k : K (atI n)) : ∃ r, Wr .i64 (n - 1000) r ∧ K r := ⟨_, rfl, k⟩

/-! ### the reference's -/
theorem c_isLive (hx : Read v x h) (hn : InI n) : Fn Try.prog 93 #[x.val, .int .i64 n] v (.bool (live h n)) := by
  refine of93 _ _ _ _ ?_
  unfold vc93
  have hxn := hx.n
  have hl := hx.le
  have hS := St.refl v
  refine go_at ?_
  refine go_wr (by omega) (by omega) ?_
  refine ⟨_, c_inRange, _, fun _ => c_isPointer, ?_⟩
  have key : (decide (0 ≤ atI n) && decide (atI n ≤ (x.n : Int) - 1) && decide (n ≥ 1000)) = true → n - 1000 = atI n ∧ 0 ≤ n - 1000 ∧ n - 1000 < h.length := by
    intro hc
    simp only [decide_eq_true_eq, decide_eq_false_iff_not, Bool.and_eq_true, Bool.and_eq_false_iff, Bool.or_eq_true, Bool.or_eq_false_iff, Bool.not_eq_true', Bool.not_eq_false', Bool.not_true, Bool.not_false, Bool.false_eq_true, Bool.true_eq_false, Int.not_lt, Int.not_le, ge_iff_le, gt_iff_lt, Bool.not_eq_eq_eq_not, Bool.true_or, Bool.or_true, Bool.false_or, Bool.or_false, Bool.true_and, Bool.and_true, false_or, or_false, true_and, and_true, Decidable.not_not] at hc
    have := atI_of hc.2 hn.2
    omega
  refine ⟨n - 1000, fun hc => wrap_i64 (by have := key hc; omega) (by have := key hc; omega), fun hc => hx.ix (key hc).2.1 (key hc).2.2, ?_⟩
  refine ld_countg (hx.src hS.sub) (fun hc => (key hc).2) ?_
  refine ⟨?_, hS.sub⟩
  congr 1
  apply Bool.eq_iff_iff.2
  simp only [live, decide_eq_true_eq, decide_eq_false_iff_not, Bool.and_eq_true, Bool.and_eq_false_iff, Bool.or_eq_true, Bool.or_eq_false_iff, Bool.not_eq_true', Bool.not_eq_false', Bool.not_true, Bool.not_false, Bool.false_eq_true, Bool.true_eq_false, Int.not_lt, Int.not_le, ge_iff_le, gt_iff_lt, Bool.not_eq_eq_eq_not, Bool.true_or, Bool.or_true, Bool.false_or, Bool.or_false, Bool.true_and, Bool.and_true, false_or, or_false, true_and, and_true, Decidable.not_not]
  constructor
  · rintro ⟨⟨⟨h1, h2⟩, h3⟩, h4⟩
    exact ⟨⟨h3, by have := atI_of h3 hn.2; omega⟩, h4⟩
  · rintro ⟨⟨h1, h2⟩, h3⟩
    have := atI_of h1 hn.2
    exact ⟨⟨⟨by omega, by omega⟩, h1⟩, h3⟩

theorem c_isWord (hx : Read v x h) (hn : InI n) : Fn Try.prog 66 #[x.val, .int .i64 n] v (.bool (word h n)) := by
  refine of66 _ _ _ _ ?_
  unfold vc66
  exact ⟨_, c_inRange, _, fun _ => c_isLive hx hn, rfl, .refl v⟩

theorem c_validCell {c : CellD} {f : Sl} (hx : Read v x h) (hf : Read v f c.fields) (hc : InI c.count) (ht : InI c.tag) : Fn Try.prog 90 #[x.val, .agg #[.int .i64 c.count, .int .i64 c.tag, f.val]] v (.bool (vcell h c)) := by
  refine of90 _ _ _ _ _ _ ?_
  unfold vc90
  have hfn := hf.n
  have hl := hf.le
  refine ⟨_, fun _ => c_inRange, fun hc => ?_, fun hc => ⟨fun hc1 => ?_, fun hc1 => ?_⟩⟩
  · refine ⟨?_, .refl v⟩
    simp only [decide_eq_true_eq, decide_eq_false_iff_not, Bool.and_eq_true, Bool.and_eq_false_iff, Bool.or_eq_true, Bool.or_eq_false_iff, Bool.not_eq_true', Bool.not_eq_false', Bool.not_true, Bool.not_false, Bool.false_eq_true, Bool.true_eq_false, Int.not_lt, Int.not_le, ge_iff_le, gt_iff_lt, Bool.not_eq_eq_eq_not, Bool.true_or, Bool.or_true, Bool.false_or, Bool.or_false, Bool.true_and, Bool.and_true, false_or, or_false, true_and, and_true, Decidable.not_not] at hc
    have : ¬ vcell h c = true := by
      simp only [vcell, icell, decide_eq_true_eq, decide_eq_false_iff_not, Bool.and_eq_true, Bool.and_eq_false_iff, Bool.or_eq_true, Bool.or_eq_false_iff, Bool.not_eq_true', Bool.not_eq_false', Bool.not_true, Bool.not_false, Bool.false_eq_true, Bool.true_eq_false, Int.not_lt, Int.not_le, ge_iff_le, gt_iff_lt, Bool.not_eq_eq_eq_not, Bool.true_or, Bool.or_true, Bool.false_or, Bool.or_false, Bool.true_and, Bool.and_true, false_or, or_false, true_and, and_true, Decidable.not_not]; omega
    rw [Bool.eq_false_iff.2 this]
  · simp only [decide_eq_true_eq, decide_eq_false_iff_not, Bool.and_eq_true, Bool.and_eq_false_iff, Bool.or_eq_true, Bool.or_eq_false_iff, Bool.not_eq_true', Bool.not_eq_false', Bool.not_true, Bool.not_false, Bool.false_eq_true, Bool.true_eq_false, Int.not_lt, Int.not_le, ge_iff_le, gt_iff_lt, Bool.not_eq_eq_eq_not, Bool.true_or, Bool.or_true, Bool.false_or, Bool.or_false, Bool.true_and, Bool.and_true, false_or, or_false, true_and, and_true, Decidable.not_not] at hc hc1
    refine ⟨_, fun _ => c_allZero hf, ?_, .refl v⟩
    congr 1
    apply Bool.eq_iff_iff.2
    simp only [vcell, icell, decide_eq_true_eq, decide_eq_false_iff_not, Bool.and_eq_true, Bool.and_eq_false_iff, Bool.or_eq_true, Bool.or_eq_false_iff, Bool.not_eq_true', Bool.not_eq_false', Bool.not_true, Bool.not_false, Bool.false_eq_true, Bool.true_eq_false, Int.not_lt, Int.not_le, ge_iff_le, gt_iff_lt, Bool.not_eq_eq_eq_not, Bool.true_or, Bool.or_true, Bool.false_or, Bool.or_false, Bool.true_and, Bool.and_true, false_or, or_false, true_and, and_true, Decidable.not_not, List.all_eq_true]
    constructor
    · rintro ⟨⟨h1, h2⟩, h3⟩
      refine ⟨⟨⟨⟨⟨⟨⟨by omega, by omega⟩, by omega⟩, by omega⟩, fun _ => h1⟩, fun e => ?_⟩, fun f hf => ⟨?_, fun _ => h2 f hf⟩⟩, by omega⟩
      · rcases h3 with h3 | h3
        · omega
        · exact List.eq_nil_of_length_eq_zero (by omega)
      · have := h2 f hf; subst this; rfl
    · rintro ⟨⟨⟨⟨⟨⟨⟨h1, h2⟩, h3⟩, h4⟩, h5⟩, h6⟩, h7⟩, h8⟩
      rcases Int.lt_or_le c.count 0 with hlt | hge
      · exact ⟨⟨h5 hc1, fun f hf => (h7 f hf).2 hlt⟩, .inl hlt⟩
      · have := h6 (by omega)
        exact ⟨⟨h5 hc1, by rw [this]; simp⟩, .inr (by rw [hfn, this]; rfl)⟩
  · simp only [decide_eq_true_eq, decide_eq_false_iff_not, Bool.and_eq_true, Bool.and_eq_false_iff, Bool.or_eq_true, Bool.or_eq_false_iff, Bool.not_eq_true', Bool.not_eq_false', Bool.not_true, Bool.not_false, Bool.false_eq_true, Bool.true_eq_false, Int.not_lt, Int.not_le, ge_iff_le, gt_iff_lt, Bool.not_eq_eq_eq_not, Bool.true_or, Bool.or_true, Bool.false_or, Bool.or_false, Bool.true_and, Bool.and_true, false_or, or_false, true_and, and_true, Decidable.not_not] at hc hc1
    refine ⟨fun i w => St v w [] ∧ 0 ≤ i ∧ i ≤ c.fields.length ∧ ∀ g ∈ c.fields.take i.toNat, word h g = true, fun i _ => (c.fields.length - i).toNat, ⟨.refl v, by omega, by omega, by simp⟩, ?_⟩
    rintro i w ⟨hS, h0, h1, h2⟩
    dsimp only
    refine ⟨fun hi => ?_, fun hi => ?_⟩
    · simp only [decide_eq_true_eq, decide_eq_false_iff_not, Bool.and_eq_true, Bool.and_eq_false_iff, Bool.or_eq_true, Bool.or_eq_false_iff, Bool.not_eq_true', Bool.not_eq_false', Bool.not_true, Bool.not_false, Bool.false_eq_true, Bool.true_eq_false, Int.not_lt, Int.not_le, ge_iff_le, gt_iff_lt, Bool.not_eq_eq_eq_not, Bool.true_or, Bool.or_true, Bool.false_or, Bool.or_false, Bool.true_and, Bool.and_true, false_or, or_false, true_and, and_true, Decidable.not_not] at hi
      refine ⟨hf.ix h0 (by omega), ?_⟩
      refine ld_int (hf.mono hS.sub) h0 (by omega) ?_
      intro a0 a1
      refine ⟨_, c_isWord (hx.mono hS.sub) ⟨a0, a1⟩, fun hw => ?_, fun hw => ?_⟩
      · refine ⟨?_, hS.sub⟩
        simp only [decide_eq_true_eq, decide_eq_false_iff_not, Bool.and_eq_true, Bool.and_eq_false_iff, Bool.or_eq_true, Bool.or_eq_false_iff, Bool.not_eq_true', Bool.not_eq_false', Bool.not_true, Bool.not_false, Bool.false_eq_true, Bool.true_eq_false, Int.not_lt, Int.not_le, ge_iff_le, gt_iff_lt, Bool.not_eq_eq_eq_not, Bool.true_or, Bool.or_true, Bool.false_or, Bool.or_false, Bool.true_and, Bool.and_true, false_or, or_false, true_and, and_true, Decidable.not_not] at hw
        have : ¬ vcell h c = true := by
          simp only [vcell, icell, decide_eq_true_eq, decide_eq_false_iff_not, Bool.and_eq_true, Bool.and_eq_false_iff, Bool.or_eq_true, Bool.or_eq_false_iff, Bool.not_eq_true', Bool.not_eq_false', Bool.not_true, Bool.not_false, Bool.false_eq_true, Bool.true_eq_false, Int.not_lt, Int.not_le, ge_iff_le, gt_iff_lt, Bool.not_eq_eq_eq_not, Bool.true_or, Bool.or_true, Bool.false_or, Bool.or_false, Bool.true_and, Bool.and_true, false_or, or_false, true_and, and_true, Decidable.not_not, List.all_eq_true]
          intro hh
          have := (hh.1.2 _ (nth_mem h0 (by omega))).1
          rw [hw] at this; cases this
        rw [Bool.eq_false_iff.2 this]
      · simp only [decide_eq_true_eq, decide_eq_false_iff_not, Bool.and_eq_true, Bool.and_eq_false_iff, Bool.or_eq_true, Bool.or_eq_false_iff, Bool.not_eq_true', Bool.not_eq_false', Bool.not_true, Bool.not_false, Bool.false_eq_true, Bool.true_eq_false, Int.not_lt, Int.not_le, ge_iff_le, gt_iff_lt, Bool.not_eq_eq_eq_not, Bool.true_or, Bool.or_true, Bool.false_or, Bool.or_false, Bool.true_and, Bool.and_true, false_or, or_false, true_and, and_true, Decidable.not_not] at hw
        repeat' first | (intro hc; simp only [decide_eq_true_eq, decide_eq_false_iff_not, Bool.and_eq_true, Bool.and_eq_false_iff, Bool.or_eq_true, Bool.or_eq_false_iff, Bool.not_eq_true', Bool.not_eq_false', Bool.not_true, Bool.not_false, Bool.false_eq_true, Bool.true_eq_false, Int.not_lt, Int.not_le, ge_iff_le, gt_iff_lt, Bool.not_eq_eq_eq_not, Bool.true_or, Bool.or_true, Bool.false_or, Bool.or_false, Bool.true_and, Bool.and_true, false_or, or_false, true_and, and_true, Decidable.not_not] at hc) | (refine go_wr (by first | omega | (simp only [List.length_set, List.length_append, List.length_replicate, List.length_cons, List.length_nil, List.length_take, List.length_drop, List.length_map, List.length_singleton] at *; omega)) (by first | omega | (simp only [List.length_set, List.length_append, List.length_replicate, List.length_cons, List.length_nil, List.length_take, List.length_drop, List.length_map, List.length_singleton] at *; omega)) ?_) | (refine go_wrg (by (intro hc; simp only [decide_eq_true_eq, decide_eq_false_iff_not, Bool.and_eq_true, Bool.and_eq_false_iff, Bool.or_eq_true, Bool.or_eq_false_iff, Bool.not_eq_true', Bool.not_eq_false', Bool.not_true, Bool.not_false, Bool.false_eq_true, Bool.true_eq_false, Int.not_lt, Int.not_le, ge_iff_le, gt_iff_lt, Bool.not_eq_eq_eq_not, Bool.true_or, Bool.or_true, Bool.false_or, Bool.or_false, Bool.true_and, Bool.and_true, false_or, or_false, true_and, and_true, Decidable.not_not] at hc; constructor <;> first | omega | (simp only [List.length_set, List.length_append, List.length_replicate, List.length_cons, List.length_nil, List.length_take, List.length_drop, List.length_map, List.length_singleton] at *; omega))) ?_) | (refine go_ix (by assumption) (by first | omega | (simp only [List.length_set, List.length_append, List.length_replicate, List.length_cons, List.length_nil, List.length_take, List.length_drop, List.length_map, List.length_singleton] at *; omega)) (by first | omega | (simp only [List.length_set, List.length_append, List.length_replicate, List.length_cons, List.length_nil, List.length_take, List.length_drop, List.length_map, List.length_singleton] at *; omega)) ?_) | (refine go_oix (by assumption) (by first | omega | (simp only [List.length_set, List.length_append, List.length_replicate, List.length_cons, List.length_nil, List.length_take, List.length_drop, List.length_map, List.length_singleton] at *; omega)) (by first | omega | (simp only [List.length_set, List.length_append, List.length_replicate, List.length_cons, List.length_nil, List.length_take, List.length_drop, List.length_map, List.length_singleton] at *; omega)) ?_) | (refine go_ixg (by assumption) (by (intro hc; simp only [decide_eq_true_eq, decide_eq_false_iff_not, Bool.and_eq_true, Bool.and_eq_false_iff, Bool.or_eq_true, Bool.or_eq_false_iff, Bool.not_eq_true', Bool.not_eq_false', Bool.not_true, Bool.not_false, Bool.false_eq_true, Bool.true_eq_false, Int.not_lt, Int.not_le, ge_iff_le, gt_iff_lt, Bool.not_eq_eq_eq_not, Bool.true_or, Bool.or_true, Bool.false_or, Bool.or_false, Bool.true_and, Bool.and_true, false_or, or_false, true_and, and_true, Decidable.not_not] at hc; constructor <;> first | omega | (simp only [List.length_set, List.length_append, List.length_replicate, List.length_cons, List.length_nil, List.length_take, List.length_drop, List.length_map, List.length_singleton] at *; omega))) ?_) | (refine go_oixg (by assumption) (by (intro hc; simp only [decide_eq_true_eq, decide_eq_false_iff_not, Bool.and_eq_true, Bool.and_eq_false_iff, Bool.or_eq_true, Bool.or_eq_false_iff, Bool.not_eq_true', Bool.not_eq_false', Bool.not_true, Bool.not_false, Bool.false_eq_true, Bool.true_eq_false, Int.not_lt, Int.not_le, ge_iff_le, gt_iff_lt, Bool.not_eq_eq_eq_not, Bool.true_or, Bool.or_true, Bool.false_or, Bool.or_false, Bool.true_and, Bool.and_true, false_or, or_false, true_and, and_true, Decidable.not_not] at hc; constructor <;> first | omega | (simp only [List.length_set, List.length_append, List.length_replicate, List.length_cons, List.length_nil, List.length_take, List.length_drop, List.length_map, List.length_singleton] at *; omega))) ?_) | (refine ld_cell (by first | exact ReadB.src (by assumption) hS.sub | exact Own.src (by assumption) hS) (by first | omega | (simp only [List.length_set, List.length_append, List.length_replicate, List.length_cons, List.length_nil, List.length_take, List.length_drop, List.length_map, List.length_singleton] at *; omega)) (by first | omega | (simp only [List.length_set, List.length_append, List.length_replicate, List.length_cons, List.length_nil, List.length_take, List.length_drop, List.length_map, List.length_singleton] at *; omega)) ?_; intro f hf hcI htI) | (refine ld_count (by first | exact ReadB.src (by assumption) hS.sub | exact Own.src (by assumption) hS) (by first | omega | (simp only [List.length_set, List.length_append, List.length_replicate, List.length_cons, List.length_nil, List.length_take, List.length_drop, List.length_map, List.length_singleton] at *; omega)) (by first | omega | (simp only [List.length_set, List.length_append, List.length_replicate, List.length_cons, List.length_nil, List.length_take, List.length_drop, List.length_map, List.length_singleton] at *; omega)) ?_; intro hlo hhi) | (refine ld_countg (by first | exact ReadB.src (by assumption) hS.sub | exact Own.src (by assumption) hS) (by (intro hc; simp only [decide_eq_true_eq, decide_eq_false_iff_not, Bool.and_eq_true, Bool.and_eq_false_iff, Bool.or_eq_true, Bool.or_eq_false_iff, Bool.not_eq_true', Bool.not_eq_false', Bool.not_true, Bool.not_false, Bool.false_eq_true, Bool.true_eq_false, Int.not_lt, Int.not_le, ge_iff_le, gt_iff_lt, Bool.not_eq_eq_eq_not, Bool.true_or, Bool.or_true, Bool.false_or, Bool.or_false, Bool.true_and, Bool.and_true, false_or, or_false, true_and, and_true, Decidable.not_not] at hc; constructor <;> first | omega | (simp only [List.length_set, List.length_append, List.length_replicate, List.length_cons, List.length_nil, List.length_take, List.length_drop, List.length_map, List.length_singleton] at *; omega))) ?_) | (refine ld_tag (by first | exact ReadB.src (by assumption) hS.sub | exact Own.src (by assumption) hS) (by first | omega | (simp only [List.length_set, List.length_append, List.length_replicate, List.length_cons, List.length_nil, List.length_take, List.length_drop, List.length_map, List.length_singleton] at *; omega)) (by first | omega | (simp only [List.length_set, List.length_append, List.length_replicate, List.length_cons, List.length_nil, List.length_take, List.length_drop, List.length_map, List.length_singleton] at *; omega)) ?_; intro hlo hhi) | (refine ld_fields (by first | exact ReadB.src (by assumption) hS.sub | exact Own.src (by assumption) hS) (by first | omega | (simp only [List.length_set, List.length_append, List.length_replicate, List.length_cons, List.length_nil, List.length_take, List.length_drop, List.length_map, List.length_singleton] at *; omega)) (by first | omega | (simp only [List.length_set, List.length_append, List.length_replicate, List.length_cons, List.length_nil, List.length_take, List.length_drop, List.length_map, List.length_singleton] at *; omega)) ?_; intro f hf) | (refine ld_fieldsg (by first | exact ReadB.src (by assumption) hS.sub | exact Own.src (by assumption) hS) (by (intro hc; simp only [decide_eq_true_eq, decide_eq_false_iff_not, Bool.and_eq_true, Bool.and_eq_false_iff, Bool.or_eq_true, Bool.or_eq_false_iff, Bool.not_eq_true', Bool.not_eq_false', Bool.not_true, Bool.not_false, Bool.false_eq_true, Bool.true_eq_false, Int.not_lt, Int.not_le, ge_iff_le, gt_iff_lt, Bool.not_eq_eq_eq_not, Bool.true_or, Bool.or_true, Bool.false_or, Bool.or_false, Bool.true_and, Bool.and_true, false_or, or_false, true_and, and_true, Decidable.not_not] at hc; constructor <;> first | omega | (simp only [List.length_set, List.length_append, List.length_replicate, List.length_cons, List.length_nil, List.length_take, List.length_drop, List.length_map, List.length_singleton] at *; omega))) ?_; intro f hf) | (refine ld_int (by first | exact ReadB.mono (by assumption) hS.sub | exact Own.read (by assumption) hS | assumption) (by first | omega | (simp only [List.length_set, List.length_append, List.length_replicate, List.length_cons, List.length_nil, List.length_take, List.length_drop, List.length_map, List.length_singleton] at *; omega)) (by first | omega | (simp only [List.length_set, List.length_append, List.length_replicate, List.length_cons, List.length_nil, List.length_take, List.length_drop, List.length_map, List.length_singleton] at *; omega)) ?_; intro hlo hhi) | (refine ld_bool (by first | exact ReadB.mono (by assumption) hS.sub | exact Own.read (by assumption) hS | assumption) (by first | omega | (simp only [List.length_set, List.length_append, List.length_replicate, List.length_cons, List.length_nil, List.length_take, List.length_drop, List.length_map, List.length_singleton] at *; omega)) (by first | omega | (simp only [List.length_set, List.length_append, List.length_replicate, List.length_cons, List.length_nil, List.length_take, List.length_drop, List.length_map, List.length_singleton] at *; omega)) ?_) | (refine ld_byte (by first | exact ReadB.mono (by assumption) hS.sub | exact Own.read (by assumption) hS | assumption) (by first | omega | (simp only [List.length_set, List.length_append, List.length_replicate, List.length_cons, List.length_nil, List.length_take, List.length_drop, List.length_map, List.length_singleton] at *; omega)) (by first | omega | (simp only [List.length_set, List.length_append, List.length_replicate, List.length_cons, List.length_nil, List.length_take, List.length_drop, List.length_map, List.length_singleton] at *; omega)) ?_; intro hlo hhi) | (refine ld_intg (by first | exact ReadB.mono (by assumption) hS.sub | exact Own.read (by assumption) hS | assumption) (by (intro hc; simp only [decide_eq_true_eq, decide_eq_false_iff_not, Bool.and_eq_true, Bool.and_eq_false_iff, Bool.or_eq_true, Bool.or_eq_false_iff, Bool.not_eq_true', Bool.not_eq_false', Bool.not_true, Bool.not_false, Bool.false_eq_true, Bool.true_eq_false, Int.not_lt, Int.not_le, ge_iff_le, gt_iff_lt, Bool.not_eq_eq_eq_not, Bool.true_or, Bool.or_true, Bool.false_or, Bool.or_false, Bool.true_and, Bool.and_true, false_or, or_false, true_and, and_true, Decidable.not_not] at hc; constructor <;> first | omega | (simp only [List.length_set, List.length_append, List.length_replicate, List.length_cons, List.length_nil, List.length_take, List.length_drop, List.length_map, List.length_singleton] at *; omega))) ?_) | (refine ld_boolg (by first | exact ReadB.mono (by assumption) hS.sub | exact Own.read (by assumption) hS | assumption) (by (intro hc; simp only [decide_eq_true_eq, decide_eq_false_iff_not, Bool.and_eq_true, Bool.and_eq_false_iff, Bool.or_eq_true, Bool.or_eq_false_iff, Bool.not_eq_true', Bool.not_eq_false', Bool.not_true, Bool.not_false, Bool.false_eq_true, Bool.true_eq_false, Int.not_lt, Int.not_le, ge_iff_le, gt_iff_lt, Bool.not_eq_eq_eq_not, Bool.true_or, Bool.or_true, Bool.false_or, Bool.or_false, Bool.true_and, Bool.and_true, false_or, or_false, true_and, and_true, Decidable.not_not] at hc; constructor <;> first | omega | (simp only [List.length_set, List.length_append, List.length_replicate, List.length_cons, List.length_nil, List.length_take, List.length_drop, List.length_map, List.length_singleton] at *; omega))) ?_) | (refine ⟨_, Cel.load (by assumption) hS rfl, ?_⟩) | (refine ⟨_, fun _ => Cel.load (by assumption) hS rfl, ?_⟩) | (refine go_max ?_) | (refine go_nil ?_) | (refine Cel.store (by assumption) hS (by simp) ?_; intro w1 I1 hC hS; simp [putR] at hC) | (refine st_int (by assumption) hS (by first | omega | (simp only [List.length_set, List.length_append, List.length_replicate, List.length_cons, List.length_nil, List.length_take, List.length_drop, List.length_map, List.length_singleton] at *; omega)) (by first | omega | (simp only [List.length_set, List.length_append, List.length_replicate, List.length_cons, List.length_nil, List.length_take, List.length_drop, List.length_map, List.length_singleton] at *; omega)) (by first | assumption | (constructor <;> first | omega | (simp only [List.length_set, List.length_append, List.length_replicate, List.length_cons, List.length_nil, List.length_take, List.length_drop, List.length_map, List.length_singleton] at *; omega))) ?_; intro w1 I1 hO hS) | (refine st_bool (by assumption) hS (by first | omega | (simp only [List.length_set, List.length_append, List.length_replicate, List.length_cons, List.length_nil, List.length_take, List.length_drop, List.length_map, List.length_singleton] at *; omega)) (by first | omega | (simp only [List.length_set, List.length_append, List.length_replicate, List.length_cons, List.length_nil, List.length_take, List.length_drop, List.length_map, List.length_singleton] at *; omega)) ?_; intro w1 I1 hO hS) | (with_reducible refine And.intro rfl ?_) | (with_reducible refine And.intro (by omega) ?_) | (with_reducible refine And.intro ?_ ?_) | (with_reducible rfl) | assumption | omega | exact hS.sub
        rw [take_nth h0 (by omega)]; intro k hk
        rcases List.mem_append.1 hk with hk | hk
        · exact h2 k hk
        · rw [List.mem_singleton.1 hk]; exact hw
    · simp only [decide_eq_true_eq, decide_eq_false_iff_not, Bool.and_eq_true, Bool.and_eq_false_iff, Bool.or_eq_true, Bool.or_eq_false_iff, Bool.not_eq_true', Bool.not_eq_false', Bool.not_true, Bool.not_false, Bool.false_eq_true, Bool.true_eq_false, Int.not_lt, Int.not_le, ge_iff_le, gt_iff_lt, Bool.not_eq_eq_eq_not, Bool.true_or, Bool.or_true, Bool.false_or, Bool.or_false, Bool.true_and, Bool.and_true, false_or, or_false, true_and, and_true, Decidable.not_not] at hi
      refine ⟨_, c_inRange, ?_, hS.sub⟩
      rw [take_all (by omega)] at h2
      congr 1
      apply Bool.eq_iff_iff.2
      simp only [vcell, icell, decide_eq_true_eq, decide_eq_false_iff_not, Bool.and_eq_true, Bool.and_eq_false_iff, Bool.or_eq_true, Bool.or_eq_false_iff, Bool.not_eq_true', Bool.not_eq_false', Bool.not_true, Bool.not_false, Bool.false_eq_true, Bool.true_eq_false, Int.not_lt, Int.not_le, ge_iff_le, gt_iff_lt, Bool.not_eq_eq_eq_not, Bool.true_or, Bool.or_true, Bool.false_or, Bool.or_false, Bool.true_and, Bool.and_true, false_or, or_false, true_and, and_true, Decidable.not_not, List.all_eq_true]
      constructor
      · rintro ⟨q1, q2⟩
        exact ⟨⟨⟨⟨⟨⟨⟨by omega, by omega⟩, q1⟩, q2⟩, by omega⟩, by omega⟩, fun g hg => ⟨h2 g hg, by omega⟩⟩, by omega⟩
      · rintro ⟨⟨⟨⟨⟨⟨⟨q1, q2⟩, q3⟩, q4⟩, q5⟩, q6⟩, q7⟩, q8⟩
        exact ⟨q3, q4⟩

theorem c_refsOf (hx : Read v x h) (hf3 : ∀ c ∈ h, c.fields.length ≤ 3) : Mk Try.prog 69 #[x.val] v fun r J => ∃ y, r = y.val ∧ Own v y (refL h) J := by
  refine of69 _ _ _ ?_
  unfold vc69
  have hn := hx.n
  have hl := hx.le
  refine St.makeInts (.refl v) (by omega) (by omega) (by decide) ?_
  intro y w1 I1 hO hS hs
  refine ⟨_, rfl, ?_⟩
  refine ⟨fun i w => ∃ I, Own v y (refsW h h.length (words (h.take i.toNat))) I ∧ St v w (I ++ []) ∧ 0 ≤ i ∧ i ≤ h.length, fun i _ => (h.length - i).toNat, ⟨I1, ?_, hS, by omega, by omega⟩, ?_⟩
  · rw [hn] at hO; simpa [words, refsW_nil] using hO
  rintro i w ⟨I, hO, hS, h0, h1⟩
  dsimp only
  refine ⟨fun hi => ?_, fun hi => ?_⟩
  · simp only [decide_eq_true_eq, decide_eq_false_iff_not, Bool.and_eq_true, Bool.and_eq_false_iff, Bool.or_eq_true, Bool.or_eq_false_iff, Bool.not_eq_true', Bool.not_eq_false', Bool.not_true, Bool.not_false, Bool.false_eq_true, Bool.true_eq_false, Int.not_lt, Int.not_le, ge_iff_le, gt_iff_lt, Bool.not_eq_eq_eq_not, Bool.true_or, Bool.or_true, Bool.false_or, Bool.or_false, Bool.true_and, Bool.and_true, false_or, or_false, true_and, and_true, Decidable.not_not] at hi
    have hci := nth_mem h0 (l := h) (by omega)
    have hc3 := hf3 _ hci
    have hwl : (words (h.take i.toNat)).length ≤ 3 * h.length := by
      have := words_len (h := h.take i.toNat) (fun c hc => hf3 c (List.mem_of_mem_take hc))
      rw [List.length_take] at this; omega
    refine ⟨fun j w => ∃ I, Own v y (refsW h h.length (words (h.take i.toNat) ++ (nth h i).fields.take j.toNat)) I ∧ St v w (I ++ []) ∧ 0 ≤ j ∧ j ≤ (nth h i).fields.length, fun j _ => ((nth h i).fields.length - j).toNat, ⟨I, by simpa using hO, hS, by omega, by omega⟩, ?_⟩
    rintro j w ⟨I, hO, hS, j0, j1⟩
    dsimp only
    refine go_ix hx h0 (by omega) ?_
    refine ld_fields (hx.src hS.sub) h0 (by omega) ?_
    intro f hf
    have hfn := hf.n
    refine ⟨fun hj => ?_, fun hj => ?_⟩
    · simp only [decide_eq_true_eq, decide_eq_false_iff_not, Bool.and_eq_true, Bool.and_eq_false_iff, Bool.or_eq_true, Bool.or_eq_false_iff, Bool.not_eq_true', Bool.not_eq_false', Bool.not_true, Bool.not_false, Bool.false_eq_true, Bool.true_eq_false, Int.not_lt, Int.not_le, ge_iff_le, gt_iff_lt, Bool.not_eq_eq_eq_not, Bool.true_or, Bool.or_true, Bool.false_or, Bool.or_false, Bool.true_and, Bool.and_true, false_or, or_false, true_and, and_true, Decidable.not_not] at hj
      refine go_ix hx h0 (by omega) ?_
      refine ld_fields (hx.src hS.sub) h0 (by omega) ?_
      intro f2 hf2
      refine go_ix hf2 j0 (by omega) ?_
      refine ld_int (hf2.mono hS.sub) j0 (by omega) ?_
      intro a0 a1
      have hstep : (nth h i).fields.take (j + 1).toNat = (nth h i).fields.take j.toNat ++ [nth (nth h i).fields j] := take_nth j0 (by omega)
      refine ⟨_, c_isLive (hx.mono hS.sub) ⟨a0, a1⟩, fun hlv => ?_, fun hlv => ?_⟩
      · obtain ⟨p1, p2, p3⟩ := live_spec hlv
        refine go_ix hx h0 (by omega) ?_
        refine ld_fields (hx.src hS.sub) h0 (by omega) ?_
        intro f3 hf3'
        refine go_ix hf3' j0 (by omega) ?_
        refine ld_int (hf3'.mono hS.sub) j0 (by omega) ?_
        intro _ _
        refine go_wr (by omega) (by omega) ?_
        refine go_oix hO (by omega) (by rw [length_refsW]; omega) ?_
        refine ld_int (Own.read hO hS) (by omega) (by rw [length_refsW]; omega) ?_
        intro b0 b1
        have hc := (cnt_le h (words (h.take i.toNat) ++ (nth h i).fields.take j.toNat) (nth (nth h i).fields j - 1000).toNat)
        rw [← nth_refsW (h := h) (n := h.length) (by omega) (by omega), List.length_append, List.length_take] at hc
        refine go_wr (by omega) (by omega) ?_
        refine go_oix hO (by omega) (by rw [length_refsW]; omega) ?_
        refine st_int hO hS (by omega) (by rw [length_refsW]; omega) (by constructor <;> omega) ?_
        intro w2 I2 hO2 hS
        refine go_wr (by omega) (by omega) ?_
        refine ⟨⟨I2, ?_, hS, by omega, by omega⟩, by omega⟩
        rw [hstep, ← List.append_assoc, refsW_live hlv (Nat.le_refl _)]; exact hO2
      · refine go_wr (by omega) (by omega) ?_
        refine ⟨⟨I, ?_, hS, by omega, by omega⟩, by omega⟩
        rw [hstep, ← List.append_assoc, refsW_dead hlv]; exact hO
    · simp only [decide_eq_true_eq, decide_eq_false_iff_not, Bool.and_eq_true, Bool.and_eq_false_iff, Bool.or_eq_true, Bool.or_eq_false_iff, Bool.not_eq_true', Bool.not_eq_false', Bool.not_true, Bool.not_false, Bool.false_eq_true, Bool.true_eq_false, Int.not_lt, Int.not_le, ge_iff_le, gt_iff_lt, Bool.not_eq_eq_eq_not, Bool.true_or, Bool.or_true, Bool.false_or, Bool.or_false, Bool.true_and, Bool.and_true, false_or, or_false, true_and, and_true, Decidable.not_not] at hj
      refine go_wr (by omega) (by omega) ?_
      refine ⟨⟨I, ?_, hS, by omega, by omega⟩, by omega⟩
      rw [words_take h0 (by omega)]
      rw [take_all (l := (nth h i).fields) (by omega)] at hO; exact hO
  · simp only [decide_eq_true_eq, decide_eq_false_iff_not, Bool.and_eq_true, Bool.and_eq_false_iff, Bool.or_eq_true, Bool.or_eq_false_iff, Bool.not_eq_true', Bool.not_eq_false', Bool.not_true, Bool.not_false, Bool.false_eq_true, Bool.true_eq_false, Int.not_lt, Int.not_le, ge_iff_le, gt_iff_lt, Bool.not_eq_eq_eq_not, Bool.true_or, Bool.or_true, Bool.false_or, Bool.or_false, Bool.true_and, Bool.and_true, false_or, or_false, true_and, and_true, Decidable.not_not] at hi
    refine ⟨I, by simpa using hS, y, rfl, ?_⟩
    rw [take_all (by omega)] at hO; exact hO

theorem c_allMarked {ms : List Bool} (hx : Read v x ms) (hy : Read v y l) (hp : ∀ f ∈ l, 1000 ≤ f → f - 1000 < ms.length) : Fn Try.prog 111 #[x.val, y.val] v (.bool (@decide (allM ms l) (Classical.propDecidable _))) := by
  have vt : allM ms l → Value.bool true = .bool (@decide (allM ms l) (Classical.propDecidable _)) := fun h => by rw [@decide_eq_true _ (Classical.propDecidable _) h]
  have vf : ¬ allM ms l → Value.bool false = .bool (@decide (allM ms l) (Classical.propDecidable _)) := fun h => by rw [@decide_eq_false _ (Classical.propDecidable _) h]
  refine of111 _ _ _ _ ?_
  unfold vc111
  have hn := hy.n
  have hl := hy.le
  refine ⟨fun i w => St v w [] ∧ 0 ≤ i ∧ i ≤ l.length ∧ allM ms (l.take i.toNat), fun i _ => (l.length - i).toNat, ⟨.refl v, by omega, by omega, by intro f hf; simp at hf⟩, ?_⟩
  rintro i w ⟨hS, h0, h1, h2⟩
  dsimp only
  refine ⟨fun hi => ?_, fun hi => ?_⟩
  · simp only [decide_eq_true_eq, decide_eq_false_iff_not, Bool.and_eq_true, Bool.and_eq_false_iff, Bool.or_eq_true, Bool.or_eq_false_iff, Bool.not_eq_true', Bool.not_eq_false', Bool.not_true, Bool.not_false, Bool.false_eq_true, Bool.true_eq_false, Int.not_lt, Int.not_le, ge_iff_le, gt_iff_lt, Bool.not_eq_eq_eq_not, Bool.true_or, Bool.or_true, Bool.false_or, Bool.or_false, Bool.true_and, Bool.and_true, false_or, or_false, true_and, and_true, Decidable.not_not] at hi
    have hm := nth_mem (l := l) h0 (by omega)
    refine go_ix hy h0 (by omega) ?_
    refine ld_int (hy.mono hS.sub) h0 (by omega) ?_
    intro a0 a1
    refine ⟨_, c_isPointer, ?_⟩
    refine ⟨fun hc => hy.ix h0 (by omega), ?_⟩
    refine ld_intg (hy.mono hS.sub) (fun hc => ⟨h0, by omega⟩) ?_
    refine ⟨nth l i - 1000, fun hc => wrap_i64 (by simp only [decide_eq_true_eq, decide_eq_false_iff_not, Bool.and_eq_true, Bool.and_eq_false_iff, Bool.or_eq_true, Bool.or_eq_false_iff, Bool.not_eq_true', Bool.not_eq_false', Bool.not_true, Bool.not_false, Bool.false_eq_true, Bool.true_eq_false, Int.not_lt, Int.not_le, ge_iff_le, gt_iff_lt, Bool.not_eq_eq_eq_not, Bool.true_or, Bool.or_true, Bool.false_or, Bool.or_false, Bool.true_and, Bool.and_true, false_or, or_false, true_and, and_true, Decidable.not_not] at hc; omega) (by omega), ?_⟩
    refine ⟨fun hc => hx.ix (by simp only [decide_eq_true_eq, decide_eq_false_iff_not, Bool.and_eq_true, Bool.and_eq_false_iff, Bool.or_eq_true, Bool.or_eq_false_iff, Bool.not_eq_true', Bool.not_eq_false', Bool.not_true, Bool.not_false, Bool.false_eq_true, Bool.true_eq_false, Int.not_lt, Int.not_le, ge_iff_le, gt_iff_lt, Bool.not_eq_eq_eq_not, Bool.true_or, Bool.or_true, Bool.false_or, Bool.or_false, Bool.true_and, Bool.and_true, false_or, or_false, true_and, and_true, Decidable.not_not] at hc; omega) (hp _ hm (by simp only [decide_eq_true_eq, decide_eq_false_iff_not, Bool.and_eq_true, Bool.and_eq_false_iff, Bool.or_eq_true, Bool.or_eq_false_iff, Bool.not_eq_true', Bool.not_eq_false', Bool.not_true, Bool.not_false, Bool.false_eq_true, Bool.true_eq_false, Int.not_lt, Int.not_le, ge_iff_le, gt_iff_lt, Bool.not_eq_eq_eq_not, Bool.true_or, Bool.or_true, Bool.false_or, Bool.or_false, Bool.true_and, Bool.and_true, false_or, or_false, true_and, and_true, Decidable.not_not] at hc; omega)), ?_⟩
    refine ld_boolg (hx.mono hS.sub) (fun hc => ⟨by simp only [decide_eq_true_eq, decide_eq_false_iff_not, Bool.and_eq_true, Bool.and_eq_false_iff, Bool.or_eq_true, Bool.or_eq_false_iff, Bool.not_eq_true', Bool.not_eq_false', Bool.not_true, Bool.not_false, Bool.false_eq_true, Bool.true_eq_false, Int.not_lt, Int.not_le, ge_iff_le, gt_iff_lt, Bool.not_eq_eq_eq_not, Bool.true_or, Bool.or_true, Bool.false_or, Bool.or_false, Bool.true_and, Bool.and_true, false_or, or_false, true_and, and_true, Decidable.not_not] at hc; omega, hp _ hm (by simp only [decide_eq_true_eq, decide_eq_false_iff_not, Bool.and_eq_true, Bool.and_eq_false_iff, Bool.or_eq_true, Bool.or_eq_false_iff, Bool.not_eq_true', Bool.not_eq_false', Bool.not_true, Bool.not_false, Bool.false_eq_true, Bool.true_eq_false, Int.not_lt, Int.not_le, ge_iff_le, gt_iff_lt, Bool.not_eq_eq_eq_not, Bool.true_or, Bool.or_true, Bool.false_or, Bool.or_false, Bool.true_and, Bool.and_true, false_or, or_false, true_and, and_true, Decidable.not_not] at hc; omega)⟩) ?_
    refine ⟨fun hc => ?_, fun hc => ?_⟩
    · simp only [decide_eq_true_eq, decide_eq_false_iff_not, Bool.and_eq_true, Bool.and_eq_false_iff, Bool.or_eq_true, Bool.or_eq_false_iff, Bool.not_eq_true', Bool.not_eq_false', Bool.not_true, Bool.not_false, Bool.false_eq_true, Bool.true_eq_false, Int.not_lt, Int.not_le, ge_iff_le, gt_iff_lt, Bool.not_eq_eq_eq_not, Bool.true_or, Bool.or_true, Bool.false_or, Bool.or_false, Bool.true_and, Bool.and_true, false_or, or_false, true_and, and_true, Decidable.not_not] at hc
      refine ⟨vf fun hh => ?_, hS.sub⟩
      have := hh _ hm hc.1
      rw [hc.2] at this; cases this
    · simp only [decide_eq_true_eq, decide_eq_false_iff_not, Bool.and_eq_true, Bool.and_eq_false_iff, Bool.or_eq_true, Bool.or_eq_false_iff, Bool.not_eq_true', Bool.not_eq_false', Bool.not_true, Bool.not_false, Bool.false_eq_true, Bool.true_eq_false, Int.not_lt, Int.not_le, ge_iff_le, gt_iff_lt, Bool.not_eq_eq_eq_not, Bool.true_or, Bool.or_true, Bool.false_or, Bool.or_false, Bool.true_and, Bool.and_true, false_or, or_false, true_and, and_true, Decidable.not_not] at hc
      refine go_wr (by omega) (by omega) ?_
      refine ⟨⟨hS, by omega, by omega, ?_⟩, by omega⟩
      rw [take_nth h0 (by omega)]; intro k hk hk1
      rcases List.mem_append.1 hk with hk | hk
      · exact h2 k hk hk1
      · rw [List.mem_singleton.1 hk] at hk1 ⊢
        rcases hc with hc | hc
        · omega
        · exact hc
  · simp only [decide_eq_true_eq, decide_eq_false_iff_not, Bool.and_eq_true, Bool.and_eq_false_iff, Bool.or_eq_true, Bool.or_eq_false_iff, Bool.not_eq_true', Bool.not_eq_false', Bool.not_true, Bool.not_false, Bool.false_eq_true, Bool.true_eq_false, Int.not_lt, Int.not_le, ge_iff_le, gt_iff_lt, Bool.not_eq_eq_eq_not, Bool.true_or, Bool.or_true, Bool.false_or, Bool.or_false, Bool.true_and, Bool.and_true, false_or, or_false, true_and, and_true, Decidable.not_not] at hi
    rw [take_all (by omega)] at h2
    exact ⟨vt h2, hS.sub⟩
end
end Go.Vc
